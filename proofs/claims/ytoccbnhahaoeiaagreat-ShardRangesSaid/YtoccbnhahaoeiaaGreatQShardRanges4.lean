/- Parts of the proof of ShardRanges; no condition. -/
import Derived.Shelf.SlLaysM
import Derived.Test.YtoccbnhahaoeiaaGreatProg
import Derived.Test.YtoccbnhahaoeiaaGreatQShardRanges3
namespace Go.Proofs.YtoccbnhahaoeiaaGreat.V
open Go
set_option linter.unusedVariables false
set_option maxRecDepth 100000
def F.xar.j2 (Q : Bool -> H -> Prop) (C1 : Sl -> Sl -> Bool -> Int -> H -> Prop) (x0 : Sl) (x1 : Sl) (x6 : Bool) (x7 : Int) (h : H) : Prop :=
  C1 x0 x1 x6 (IntKind.wrap .i64 (x7 + 1)) h
def F.xar.j3 (Q : Bool -> H -> Prop) (C1 : Sl -> Sl -> Bool -> Int -> H -> Prop) (x0 : Sl) (x1 : Sl) (x6 : Bool) (x7 : Int) (h : H) : Prop :=
  idxA x0 x7 3 fun a8 =>
  stH h a8 ((⟨0, (⟨#[111, 118, 101, 114]⟩ : ByteArray), 0⟩ : S_api_Cell).cells) fun h10 =>
  F.xar.j2 Q C1 x0 x1 x6 x7 h10
def F.xar.l1 (Q : Bool -> H -> Prop) : Nat -> Sl -> Sl -> Bool -> Int -> H -> Prop
  | 0, _, _, _, _, _ => False
  | q1 + 1, x0, x1, x6, x7, h =>
    ((decide (x7 < (x1.len : Int))) = true ->
    (x6 = true ->
    idxA x0 x7 3 fun a12 =>
    ld_S_api_Cell h a12 fun y14 =>
    idxA x1 x7 3 fun a16 =>
    ld_S_api_Cell h a16 fun y18 =>
    F.xar.j3 Q (F.xar.l1 Q q1) x0 x1 ((y14.View == y18.View) && ((y14.Key.toList == y18.Key.toList) && ((y14.Start == y18.Start) && true))) x7 h) ∧
    (x6 = false ->
    F.xar.j3 Q (F.xar.l1 Q q1) x0 x1 false x7 h)) ∧
    ((decide (x7 < (x1.len : Int))) = false ->
    Q x6 h)
def F.xar (p0 : Sl) (p1 : Sl) (h : H) (Q : Bool -> H -> Prop) : Prop :=
  cutL p0 0 (IntKind.wrap .i64 ((p1.len : Int) + 1)) 3 fun s2 =>
  idxA s2 (p1.len : Int) 3 fun a3 =>
  ld_S_api_Cell h a3 fun y5 =>
  ∃ m, F.xar.l1 Q m p0 p1 ((y5.View == (⟨(-77), (⟨#[]⟩ : ByteArray), 0⟩ : S_api_Cell).View) && ((y5.Key.toList == (⟨(-77), (⟨#[]⟩ : ByteArray), 0⟩ : S_api_Cell).Key.toList) && ((y5.Start == (⟨(-77), (⟨#[]⟩ : ByteArray), 0⟩ : S_api_Cell).Start) && true))) 0 h
theorem F.xar_ok {p0 : Sl} {p1 : Sl} {h : H} {Q : Bool -> H -> Prop} (H : F.xar p0 p1 h Q) : Fn PP 52 ([p0.enc, p1.enc] : List Value).toArray h fun r h' => ∃ r0, r = (.bool r0) ∧ Q r0 h' := by
 unfold F.xar at H;refine fn_of Tryz.func52 Tryz.ntmps52 rfl rfl fun w0 => (tr_sub [(0, p0.enc), (1, p1.enc)] ⟨rfl, rfl, trivial⟩ (tr_seq (tr_region (tq (y_assign rfl) (tr_nil (tr_thenN (tr_seq (tr_region (tq (y_move rfl) (tq (y_move rfl) (tq (y_len (ts := #[]) Tryz.runUnderlying23 (o := p1.ptr) (n := p1.len) (cap := p1.cap) rfl) (tq (y_add rfl rfl) ?_))))))))))));obtain ⟨s2, e1, H⟩ := H;refine tq (f_cutL (s := p0) none (some (.i64, (IntKind.wrap .i64 ((p1.len : Int) + 1)))) Tryz.runUnderlying23 Tryz.sizeOf32 rfl rfl rfl e1) (tq (y_assign rfl) (tr_nil (tr_thenN (tr_seq (tr_region (tq (y_move rfl) (tq (y_move rfl) (tq (y_len (ts := #[]) Tryz.runUnderlying23 (o := p1.ptr) (n := p1.len) (cap := p1.cap) rfl) ?_))))))));obtain ⟨a3, e4, H⟩ := H;refine tq (f_idx (s := s2) Tryz.runUnderlying23 Tryz.sizeOf32 rfl rfl e4) ?_;obtain ⟨y5, k6, H⟩ := H;refine tr_h (y_ldS Tryz.isAgg32 Tryz.sizeOf32 rfl rfl) k6 rfl rfl (tq (f_build rfl (bd_32_0 (-77))) (tq (st_eql (b := ((y5.View == (⟨(-77), (⟨#[]⟩ : ByteArray), 0⟩ : S_api_Cell).View) && ((y5.Key.toList == (⟨(-77), (⟨#[]⟩ : ByteArray), 0⟩ : S_api_Cell).Key.toList) && ((y5.Start == (⟨(-77), (⟨#[]⟩ : ByteArray), 0⟩ : S_api_Cell).Start) && true)))) eqg_32 (fun w => eqst_32 y5 (⟨(-77), (⟨#[]⟩ : ByteArray), 0⟩ : S_api_Cell) 9998 w) rfl rfl) (tq (y_assign rfl) (tr_nil (tr_thenN (tr_seq (tr_seq (tr_region (tq (y_assign rfl) (tr_nil (tr_thenN (tr_block ?_))))))))))));obtain ⟨m20, H⟩ := H;refine tr_sub [(0, p0.enc), (1, p1.enc), (6, (.bool ((y5.View == (⟨(-77), (⟨#[]⟩ : ByteArray), 0⟩ : S_api_Cell).View) && ((y5.Key.toList == (⟨(-77), (⟨#[]⟩ : ByteArray), 0⟩ : S_api_Cell).Key.toList) && ((y5.Start == (⟨(-77), (⟨#[]⟩ : ByteArray), 0⟩ : S_api_Cell).Start) && true))))), (7, (.int .i64 0))] ⟨rfl, rfl, rfl, rfl, trivial⟩ ?_;refine tr_loop_j (fun m L' h => ∃ (x0 : Sl) (x1 : Sl) (x6 : Bool) (x7 : Int), L' = [(0, x0.enc), (1, x1.enc), (6, (.bool x6)), (7, (.int .i64 x7))] ∧ F.xar.l1 Q m x0 x1 x6 x7 h) ?_ ?_ m20 ⟨_, _, _, _, rfl, H⟩
 ·rintro L' h ⟨_, _, _, _, _, H⟩; exact H
 ·rintro q1 L' h ⟨x0, x1, x6, x7, rfl, H⟩;unfold F.xar.l1 at H;refine tr_seq (tr_seq (tr_region (tq (y_move rfl) (tq (y_move rfl) (tq (y_len (ts := #[]) Tryz.runUnderlying23 (o := x1.ptr) (n := x1.len) (cap := x1.cap) rfl) (tq (y_lss rfl rfl) (tr_nil (tr_thenN ?_))))))));refine tr_cond rfl (fun g7 => ?_) (fun g7 => ?_)
  ·replace H := H.1 g7;refine tr_skip (tr_thenN ?_);refine tr_seq_j (fun L' h => ∃ (x0 : Sl) (x1 : Sl) (x6 : Bool) (x7 : Int), L' = [(0, x0.enc), (1, x1.enc), (6, (.bool x6)), (7, (.int .i64 x7))] ∧ F.xar.j2 Q (F.xar.l1 Q q1) x0 x1 x6 x7 h) ?_ ?_
   ·rintro L' h ⟨x0, x1, x6, x7, rfl, H⟩;unfold F.xar.j2 at H;refine tr_region (tq (y_move rfl) (tq (y_add rfl rfl) (tq (y_assign rfl) (tr_nil (tr_thenN ?_)))));exact tr_join [(0, x0.enc), (1, x1.enc), (6, (.bool x6)), (7, (.int .i64 (IntKind.wrap .i64 (x7 + 1))))] ⟨rfl, rfl, rfl, rfl, trivial⟩ ⟨_, _, _, _, rfl, H⟩
   ·refine tr_block ?_;refine tr_seq_j (fun L' h => ∃ (x0 : Sl) (x1 : Sl) (x6 : Bool) (x7 : Int), L' = [(0, x0.enc), (1, x1.enc), (6, (.bool x6)), (7, (.int .i64 x7))] ∧ F.xar.j3 Q (F.xar.l1 Q q1) x0 x1 x6 x7 h) ?_ ?_
    ·rintro L' h ⟨x0, x1, x6, x7, rfl, H⟩;unfold F.xar.j3 at H;refine tr_region (tq (y_move rfl) (tq (y_move rfl) (tq (f_build rfl (bd_32_1 (⟨#[111, 118, 101, 114]⟩ : ByteArray))) ?_)));obtain ⟨a8, e9, H⟩ := H;refine tq (f_idx (s := x0) Tryz.runUnderlying23 Tryz.sizeOf32 rfl rfl e9) (tr_e (f_store (vs := (⟨0, (⟨#[111, 118, 101, 114]⟩ : ByteArray), 0⟩ : S_api_Cell).cells) Tryz.sizeOf32 rfl rfl cellsOfStruct rfl (by intro v hv; exact ones_S_api_Cell _ v hv) H) rfl rfl ?_);rintro _ h10 ⟨rfl, H⟩;refine tr_nil (tr_blockN (tr_thenN ?_));exact tr_join [(0, x0.enc), (1, x1.enc), (6, (.bool x6)), (7, (.int .i64 x7))] ⟨rfl, rfl, rfl, rfl, trivial⟩ ⟨_, _, _, _, rfl, H⟩
    ·refine tr_draw mixed [0, 1, 3, 3, 15, 31, 3, 3, 195, 451, 1023, 2047, 4095] (by kernel_rfl) (g_p 0 1 rfl (by kernel_rfl) (y_move rfl) rfl rfl (g_p 1 3 rfl (by kernel_rfl) (y_move rfl) rfl rfl ?_));refine g_split (t := 27) rfl (fun g11 => ?_) (fun g11 => ?_)
     ·replace H := H.1 g11;refine g_p 2 7 rfl (by kernel_rfl) (y_move rfl) rfl rfl (g_p 3 15 rfl (by kernel_rfl) (y_move rfl) rfl rfl ?_);obtain ⟨a12, e13, H⟩ := H;refine g_p 4 31 rfl (by kernel_rfl) (f_idx (s := x0) Tryz.runUnderlying23 Tryz.sizeOf32 rfl rfl e13) rfl rfl ?_;obtain ⟨y14, k15, H⟩ := H;refine g_h 5 63 rfl (by kernel_rfl) (y_ldS Tryz.isAgg32 Tryz.sizeOf32 rfl rfl) k15 rfl rfl (g_p 6 127 rfl (by kernel_rfl) (y_move rfl) rfl rfl (g_p 7 255 rfl (by kernel_rfl) (y_move rfl) rfl rfl ?_));obtain ⟨a16, e17, H⟩ := H;refine g_p 8 511 rfl (by kernel_rfl) (f_idx (s := x1) Tryz.runUnderlying23 Tryz.sizeOf32 rfl rfl e17) rfl rfl ?_;obtain ⟨y18, k19, H⟩ := H;refine g_h 9 1023 rfl (by kernel_rfl) (y_ldS Tryz.isAgg32 Tryz.sizeOf32 rfl rfl) k19 rfl rfl (g_p 10 2047 rfl (by kernel_rfl) (st_eql (b := ((y14.View == y18.View) && ((y14.Key.toList == y18.Key.toList) && ((y14.Start == y18.Start) && true)))) eqg_32 (fun w => eqst_32 y14 y18 9998 w) rfl rfl) rfl rfl (g_p 11 4095 rfl (by kernel_rfl) (y_pick_t rfl rfl) rfl rfl (g_e 12 8191 [] (by kernel_rfl) rfl (by kernel_rfl) (yp_ev (y_assign rfl)) rfl rfl ?_)));rintro _ _ ⟨rfl, rfl⟩;refine ⟨trivial, ?_⟩;refine g_d (by kernel_rfl) (tr_thenN ?_);exact tr_join [(0, x0.enc), (1, x1.enc), (6, (.bool ((y14.View == y18.View) && ((y14.Key.toList == y18.Key.toList) && ((y14.Start == y18.Start) && true))))), (7, (.int .i64 x7))] ⟨rfl, rfl, rfl, rfl, trivial⟩ ⟨_, _, _, _, rfl, H⟩
     ·replace H := H.2 g11;refine g_s 2 7 rfl (by kernel_rfl) rfl rfl (g_s 3 15 rfl (by kernel_rfl) rfl rfl (g_s 4 31 rfl (by kernel_rfl) rfl rfl (g_s 5 63 rfl (by kernel_rfl) rfl rfl (g_s 6 127 rfl (by kernel_rfl) rfl rfl (g_s 7 255 rfl (by kernel_rfl) rfl rfl (g_s 8 511 rfl (by kernel_rfl) rfl rfl (g_s 9 1023 rfl (by kernel_rfl) rfl rfl (g_s 10 2047 rfl (by kernel_rfl) rfl rfl (g_p 11 4095 rfl (by kernel_rfl) (y_pick_f rfl rfl) rfl rfl (g_e 12 8191 [] (by kernel_rfl) rfl (by kernel_rfl) (yp_ev (y_assign rfl)) rfl rfl ?_))))))))));rintro _ _ ⟨rfl, rfl⟩;refine ⟨trivial, ?_⟩;refine g_d (by kernel_rfl) (tr_thenN ?_);exact tr_join [(0, x0.enc), (1, x1.enc), (6, (.bool false)), (7, (.int .i64 x7))] ⟨rfl, rfl, rfl, rfl, trivial⟩ ⟨_, _, _, _, rfl, H⟩
  ·replace H := H.2 g7;refine tr_exit (tr_thenE (tr_thenE (tr_hit (tr_thenN (tr_seq (tr_region (tq (y_move rfl) (tq (y_assign rfl) (tr_nil (tr_thenN (tr_ret ?_)))))))))));exact tr_ret1 rfl rfl ⟨_, rfl, H⟩
def F.xdv (p0 : S_api_Cell) (p1 : Addr) (p2 : Addr) (h : H) (Q : Bool -> H -> Prop) : Prop :=
  new h p0.cells.toArray ty_32 fun a2 h1 =>
  ld_S_api_Cell h1 p1 fun y3 =>
  ld_S_api_Cell h1 a2 fun y5 =>
  F.xcq y3 y5 h1 fun r8 h7 =>
  ((decide (r8 <= 0)) = true ->
  ld_S_api_Cell h7 a2 fun y10 =>
  ld_S_api_Cell h7 p2 fun y12 =>
  F.xcq y10 y12 h7 fun r15 h14 =>
  Q (decide (r15 < 0)) h14) ∧
  ((decide (r8 <= 0)) = false ->
  Q false h7)
theorem F.xdv_ok {p0 : S_api_Cell} {p1 : Addr} {p2 : Addr} {h : H} {Q : Bool -> H -> Prop} (H : F.xdv p0 p1 p2 h Q) : Fn PP 58 ([(.agg p0.cells.toArray), (.pointer (some p1)), (.pointer (some p2))] : List Value).toArray h fun r h' => ∃ r0, r = (.bool r0) ∧ Q r0 h' := by
 unfold F.xdv at H;refine fn_of Tryz.func58 Tryz.ntmps58 rfl rfl fun w0 => (tr_sub [(0, (.agg p0.cells.toArray)), (1, (.pointer (some p1))), (2, (.pointer (some p2)))] ⟨rfl, rfl, rfl, trivial⟩ (tr_seq (tr_region (tr_e (f_box (cs := p0.cells.toArray) rfl rfl H) rfl rfl ?_))));rintro _ h1 ⟨a2, rfl, H⟩;refine tq (y_assign rfl) (tr_nil (tr_thenN (tr_seq (tr_region ?_))));obtain ⟨y3, k4, H⟩ := H;refine tr_h (y_ldS Tryz.isAgg32 Tryz.sizeOf32 rfl rfl) k4 rfl rfl ?_;obtain ⟨y5, k6, H⟩ := H;refine tr_h (y_ldS Tryz.isAgg32 Tryz.sizeOf32 rfl rfl) k6 rfl rfl (tr_e (e_call Tryz.call36 rfl (F.xcq_ok H)) rfl rfl ?_);rintro _ h7 ⟨r8, rfl, H⟩;refine tq (y_leq rfl rfl) (tq (y_move rfl) ?_);refine tr_split (t := 9) rfl (fun g9 => ?_) (fun g9 => ?_)
 ·replace H := H.1 g9;obtain ⟨y10, k11, H⟩ := H;refine tr_h (y_ldS Tryz.isAgg32 Tryz.sizeOf32 rfl rfl) k11 rfl rfl ?_;obtain ⟨y12, k13, H⟩ := H;refine tr_h (y_ldS Tryz.isAgg32 Tryz.sizeOf32 rfl rfl) k13 rfl rfl (tr_e (e_call Tryz.call36 rfl (F.xcq_ok H)) rfl rfl ?_);rintro _ h14 ⟨r15, rfl, H⟩;refine tq (y_lss rfl rfl) (tq (y_pick_t rfl rfl) (tq (y_assign rfl) (tr_nil (tr_thenN (tr_ret ?_)))));exact tr_ret1 rfl rfl ⟨_, rfl, H⟩
 ·replace H := H.2 g9;refine ts (ts (ts (ts (tq (y_pick_f rfl rfl) (tq (y_assign rfl) (tr_nil (tr_thenN (tr_ret ?_))))))));exact tr_ret1 rfl rfl ⟨_, rfl, H⟩
def F.xbb.l2 (Q : S_api_Cell -> Int -> H -> Prop) : Nat -> ByteArray -> Addr -> Addr -> Int -> Sl -> Int -> H -> Prop
  | 0, _, _, _, _, _, _, _ => False
  | q2 + 1, x0, x2, x4, x5, x6, x8, h =>
    ((decide (x5 < (x0.size : Int))) = true ->
    0 <= (8 : Int) ∧
    idxS x0 x5 fun b42 =>
    (F.xbb.l2 Q q2) x0 x2 x4 (IntKind.wrap .i64 (x5 + 1)) x6 (bitsOf .or .u64 (IntKind.wrap .u64 (x8 * (2 ^ (min (8 : Int).toNat (IntKind.bits .u64)) : Int))) (IntKind.wrap .u64 b42)) h) ∧
    ((decide (x5 < (x0.size : Int))) = false ->
    runT PP (convert 73 9 x6.enc) h fun s45 h44 =>
    stH h44 (x4.add 1) [(.string s45)] fun h46 =>
    stH h46 (x4.add 2) [(.int .i64 (IntKind.wrap .i64 (IntKind.wrap .u64 (x8 - 9223372036854775808))))] fun h47 =>
    ld_S_api_Cell h47 x4 fun y48 =>
    F.xbd y48 h47 fun r51 h50 =>
    (((r51 != 0)) = true ->
    stH h50 x2 ((⟨0, (⟨#[]⟩ : ByteArray), 0⟩ : S_api_Cell).cells) fun h53 =>
    ld_S_api_Cell h53 x2 fun y54 =>
    Q y54 r51 h53) ∧
    (((r51 != 0)) = false ->
    ld_S_api_Cell h50 x4 fun y56 =>
    stH h50 x2 y56.cells fun h58 =>
    ld_S_api_Cell h58 x2 fun y59 =>
    Q y59 0 h58))
def F.xbb.l1 (Q : S_api_Cell -> Int -> H -> Prop) : Nat -> ByteArray -> Addr -> Addr -> Int -> Sl -> H -> Prop
  | 0, _, _, _, _, _, _ => False
  | q1 + 1, x0, x2, x4, x5, x6, h =>
    (((x5 == (x0.size : Int))) = true ->
    stH h x2 ((⟨0, (⟨#[]⟩ : ByteArray), 0⟩ : S_api_Cell).cells) fun h13 =>
    ld_S_api_Cell h13 x2 fun y14 =>
    Q y14 11 h13) ∧
    (((x5 == (x0.size : Int))) = false ->
    idxS x0 x5 fun b16 =>
    (((b16 != 0)) = true ->
    idxS x0 x5 fun b19 =>
    newL h #[(.int .u8 b19)] ty_5 1 fun s22 h21 =>
    runL PP (Builtin.append_ #[73, 73] 73 #[x6.enc, s22.enc]) h21 fun s24 h23 =>
    (F.xbb.l1 Q q1) x0 x2 x4 (IntKind.wrap .i64 (x5 + 1)) s24 h23) ∧
    (((b16 != 0)) = false ->
    ((((IntKind.wrap .i64 (x5 + 1)) == (x0.size : Int))) = true ->
    stH h x2 ((⟨0, (⟨#[]⟩ : ByteArray), 0⟩ : S_api_Cell).cells) fun h26 =>
    ld_S_api_Cell h26 x2 fun y27 =>
    Q y27 11 h26) ∧
    ((((IntKind.wrap .i64 (x5 + 1)) == (x0.size : Int))) = false ->
    idxS x0 (IntKind.wrap .i64 ((IntKind.wrap .i64 (x5 + 2)) - 1)) fun b29 =>
    (((b29 == 1)) = true ->
    ((decide ((IntKind.wrap .i64 ((x0.size : Int) - (IntKind.wrap .i64 (x5 + 2)))) < 8)) = true ->
    stH h x2 ((⟨0, (⟨#[]⟩ : ByteArray), 0⟩ : S_api_Cell).cells) fun h33 =>
    ld_S_api_Cell h33 x2 fun y34 =>
    Q y34 11 h33) ∧
    ((decide ((IntKind.wrap .i64 ((x0.size : Int) - (IntKind.wrap .i64 (x5 + 2)))) < 8)) = false ->
    ((decide ((IntKind.wrap .i64 ((x0.size : Int) - (IntKind.wrap .i64 (x5 + 2)))) > 8)) = true ->
    stH h x2 ((⟨0, (⟨#[]⟩ : ByteArray), 0⟩ : S_api_Cell).cells) fun h37 =>
    ld_S_api_Cell h37 x2 fun y38 =>
    Q y38 13 h37) ∧
    ((decide ((IntKind.wrap .i64 ((x0.size : Int) - (IntKind.wrap .i64 (x5 + 2)))) > 8)) = false ->
    ∃ m, F.xbb.l2 Q m x0 x2 x4 (IntKind.wrap .i64 (x5 + 2)) x6 0 h))) ∧
    (((b29 == 1)) = false ->
    idxS x0 (IntKind.wrap .i64 ((IntKind.wrap .i64 (x5 + 2)) - 1)) fun b62 =>
    (((b62 != 255)) = true ->
    stH h x2 ((⟨0, (⟨#[]⟩ : ByteArray), 0⟩ : S_api_Cell).cells) fun h65 =>
    ld_S_api_Cell h65 x2 fun y66 =>
    Q y66 12 h65) ∧
    (((b62 != 255)) = false ->
    newL h #[(.int .u8 0)] ty_5 1 fun s69 h68 =>
    runL PP (Builtin.append_ #[73, 73] 73 #[x6.enc, s69.enc]) h68 fun s71 h70 =>
    (F.xbb.l1 Q q1) x0 x2 x4 (IntKind.wrap .i64 (x5 + 2)) s71 h70)))))
def F.xbb (p0 : ByteArray) (h : H) (Q : S_api_Cell -> Int -> H -> Prop) : Prop :=
  new h (((⟨0, (⟨#[]⟩ : ByteArray), 0⟩ : S_api_Cell) : S_api_Cell).cells.toArray) ty_32 fun a2 h1 =>
  ((p0.toList == (⟨#[]⟩ : ByteArray).toList) = true ->
  stH h1 a2 ((⟨0, (⟨#[]⟩ : ByteArray), 0⟩ : S_api_Cell).cells) fun h4 =>
  ld_S_api_Cell h4 a2 fun y5 =>
  Q y5 11 h4) ∧
  ((p0.toList == (⟨#[]⟩ : ByteArray).toList) = false ->
  idxS p0 0 fun b7 =>
  new h1 (((⟨0, (⟨#[]⟩ : ByteArray), 0⟩ : S_api_Cell) : S_api_Cell).cells.toArray) ty_32 fun a10 h9 =>
  stH h9 a10 ((⟨(IntKind.wrap .i64 b7), (⟨#[]⟩ : ByteArray), 0⟩ : S_api_Cell).cells) fun h11 =>
  ∃ m, F.xbb.l1 Q m p0 a2 a10 1 (⟨none, 0, 0⟩ : Sl) h11)
theorem F.xbb_ok {p0 : ByteArray} {h : H} {Q : S_api_Cell -> Int -> H -> Prop} (H : F.xbb p0 h Q) : Fn PP 60 ([(.string p0)] : List Value).toArray h fun r h' => ∃ r0 r1, r = .tuple #[(.agg r0.cells.toArray), (.int .i64 r1)] ∧ Q r0 r1 h' := by
 unfold F.xbb at H;refine fn_of Tryz.func60 Tryz.ntmps60 rfl rfl fun w0 => (tr_sub [(0, (.string p0))] ⟨rfl, trivial⟩ (tr_seq (tr_region (tr_e (f_alloc (cs := ((⟨0, (⟨#[]⟩ : ByteArray), 0⟩ : S_api_Cell) : S_api_Cell).cells.toArray) Tryz.zeroValue32 rfl H) rfl rfl ?_))));rintro _ h1 ⟨a2, rfl, H⟩;refine tq (y_assign rfl) (tr_nil (tr_thenN (tr_seq (tr_seq (tr_region (tq (y_move rfl) (tq (y_seql rfl rfl) (tr_nil (tr_thenN ?_)))))))));refine tr_cond rfl (fun g3 => ?_) (fun g3 => ?_)
 ·replace H := H.1 g3;refine tr_seq (tr_region (tq (f_build rfl (bd_32_ )) (tr_e (f_store (vs := (⟨0, (⟨#[]⟩ : ByteArray), 0⟩ : S_api_Cell).cells) Tryz.sizeOf32 rfl rfl cellsOfStruct rfl (by intro v hv; exact ones_S_api_Cell _ v hv) H) rfl rfl ?_)));rintro _ h4 ⟨rfl, H⟩;refine tq (y_assign rfl) (tr_nil (tr_thenN (tr_ret (tr_thenR ?_))));obtain ⟨y5, k6, H⟩ := H;exact tr_rv2 rfl (rv_cellS Tryz.isAgg32 Tryz.sizeOf32 rfl rfl k6) (rv_tmp rfl) ⟨_, _, rfl, H⟩
 ·replace H := H.2 g3;refine tr_skip (tr_thenN (tr_seq (tr_region (tq (y_move rfl) ?_))));obtain ⟨b7, e8, H⟩ := H;refine tq (f_idxS Tryz.runUnderlying9 rfl rfl e8) (tq (y_cvt Tryz.runUnderlying5 Tryz.runUnderlying3 rfl) (tq (f_build rfl (bd_32_0 (IntKind.wrap .i64 b7))) (tr_e (f_alloc (cs := ((⟨0, (⟨#[]⟩ : ByteArray), 0⟩ : S_api_Cell) : S_api_Cell).cells.toArray) Tryz.zeroValue32 rfl H) rfl rfl ?_)));rintro _ h9 ⟨a10, rfl, H⟩;refine tr_e (f_store (vs := (⟨(IntKind.wrap .i64 b7), (⟨#[]⟩ : ByteArray), 0⟩ : S_api_Cell).cells) Tryz.sizeOf32 rfl rfl cellsOfStruct rfl (by intro v hv; exact ones_S_api_Cell _ v hv) H) rfl rfl ?_;rintro _ h11 ⟨rfl, H⟩;refine tr_nil (tr_thenN (tr_seq (tr_region (tq (y_assign rfl) (tr_nil (tr_thenN (tr_seq (tr_region (tq (y_assign rfl) (tr_nil (tr_thenN (tr_seq (tr_block ?_)))))))))))));obtain ⟨m72, H⟩ := H;refine tr_sub [(0, (.string p0)), (2, (.pointer (some a2))), (4, (.pointer (some a10))), (5, (.int .i64 1)), (6, (⟨none, 0, 0⟩ : Sl).enc)] ⟨rfl, rfl, rfl, rfl, rfl, trivial⟩ ?_;refine tr_loop_j (fun m L' h => ∃ (x0 : ByteArray) (x2 : Addr) (x4 : Addr) (x5 : Int) (x6 : Sl), L' = [(0, (.string x0)), (2, (.pointer (some x2))), (4, (.pointer (some x4))), (5, (.int .i64 x5)), (6, x6.enc)] ∧ F.xbb.l1 Q m x0 x2 x4 x5 x6 h) ?_ ?_ m72 ⟨_, _, _, _, _, rfl, H⟩
  ·rintro L' h ⟨_, _, _, _, _, _, H⟩; exact H
  ·rintro q1 L' h ⟨x0, x2, x4, x5, x6, rfl, H⟩;unfold F.xbb.l1 at H;refine tr_block (tr_seq (tr_seq (tr_region (tq (y_move rfl) (tq (y_move rfl) (tq (y_lenS Tryz.runUnderlying9 rfl) (tq (y_eql rfl rfl) (tr_nil (tr_thenN ?_)))))))));refine tr_cond rfl (fun g12 => ?_) (fun g12 => ?_)
   ·replace H := H.1 g12;refine tr_seq (tr_region (tq (f_build rfl (bd_32_ )) (tr_e (f_store (vs := (⟨0, (⟨#[]⟩ : ByteArray), 0⟩ : S_api_Cell).cells) Tryz.sizeOf32 rfl rfl cellsOfStruct rfl (by intro v hv; exact ones_S_api_Cell _ v hv) H) rfl rfl ?_)));rintro _ h13 ⟨rfl, H⟩;refine tq (y_assign rfl) (tr_nil (tr_thenN (tr_ret (tr_thenR (tr_blockR (tr_thenR (tr_blockR (tr_thenR ?_))))))));obtain ⟨y14, k15, H⟩ := H;exact tr_rv2 rfl (rv_cellS Tryz.isAgg32 Tryz.sizeOf32 rfl rfl k15) (rv_tmp rfl) ⟨_, _, rfl, H⟩
   ·replace H := H.2 g12;refine tr_skip (tr_thenN (tr_seq (tr_seq (tr_region (tq (y_move rfl) (tq (y_move rfl) ?_))))));obtain ⟨b16, e17, H⟩ := H;refine tq (f_idxS Tryz.runUnderlying9 rfl rfl e17) (tq (y_neq rfl rfl) (tr_nil (tr_thenN ?_)));refine tr_cond rfl (fun g18 => ?_) (fun g18 => ?_)
    ·replace H := H.1 g18;refine tr_seq (tr_region (tq (y_move rfl) (tq (y_move rfl) (tq (y_move rfl) ?_))));obtain ⟨b19, e20, H⟩ := H;refine tq (f_idxS Tryz.runUnderlying9 rfl rfl e20) (tr_e (f_buildL (cs := #[(.int .u8 b19)]) rfl rfl (bl_73_1_0 b19) H) rfl rfl ?_);rintro _ h21 ⟨s22, rfl, H⟩;refine tr_e (f_app rfl H) rfl rfl ?_;rintro _ h23 ⟨s24, rfl, H⟩;refine tq (y_assign rfl) (tr_nil (tr_thenN (tr_seq (tr_region (tq (y_move rfl) (tq (y_add rfl rfl) (tq (y_assign rfl) (tr_nil (tr_thenN (tr_exit (tr_thenE (tr_hit (tr_thenN ?_)))))))))))));exact tr_join [(0, (.string x0)), (2, (.pointer (some x2))), (4, (.pointer (some x4))), (5, (.int .i64 (IntKind.wrap .i64 (x5 + 1)))), (6, s24.enc)] ⟨rfl, rfl, rfl, rfl, rfl, trivial⟩ ⟨_, _, _, _, _, rfl, H⟩
    ·replace H := H.2 g18;refine tr_skip (tr_thenN (tr_seq (tr_seq (tr_region (tq (y_move rfl) (tq (y_add rfl rfl) (tq (y_move rfl) (tq (y_lenS Tryz.runUnderlying9 rfl) (tq (y_eql rfl rfl) (tr_nil (tr_thenN ?_)))))))))));refine tr_cond rfl (fun g25 => ?_) (fun g25 => ?_)
     ·replace H := H.1 g25;refine tr_seq (tr_region (tq (f_build rfl (bd_32_ )) (tr_e (f_store (vs := (⟨0, (⟨#[]⟩ : ByteArray), 0⟩ : S_api_Cell).cells) Tryz.sizeOf32 rfl rfl cellsOfStruct rfl (by intro v hv; exact ones_S_api_Cell _ v hv) H) rfl rfl ?_)));rintro _ h26 ⟨rfl, H⟩;refine tq (y_assign rfl) (tr_nil (tr_thenN (tr_ret (tr_thenR (tr_blockR (tr_thenR (tr_blockR (tr_thenR ?_))))))));obtain ⟨y27, k28, H⟩ := H;exact tr_rv2 rfl (rv_cellS Tryz.isAgg32 Tryz.sizeOf32 rfl rfl k28) (rv_tmp rfl) ⟨_, _, rfl, H⟩
     ·replace H := H.2 g25;refine tr_skip (tr_thenN (tr_seq (tr_region (tq (y_move rfl) (tq (y_add rfl rfl) (tq (y_assign rfl) (tr_nil (tr_thenN (tr_seq (tr_seq (tr_region (tq (y_move rfl) (tq (y_move rfl) ?_)))))))))))));refine tq (y_sub rfl rfl) ?_;obtain ⟨b29, e30, H⟩ := H;refine tq (f_idxS Tryz.runUnderlying9 rfl rfl e30) (tq (y_eql rfl rfl) (tr_nil (tr_thenN ?_)));refine tr_cond rfl (fun g31 => ?_) (fun g31 => ?_)
      ·replace H := H.1 g31;refine tr_exit (tr_thenE (tr_miss rfl (tr_thenE (tr_hit (tr_thenN (tr_seq (tr_seq (tr_region (tq (y_move rfl) (tq (y_lenS Tryz.runUnderlying9 rfl) (tq (y_move rfl) (tq (y_sub rfl rfl) (tq (y_assign rfl) ?_)))))))))))));refine tr_nil (tr_thenN (tr_block (tr_seq (tr_region (tq (y_move rfl) (tq (y_lss rfl rfl) (tq (y_assign rfl) (tr_nil (tr_thenN ?_)))))))));refine tr_cond rfl (fun g32 => ?_) (fun g32 => ?_)
       ·replace H := H.1 g32;refine tr_seq (tr_region (tq (f_build rfl (bd_32_ )) (tr_e (f_store (vs := (⟨0, (⟨#[]⟩ : ByteArray), 0⟩ : S_api_Cell).cells) Tryz.sizeOf32 rfl rfl cellsOfStruct rfl (by intro v hv; exact ones_S_api_Cell _ v hv) H) rfl rfl ?_)));rintro _ h33 ⟨rfl, H⟩;refine tq (y_assign rfl) (tr_nil (tr_thenN (tr_ret (tr_blockR (tr_thenR ?_)))));obtain ⟨y34, k35, H⟩ := H;exact tr_rv2 rfl (rv_cellS Tryz.isAgg32 Tryz.sizeOf32 rfl rfl k35) (rv_tmp rfl) ⟨_, _, rfl, H⟩
       ·replace H := H.2 g32;refine tr_seq (tr_region (tq (y_move rfl) (tq (y_gtr rfl rfl) (tq (y_assign rfl) (tr_nil (tr_thenN ?_))))));refine tr_cond rfl (fun g36 => ?_) (fun g36 => ?_)
        ·replace H := H.1 g36;refine tr_seq (tr_region (tq (f_build rfl (bd_32_ )) (tr_e (f_store (vs := (⟨0, (⟨#[]⟩ : ByteArray), 0⟩ : S_api_Cell).cells) Tryz.sizeOf32 rfl rfl cellsOfStruct rfl (by intro v hv; exact ones_S_api_Cell _ v hv) H) rfl rfl ?_)));rintro _ h37 ⟨rfl, H⟩;refine tq (y_assign rfl) (tr_nil (tr_thenN (tr_ret (tr_blockR (tr_thenR ?_)))));obtain ⟨y38, k39, H⟩ := H;exact tr_rv2 rfl (rv_cellS Tryz.isAgg32 Tryz.sizeOf32 rfl rfl k39) (rv_tmp rfl) ⟨_, _, rfl, H⟩
        ·replace H := H.2 g36;refine tr_skip (tr_blockN (tr_thenN (tr_seq (tr_region (tq (y_assign rfl) (tr_nil (tr_thenN (tr_seq (tr_block ?_)))))))));obtain ⟨m61, H⟩ := H;refine tr_sub [(0, (.string x0)), (2, (.pointer (some x2))), (4, (.pointer (some x4))), (5, (.int .i64 (IntKind.wrap .i64 (x5 + 2)))), (6, x6.enc), (8, (.int .u64 0))] ⟨rfl, rfl, rfl, rfl, rfl, rfl, trivial⟩ ?_;refine tr_loop_j (fun m L' h => ∃ (x0 : ByteArray) (x2 : Addr) (x4 : Addr) (x5 : Int) (x6 : Sl) (x8 : Int), L' = [(0, (.string x0)), (2, (.pointer (some x2))), (4, (.pointer (some x4))), (5, (.int .i64 x5)), (6, x6.enc), (8, (.int .u64 x8))] ∧ F.xbb.l2 Q m x0 x2 x4 x5 x6 x8 h) ?_ ?_ m61 ⟨_, _, _, _, _, _, rfl, H⟩
         ·rintro L' h ⟨_, _, _, _, _, _, _, H⟩; exact H
         ·rintro q2 L' h ⟨x0, x2, x4, x5, x6, x8, rfl, H⟩;unfold F.xbb.l2 at H;refine tr_seq (tr_seq (tr_region (tq (y_move rfl) (tq (y_move rfl) (tq (y_lenS Tryz.runUnderlying9 rfl) (tq (y_lss rfl rfl) (tr_nil (tr_thenN ?_))))))));refine tr_cond rfl (fun g40 => ?_) (fun g40 => ?_)
          ·replace H := H.1 g40;refine tr_skip (tr_thenN (tr_seq (tr_block (tr_region (tq (y_move rfl) ?_)))));obtain ⟨e41, H⟩ := H;refine tq (y_shl rfl rfl e41) (tq (y_move rfl) (tq (y_move rfl) ?_));obtain ⟨b42, e43, H⟩ := H;refine tq (f_idxS Tryz.runUnderlying9 rfl rfl e43) (tq (y_cvt Tryz.runUnderlying5 Tryz.runUnderlying121 rfl) (tq (y_or rfl rfl) (tq (y_assign rfl) (tr_nil (tr_blockN (tr_thenN (tr_region (tq (y_move rfl) (tq (y_add rfl rfl) (tq (y_assign rfl) (tr_nil (tr_thenN ?_))))))))))));exact tr_join [(0, (.string x0)), (2, (.pointer (some x2))), (4, (.pointer (some x4))), (5, (.int .i64 (IntKind.wrap .i64 (x5 + 1)))), (6, x6.enc), (8, (.int .u64 (bitsOf .or .u64 (IntKind.wrap .u64 (x8 * (2 ^ (min (8 : Int).toNat (IntKind.bits .u64)) : Int))) (IntKind.wrap .u64 b42))))] ⟨rfl, rfl, rfl, rfl, rfl, rfl, trivial⟩ ⟨_, _, _, _, _, _, rfl, H⟩
          ·replace H := H.2 g40;refine tr_exit (tr_thenE (tr_thenE (tr_hit (tr_thenN (tr_seq (tr_region (tq (y_move rfl) (tr_e (f_cvtT rfl H) rfl rfl ?_))))))));rintro _ h44 ⟨s45, rfl, H⟩;refine tq (y_move rfl) (tq (y_sub rfl rfl) (tq (y_cvt Tryz.runUnderlying121 Tryz.runUnderlying2 rfl) (tq (y_fa (off := 1) Tryz.runUnderlying32 fo_32_1 rfl) (tr_e (f_store (vs := [(.string s45)]) Tryz.sizeOf9 rfl rfl rfl rfl (one1 rfl) H) rfl rfl ?_))));rintro _ h46 ⟨rfl, H⟩;refine tq (y_fa (off := 2) Tryz.runUnderlying32 fo_32_2 rfl) (tr_e (f_store (vs := [(.int .i64 (IntKind.wrap .i64 (IntKind.wrap .u64 (x8 - 9223372036854775808))))]) Tryz.sizeOf2 rfl rfl rfl rfl (one1 rfl) H) rfl rfl ?_);rintro _ h47 ⟨rfl, H⟩;refine tr_nil (tr_thenN (tr_seq (tr_seq (tr_region ?_))));obtain ⟨y48, k49, H⟩ := H;refine tr_h (y_ldS Tryz.isAgg32 Tryz.sizeOf32 rfl rfl) k49 rfl rfl (tr_e (e_call Tryz.call97 rfl (F.xbd_ok H)) rfl rfl ?_);rintro _ h50 ⟨r51, rfl, H⟩;refine tq (y_assign rfl) (tr_nil (tr_thenN (tr_seq (tr_region (tq (y_move rfl) (tq (y_neq rfl rfl) (tr_nil (tr_thenN ?_))))))));refine tr_cond rfl (fun g52 => ?_) (fun g52 => ?_)
           ·replace H := H.1 g52;refine tr_seq (tr_region (tq (f_build rfl (bd_32_ )) (tq (y_move rfl) (tr_e (f_store (vs := (⟨0, (⟨#[]⟩ : ByteArray), 0⟩ : S_api_Cell).cells) Tryz.sizeOf32 rfl rfl cellsOfStruct rfl (by intro v hv; exact ones_S_api_Cell _ v hv) H) rfl rfl ?_))));rintro _ h53 ⟨rfl, H⟩;refine tq (y_assign rfl) (tr_nil (tr_thenN (tr_ret (tr_thenR ?_))));obtain ⟨y54, k55, H⟩ := H;exact tr_rv2 rfl (rv_cellS Tryz.isAgg32 Tryz.sizeOf32 rfl rfl k55) (rv_tmp rfl) ⟨_, _, rfl, H⟩
           ·replace H := H.2 g52;refine tr_skip (tr_thenN (tr_seq (tr_region ?_)));obtain ⟨y56, k57, H⟩ := H;refine tr_h (y_ldS Tryz.isAgg32 Tryz.sizeOf32 rfl rfl) k57 rfl rfl (tr_e (f_store (vs := y56.cells) Tryz.sizeOf32 rfl rfl cellsOfStruct rfl (by intro v hv; exact ones_S_api_Cell _ v hv) H) rfl rfl ?_);rintro _ h58 ⟨rfl, H⟩;refine tq (y_assign rfl) (tr_nil (tr_thenN (tr_ret ?_)));obtain ⟨y59, k60, H⟩ := H;exact tr_rv2 rfl (rv_cellS Tryz.isAgg32 Tryz.sizeOf32 rfl rfl k60) (rv_tmp rfl) ⟨_, _, rfl, H⟩
      ·replace H := H.2 g31;refine tr_skip (tr_thenN (tr_seq (tr_seq (tr_region (tq (y_move rfl) (tq (y_move rfl) (tq (y_sub rfl rfl) ?_)))))));obtain ⟨b62, e63, H⟩ := H;refine tq (f_idxS Tryz.runUnderlying9 rfl rfl e63) (tq (y_neq rfl rfl) (tr_nil (tr_thenN ?_)));refine tr_cond rfl (fun g64 => ?_) (fun g64 => ?_)
       ·replace H := H.1 g64;refine tr_seq (tr_region (tq (f_build rfl (bd_32_ )) (tr_e (f_store (vs := (⟨0, (⟨#[]⟩ : ByteArray), 0⟩ : S_api_Cell).cells) Tryz.sizeOf32 rfl rfl cellsOfStruct rfl (by intro v hv; exact ones_S_api_Cell _ v hv) H) rfl rfl ?_)));rintro _ h65 ⟨rfl, H⟩;refine tq (y_assign rfl) (tr_nil (tr_thenN (tr_ret (tr_thenR (tr_blockR (tr_thenR (tr_blockR (tr_thenR ?_))))))));obtain ⟨y66, k67, H⟩ := H;exact tr_rv2 rfl (rv_cellS Tryz.isAgg32 Tryz.sizeOf32 rfl rfl k67) (rv_tmp rfl) ⟨_, _, rfl, H⟩
       ·replace H := H.2 g64;refine tr_skip (tr_thenN (tr_region (tq (y_move rfl) (tr_e (f_buildL (cs := #[(.int .u8 0)]) rfl rfl (bl_73_1_0 0) H) rfl rfl ?_))));rintro _ h68 ⟨s69, rfl, H⟩;refine tr_e (f_app rfl H) rfl rfl ?_;rintro _ h70 ⟨s71, rfl, H⟩;refine tq (y_assign rfl) (tr_nil (tr_blockN (tr_thenN ?_)));exact tr_join [(0, (.string x0)), (2, (.pointer (some x2))), (4, (.pointer (some x4))), (5, (.int .i64 (IntKind.wrap .i64 (x5 + 2)))), (6, s71.enc)] ⟨rfl, rfl, rfl, rfl, rfl, trivial⟩ ⟨_, _, _, _, _, rfl, H⟩
def F.xas.j1 (Q : Sl -> H -> Prop) (ds : List Nat) (x11 : Addr) (h : H) : Prop :=
  ldL h x11 fun y14 =>
  shuts ds h fun h16 =>
  Q y14 h16
def F.xas.j2 (Q : Sl -> H -> Prop) (K1 : H -> Prop) (J1 : Nat -> H -> Prop) (l1 : Nat) (x11 : Addr) (x15 : Addr) (x17 : Addr) (x47 : Bool) (h : H) : Prop :=
  (x47 = true ->
  ldL h x11 fun y44 =>
  ld_S_api_Cell h x15 fun y46 =>
  ld_S_api_Agg h x17 fun y48 =>
  newL h (((⟨y46, y48⟩ : S_api_Row).cells).toArray) ty_51 1 fun s51 h50 =>
  runL PP (Builtin.append_ #[60, 60] 60 #[y44.enc, s51.enc]) h50 fun s53 h52 =>
  stH h52 x11 [s53.enc] fun h54 =>
  K1 h54) ∧
  (x47 = false ->
  K1 h)
def F.xas (p0 : Option Addr) (p1 : Int) (p2 : S_api_Cell) (p3 : S_api_Cell) (p4 : Int) (h : H) (Q : Sl -> H -> Prop) : Prop :=
  new h #[(.int .i64 p1)] ty_3 fun a2 h1 =>
  new h1 p2.cells.toArray ty_32 fun a4 h3 =>
  new h3 p3.cells.toArray ty_32 fun a6 h5 =>
  new h5 #[(.int .i64 p4)] ty_3 fun a8 h7 =>
  new h7 #[(⟨none, 0, 0⟩ : Sl).enc] ty_60 fun a10 h9 =>
  new h9 #[.nilFunc] ty_96 fun a12 h11 =>
  stH h11 a12 [(.func (.func 58) #[] #[(.pointer (some a4)), (.pointer (some a6))])] fun h13 =>
  nn p0 fun a17 =>
  ldP h13 (a17.add 3) fun y19 =>
  F.xah y19 h13 fun r22 h21 =>
  rng PP r22 h21 [Code.exit 0] (fun bg1 l1 args h K1 J1 => ∃ (y1_25 : ByteArray), ∃ (y1_26 : Option Addr), args = [(.string y1_25), (.pointer y1_26)] ∧
    bg1 h fun h23 =>
    ldL h23 a10 fun y24 =>
    ldI .i64 h23 a8 fun y26 =>
    ((decide ((y24.len : Int) >= y26)) = true ->
    J1 0 h23) ∧
    ((decide ((y24.len : Int) >= y26)) = false ->
    F.xbb y1_25 h23 fun r30 r31 h29 =>
    new h29 (((⟨0, (⟨#[]⟩ : ByteArray), 0⟩ : S_api_Cell) : S_api_Cell).cells.toArray) ty_32 fun a33 h32 =>
    stH h32 a33 r30.cells fun h34 =>
    ldI .i64 h34 a2 fun y35 =>
    F.xcn y1_26 y35 h34 fun r38 r39 h37 =>
    new h37 (((⟨0, 0, 0, 0⟩ : S_api_Agg) : S_api_Agg).cells.toArray) ty_34 fun a41 h40 =>
    stH h40 a41 r38.cells fun h42 =>
    (r39 = true ->
    ldV h42 a12 fun y56 =>
    ld_S_api_Cell h42 a33 fun y58 =>
    CV PP y56 [(.agg y58.cells.toArray)] h42 fun u h60 => ∃ (r61 : Bool), u = (.bool r61) ∧
    F.xas.j2 Q K1 J1 l1 a10 a33 a41 r61 h60) ∧
    (r39 = false ->
    F.xas.j2 Q K1 J1 l1 a10 a33 a41 false h42))) (fun h62 =>
    F.xas.j1 Q (h21.size :: ([] : List Nat)) a10 h62) (fun jj h63 =>
    (jj = 0 ->
      F.xas.j1 Q (h21.size :: ([] : List Nat)) a10 h63))
theorem F.xas_ok {p0 : Option Addr} {p1 : Int} {p2 : S_api_Cell} {p3 : S_api_Cell} {p4 : Int} {h : H} {Q : Sl -> H -> Prop} (H : F.xas p0 p1 p2 p3 p4 h Q) : Fn PP 23 ([(.pointer p0), (.int .i64 p1), (.agg p2.cells.toArray), (.agg p3.cells.toArray), (.int .i64 p4)] : List Value).toArray h fun r h' => ∃ r0, r = r0.enc ∧ Q r0 h' := by
  unfold F.xas at H
  refine fn_ofM Tryz.func23 Tryz.ntmps23 rfl rfl fun w0 => ?_
  refine tr_sub [(0, (.pointer p0)), (1, (.int .i64 p1)), (2, (.agg p2.cells.toArray)), (3, (.agg p3.cells.toArray)), (4, (.int .i64 p4))] ⟨rfl, rfl, rfl, rfl, rfl, trivial⟩ ?_
  refine tr_seq ?_
  refine tr_region ?_
  refine tr_e (f_box (cs := #[(.int .i64 p1)]) rfl rfl H) rfl rfl ?_
  rintro _ h1 ⟨a2, rfl, H⟩
  refine tr_e (f_box (cs := p2.cells.toArray) rfl rfl H) rfl rfl ?_
  rintro _ h3 ⟨a4, rfl, H⟩
  refine tr_e (f_box (cs := p3.cells.toArray) rfl rfl H) rfl rfl ?_
  rintro _ h5 ⟨a6, rfl, H⟩
  refine tr_e (f_box (cs := #[(.int .i64 p4)]) rfl rfl H) rfl rfl ?_
  rintro _ h7 ⟨a8, rfl, H⟩
  refine tr_p (y_assign rfl) rfl rfl ?_
  refine tr_nil ?_
  refine tr_thenN ?_
  refine tr_seq ?_
  refine tr_region ?_
  refine tr_e (f_alloc (cs := #[(⟨none, 0, 0⟩ : Sl).enc]) Tryz.zeroValue60 rfl H) rfl rfl ?_
  rintro _ h9 ⟨a10, rfl, H⟩
  refine tr_nil ?_
  refine tr_thenN ?_
  refine tr_seq ?_
  refine tr_region ?_
  refine tr_p (y_fn rfl rfl) rfl rfl ?_
  refine tr_e (f_alloc (cs := #[.nilFunc]) Tryz.zeroValue96 rfl H) rfl rfl ?_
  rintro _ h11 ⟨a12, rfl, H⟩
  refine tr_e (f_store (vs := [(.func (.func 58) #[] #[(.pointer (some a4)), (.pointer (some a6))])]) Tryz.sizeOf96 rfl rfl rfl rfl (one1 (by rfl)) H) rfl rfl ?_
  rintro _ h13 ⟨rfl, H⟩
  refine tr_nil ?_
  refine tr_thenN ?_
  refine tr_seq_jD (fun ds L' h => ∃ (x11 : Addr), L' = [(11, (.pointer (some x11)))] ∧ F.xas.j1 Q ds x11 h) ?_ ?_
  · rintro ds L' h ⟨x11, rfl, H⟩
    unfold F.xas.j1 at H
    refine tr_seq ?_
    refine tr_region ?_
    obtain ⟨y14, k15, H⟩ := H
    refine tr_h (y_ld Tryz.isAgg60 rfl) k15 rfl rfl ?_
    refine tr_p (y_assign rfl) rfl rfl ?_
    refine tr_nil ?_
    refine tr_thenN ?_
    refine tr_ret ?_
    refine tr_shut ds rfl H fun h16 H => ?_
    exact tr_ret1 rfl rfl ⟨_, rfl, H⟩
  · refine tr_seq ?_
    refine tr_region ?_
    refine tr_p (y_move rfl) rfl rfl ?_
    obtain ⟨a17, e18, H⟩ := H
    refine tr_p (f_nn rfl e18) rfl rfl ?_
    refine tr_p (y_fa (off := 3) Tryz.runUnderlying46 fo_46_1 rfl) rfl rfl ?_
    obtain ⟨y19, k20, H⟩ := H
    refine tr_h (y_ld Tryz.isAgg44 rfl) k20 rfl rfl ?_
    refine tr_e (e_call Tryz.call59 rfl (F.xah_ok H)) rfl rfl ?_
    rintro r22 h21 ⟨_, rfl, H⟩
    refine tr_nil ?_
    refine tr_thenN ?_
    refine tr_block ?_
    refine tr_range rfl (by kernel_rfl) H ?_ ?_ ?_
    · intro bg1 l1 args h K1 J1 w1 hbg1 H
      obtain ⟨y1_25, y1_26, rfl, H⟩ := H
      refine ⟨rfl, ?_⟩
      refine tr_sub [(0, (.pointer p0)), (1, (.int .i64 p1)), (2, (.agg p2.cells.toArray)), (3, (.agg p3.cells.toArray)), (4, (.int .i64 p4)), (6, (.pointer (some a2))), (7, (.pointer (some a4))), (8, (.pointer (some a6))), (9, (.pointer (some a8))), (10, (⟨none, 0, 0⟩ : Sl).enc), (11, (.pointer (some a10))), (19, (.func (.func 58) #[] #[(.pointer (some a4)), (.pointer (some a6))])), (12, (.pointer (some a12))), (20, (.pointer p0)), (21, (.pointer (some a17))), (22, (.pointer (some (a17.add 3)))), (23, (.pointer y19)), (24, r22), (25, (.string y1_25)), (26, (.pointer y1_26))] ⟨rfl, rfl, rfl, rfl, rfl, rfl, rfl, rfl, rfl, rfl, rfl, rfl, rfl, rfl, rfl, rfl, rfl, rfl, rfl, rfl, trivial⟩ ?_
      refine tr_seq ?_
      refine tr_region ?_
      refine tr_p (y_assign rfl) rfl rfl ?_
      refine tr_nil ?_
      refine tr_thenN ?_
      refine tr_region ?_
      refine tr_p (y_assign rfl) rfl rfl ?_
      refine tr_nil ?_
      refine tr_thenN ?_
      refine tr_bgn hbg1 H fun h23 H => ?_
      refine tr_block ?_
      refine tr_seq ?_
      refine tr_seq ?_
      refine tr_region ?_
      obtain ⟨y24, k25, H⟩ := H
      refine tr_h (y_ld Tryz.isAgg60 rfl) k25 rfl rfl ?_
      refine tr_p (y_len (ts := #[]) Tryz.runUnderlying60 (o := y24.ptr) (n := y24.len) (cap := y24.cap) rfl) rfl rfl ?_
      obtain ⟨y26, k27, H⟩ := H
      refine tr_h (y_ld Tryz.isAgg3 rfl) k27 rfl rfl ?_
      refine tr_p (y_geq rfl rfl) rfl rfl ?_
      refine tr_nil ?_
      refine tr_thenN ?_
      refine tr_cond rfl (fun g28 => ?_) (fun g28 => ?_)
      · replace H := H.1 g28
        refine tr_exit ?_
        refine tr_thenE ?_
        refine tr_miss rfl ?_
        exact tr_rE 0 rfl H
      · replace H := H.2 g28
        refine tr_skip ?_
        refine tr_thenN ?_
        refine tr_seq ?_
        refine tr_region ?_
        refine tr_p (y_move rfl) rfl rfl ?_
        refine tr_e (e_call Tryz.call60 rfl (F.xbb_ok H)) rfl rfl ?_
        rintro _ h29 ⟨r30, r31, rfl, H⟩
        refine tr_p (y_move rfl) rfl rfl ?_
        refine tr_p (y_ext rfl rfl) rfl rfl ?_
        refine tr_p (y_ext rfl rfl) rfl rfl ?_
        refine tr_e (f_alloc (cs := ((⟨0, (⟨#[]⟩ : ByteArray), 0⟩ : S_api_Cell) : S_api_Cell).cells.toArray) Tryz.zeroValue32 rfl H) rfl rfl ?_
        rintro _ h32 ⟨a33, rfl, H⟩
        refine tr_e (f_store (vs := r30.cells) Tryz.sizeOf32 rfl rfl cellsOfStruct rfl (by intro v hv; exact ones_S_api_Cell _ v hv) H) rfl rfl ?_
        rintro _ h34 ⟨rfl, H⟩
        refine tr_p (y_assign rfl) rfl rfl ?_
        refine tr_nil ?_
        refine tr_thenN ?_
        refine tr_seq ?_
        refine tr_region ?_
        refine tr_p (y_move rfl) rfl rfl ?_
        obtain ⟨y35, k36, H⟩ := H
        refine tr_h (y_ld Tryz.isAgg3 rfl) k36 rfl rfl ?_
        refine tr_e (e_call Tryz.call61 rfl (F.xcn_ok H)) rfl rfl ?_
        rintro _ h37 ⟨r38, r39, rfl, H⟩
        refine tr_p (y_move rfl) rfl rfl ?_
        refine tr_p (y_ext rfl rfl) rfl rfl ?_
        refine tr_p (y_ext rfl rfl) rfl rfl ?_
        refine tr_e (f_alloc (cs := ((⟨0, 0, 0, 0⟩ : S_api_Agg) : S_api_Agg).cells.toArray) Tryz.zeroValue34 rfl H) rfl rfl ?_
        rintro _ h40 ⟨a41, rfl, H⟩
        refine tr_e (f_store (vs := r38.cells) Tryz.sizeOf34 rfl rfl cellsOfStruct rfl (by intro v hv; exact ones_S_api_Agg _ v hv) H) rfl rfl ?_
        rintro _ h42 ⟨rfl, H⟩
        refine tr_p (y_assign rfl) rfl rfl ?_
        refine tr_nil ?_
        refine tr_thenN ?_
        refine tr_seq_j (fun L' h => ∃ (x11 : Addr) (x15 : Addr) (x17 : Addr) (x47 : Bool), L' = [(11, (.pointer (some x11))), (15, (.pointer (some x15))), (17, (.pointer (some x17))), (47, (.bool x47))] ∧ F.xas.j2 Q K1 J1 l1 x11 x15 x17 x47 h) ?_ ?_
        · rintro L' h ⟨x11, x15, x17, x47, rfl, H⟩
          unfold F.xas.j2 at H
          refine tr_cond rfl (fun g43 => ?_) (fun g43 => ?_)
          · replace H := H.1 g43
            refine tr_region ?_
            obtain ⟨y44, k45, H⟩ := H
            refine tr_h (y_ld Tryz.isAgg60 rfl) k45 rfl rfl ?_
            obtain ⟨y46, k47, H⟩ := H
            refine tr_h (y_ldS Tryz.isAgg32 Tryz.sizeOf32 rfl rfl) k47 rfl rfl ?_
            obtain ⟨y48, k49, H⟩ := H
            refine tr_h (y_ldS Tryz.isAgg34 Tryz.sizeOf34 rfl rfl) k49 rfl rfl ?_
            refine tr_p (f_build rfl (bd_51_0_1 y46 y48)) rfl rfl ?_
            refine tr_e (f_buildL (cs := ((⟨y46, y48⟩ : S_api_Row).cells).toArray) rfl rfl (bl_60_1_0 (⟨y46, y48⟩ : S_api_Row)) H) rfl rfl ?_
            rintro _ h50 ⟨s51, rfl, H⟩
            refine tr_e (f_app rfl H) rfl rfl ?_
            rintro _ h52 ⟨s53, rfl, H⟩
            refine tr_e (f_store (vs := [s53.enc]) Tryz.sizeOf60 rfl rfl rfl rfl (one1 rfl) H) rfl rfl ?_
            rintro _ h54 ⟨rfl, H⟩
            refine tr_nil ?_
            refine tr_blockN ?_
            exact tr_rN H
          · replace H := H.2 g43
            refine tr_skip ?_
            refine tr_blockN ?_
            exact tr_rN H
        · refine tr_region ?_
          refine tr_p (y_move rfl) rfl rfl ?_
          refine tr_p (y_move rfl) rfl rfl ?_
          refine tr_split (t := 43) rfl (fun g55 => ?_) (fun g55 => ?_)
          · replace H := H.1 g55
            obtain ⟨y56, k57, H⟩ := H
            refine tr_h (y_ld Tryz.isAgg96 rfl) k57 rfl rfl ?_
            obtain ⟨y58, k59, H⟩ := H
            refine tr_h (y_ldS Tryz.isAgg32 Tryz.sizeOf32 rfl rfl) k59 rfl rfl ?_
            refine tr_e (e_callD rfl rfl H) rfl rfl ?_
            rintro _ h60 ⟨r61, rfl, H⟩
            refine tr_p (y_pick_t rfl rfl) rfl rfl ?_
            refine tr_nil ?_
            refine tr_thenN ?_
            exact tr_join [(11, (.pointer (some a10))), (15, (.pointer (some a33))), (17, (.pointer (some a41))), (47, (.bool r61))] ⟨rfl, rfl, rfl, rfl, trivial⟩ ⟨_, _, _, _, rfl, H⟩
          · replace H := H.2 g55
            refine tr_s rfl rfl ?_
            refine tr_s rfl rfl ?_
            refine tr_s rfl rfl ?_
            refine tr_p (y_pick_f rfl rfl) rfl rfl ?_
            refine tr_nil ?_
            refine tr_thenN ?_
            exact tr_join [(11, (.pointer (some a10))), (15, (.pointer (some a33))), (17, (.pointer (some a41))), (47, (.bool false))] ⟨rfl, rfl, rfl, rfl, trivial⟩ ⟨_, _, _, _, rfl, H⟩
    · intro h62 H
      refine tr_blockN ?_
      refine tr_thenN ?_
      exact tr_joinD (h21.size :: ([] : List Nat)) [(11, (.pointer (some a10)))] rfl ⟨rfl, trivial⟩ ⟨_, rfl, H⟩
    · intro jj c h63 hjc H
      rcases jj with _ | jj
      · obtain rfl : Code.exit 0 = c := by simpa using hjc
        replace H := H rfl
        refine tr_exit ?_
        refine tr_hit ?_
        refine tr_thenN ?_
        exact tr_joinD (h21.size :: ([] : List Nat)) [(11, (.pointer (some a10)))] rfl ⟨rfl, trivial⟩ ⟨_, rfl, H⟩
      · simp at hjc
def F.xag.j3 (Q : Sl -> H -> Prop) (C1 : (Option Addr) -> Int -> Int -> Addr -> Addr -> Sl -> Int -> H -> Prop) (x0 : Option Addr) (x1 : Int) (x4 : Int) (x7 : Addr) (x8 : Addr) (x11 : Sl) (x12 : Int) (h : H) : Prop :=
  C1 x0 x1 x4 x7 x8 x11 (IntKind.wrap .i64 (x12 + 1)) h
def F.xag.j4 (Q : Sl -> H -> Prop) (C1 : (Option Addr) -> Int -> Int -> Addr -> Addr -> Sl -> Int -> H -> Prop) (x0 : Option Addr) (x1 : Int) (x4 : Int) (x7 : Addr) (x8 : Addr) (x11 : Sl) (x12 : Int) (x13 : Addr) (x14 : Addr) (x63 : Bool) (h : H) : Prop :=
  (x63 = true ->
  ld_S_api_Cell h x13 fun y31 =>
  ld_S_api_Agg h x14 fun y33 =>
  newL h (((⟨y31, y33⟩ : S_api_Row).cells).toArray) ty_51 1 fun s36 h35 =>
  runL PP (Builtin.append_ #[60, 60] 60 #[x11.enc, s36.enc]) h35 fun s38 h37 =>
  F.xag.j3 Q C1 x0 x1 x4 x7 x8 s38 x12 h37) ∧
  (x63 = false ->
  F.xag.j3 Q C1 x0 x1 x4 x7 x8 x11 x12 h)
def F.xag.j2 (Q : Sl -> H -> Prop) (C1 : (Option Addr) -> Int -> Int -> Addr -> Addr -> Sl -> Int -> H -> Prop) (x0 : Option Addr) (x1 : Int) (x4 : Int) (x7 : Addr) (x8 : Addr) (x11 : Sl) (x12 : Int) (h : H) : Prop :=
  nn x0 fun a5 =>
  ldL h (a5.add 1) fun y7 =>
  idxA y7 x12 4 fun a9 =>
  ld_S_api_Cell h (a9.add 0) fun y11 =>
  new h (((⟨0, (⟨#[]⟩ : ByteArray), 0⟩ : S_api_Cell) : S_api_Cell).cells.toArray) ty_32 fun a14 h13 =>
  stH h13 a14 y11.cells fun h15 =>
  nn x0 fun a16 =>
  ldL h15 (a16.add 1) fun y18 =>
  idxA y18 x12 4 fun a20 =>
  ldL h15 (a20.add 3) fun y22 =>
  F.xaq y22 x1 h15 fun r25 r26 h24 =>
  new h24 (((⟨0, 0, 0, 0⟩ : S_api_Agg) : S_api_Agg).cells.toArray) ty_34 fun a28 h27 =>
  stH h27 a28 r25.cells fun h29 =>
  (r26 = true ->
  ld_S_api_Cell h29 a14 fun y40 =>
  ld_S_api_Cell h29 x7 fun y42 =>
  F.xcm y40 y42 h29 fun r45 h44 =>
  ((!r45) = true ->
  ld_S_api_Cell h44 a14 fun y47 =>
  ld_S_api_Cell h44 x8 fun y49 =>
  F.xcm y47 y49 h44 fun r52 h51 =>
  F.xag.j4 Q C1 x0 x1 x4 x7 x8 x11 x12 a14 a28 r52 h51) ∧
  ((!r45) = false ->
  F.xag.j4 Q C1 x0 x1 x4 x7 x8 x11 x12 a14 a28 false h44)) ∧
  (r26 = false ->
  F.xag.j4 Q C1 x0 x1 x4 x7 x8 x11 x12 a14 a28 false h29)
def F.xag.j5 (Q : Sl -> H -> Prop) (C1 : (Option Addr) -> Int -> Int -> Addr -> Addr -> Sl -> Int -> H -> Prop) (x0 : Option Addr) (x1 : Int) (x4 : Int) (x7 : Addr) (x8 : Addr) (x11 : Sl) (x12 : Int) (x28 : Bool) (h : H) : Prop :=
  (x28 = true ->
  F.xag.j2 Q C1 x0 x1 x4 x7 x8 x11 x12 h) ∧
  (x28 = false ->
  Q x11 h)
def F.xag.l1 (Q : Sl -> H -> Prop) : Nat -> (Option Addr) -> Int -> Int -> Addr -> Addr -> Sl -> Int -> H -> Prop
  | 0, _, _, _, _, _, _, _, _ => False
  | q1 + 1, x0, x1, x4, x7, x8, x11, x12, h =>
    nn x0 fun a54 =>
    ldL h (a54.add 1) fun y56 =>
    ((decide (x12 < (y56.len : Int))) = true ->
    F.xag.j5 Q (F.xag.l1 Q q1) x0 x1 x4 x7 x8 x11 x12 (decide ((x11.len : Int) < x4)) h) ∧
    ((decide (x12 < (y56.len : Int))) = false ->
    F.xag.j5 Q (F.xag.l1 Q q1) x0 x1 x4 x7 x8 x11 x12 false h)
def F.xag (p0 : Option Addr) (p1 : Int) (p2 : S_api_Cell) (p3 : S_api_Cell) (p4 : Int) (h : H) (Q : Sl -> H -> Prop) : Prop :=
  new h p2.cells.toArray ty_32 fun a2 h1 =>
  new h1 p3.cells.toArray ty_32 fun a4 h3 =>
  ∃ m, F.xag.l1 Q m p0 p1 p4 a2 a4 (⟨none, 0, 0⟩ : Sl) 0 h3
theorem F.xag_ok {p0 : Option Addr} {p1 : Int} {p2 : S_api_Cell} {p3 : S_api_Cell} {p4 : Int} {h : H} {Q : Sl -> H -> Prop} (H : F.xag p0 p1 p2 p3 p4 h Q) : Fn PP 24 ([(.pointer p0), (.int .i64 p1), (.agg p2.cells.toArray), (.agg p3.cells.toArray), (.int .i64 p4)] : List Value).toArray h fun r h' => ∃ r0, r = r0.enc ∧ Q r0 h' := by
 unfold F.xag at H;refine fn_of Tryz.func24 Tryz.ntmps24 rfl rfl fun w0 => (tr_sub [(0, (.pointer p0)), (1, (.int .i64 p1)), (2, (.agg p2.cells.toArray)), (3, (.agg p3.cells.toArray)), (4, (.int .i64 p4))] ⟨rfl, rfl, rfl, rfl, rfl, trivial⟩ (tr_seq (tr_region (tr_e (f_box (cs := p2.cells.toArray) rfl rfl H) rfl rfl ?_))));rintro _ h1 ⟨a2, rfl, H⟩;refine tr_e (f_box (cs := p3.cells.toArray) rfl rfl H) rfl rfl ?_;rintro _ h3 ⟨a4, rfl, H⟩;refine tq (y_assign rfl) (tr_nil (tr_thenN (tr_seq (tr_region (tq (y_assign rfl) (tr_nil (tr_thenN (tr_seq (tr_seq (tr_region (tq (y_assign rfl) (tr_nil (tr_thenN ?_)))))))))))));refine tr_block ?_;obtain ⟨m59, H⟩ := H;refine tr_sub [(0, (.pointer p0)), (1, (.int .i64 p1)), (4, (.int .i64 p4)), (7, (.pointer (some a2))), (8, (.pointer (some a4))), (11, (⟨none, 0, 0⟩ : Sl).enc), (12, (.int .i64 0))] ⟨rfl, rfl, rfl, rfl, rfl, rfl, rfl, trivial⟩ ?_;refine tr_loop_j (fun m L' h => ∃ (x0 : Option Addr) (x1 : Int) (x4 : Int) (x7 : Addr) (x8 : Addr) (x11 : Sl) (x12 : Int), L' = [(0, (.pointer x0)), (1, (.int .i64 x1)), (4, (.int .i64 x4)), (7, (.pointer (some x7))), (8, (.pointer (some x8))), (11, x11.enc), (12, (.int .i64 x12))] ∧ F.xag.l1 Q m x0 x1 x4 x7 x8 x11 x12 h) ?_ ?_ m59 ⟨_, _, _, _, _, _, _, rfl, H⟩
 ·rintro L' h ⟨_, _, _, _, _, _, _, _, H⟩; exact H
 ·rintro q1 L' h ⟨x0, x1, x4, x7, x8, x11, x12, rfl, H⟩;unfold F.xag.l1 at H;refine tr_seq_j (fun L' h => ∃ (x0 : Option Addr) (x1 : Int) (x4 : Int) (x7 : Addr) (x8 : Addr) (x11 : Sl) (x12 : Int), L' = [(0, (.pointer x0)), (1, (.int .i64 x1)), (4, (.int .i64 x4)), (7, (.pointer (some x7))), (8, (.pointer (some x8))), (11, x11.enc), (12, (.int .i64 x12))] ∧ F.xag.j2 Q (F.xag.l1 Q q1) x0 x1 x4 x7 x8 x11 x12 h) ?_ ?_
  ·rintro L' h ⟨x0, x1, x4, x7, x8, x11, x12, rfl, H⟩;unfold F.xag.j2 at H;refine tr_seq_j (fun L' h => ∃ (x0 : Option Addr) (x1 : Int) (x4 : Int) (x7 : Addr) (x8 : Addr) (x11 : Sl) (x12 : Int), L' = [(0, (.pointer x0)), (1, (.int .i64 x1)), (4, (.int .i64 x4)), (7, (.pointer (some x7))), (8, (.pointer (some x8))), (11, x11.enc), (12, (.int .i64 x12))] ∧ F.xag.j3 Q (F.xag.l1 Q q1) x0 x1 x4 x7 x8 x11 x12 h) ?_ ?_
   ·rintro L' h ⟨x0, x1, x4, x7, x8, x11, x12, rfl, H⟩;unfold F.xag.j3 at H;refine tr_region (tq (y_move rfl) (tq (y_add rfl rfl) (tq (y_assign rfl) (tr_nil (tr_thenN ?_)))));exact tr_join [(0, (.pointer x0)), (1, (.int .i64 x1)), (4, (.int .i64 x4)), (7, (.pointer (some x7))), (8, (.pointer (some x8))), (11, x11.enc), (12, (.int .i64 (IntKind.wrap .i64 (x12 + 1))))] ⟨rfl, rfl, rfl, rfl, rfl, rfl, rfl, trivial⟩ ⟨_, _, _, _, _, _, _, rfl, H⟩
   ·refine tr_block (tr_seq (tr_region (tq (y_move rfl) ?_)));obtain ⟨a5, e6, H⟩ := H;refine tq (f_nn rfl e6) (tq (y_fa (off := 1) Tryz.runUnderlying91 fo_91_1 rfl) ?_);obtain ⟨y7, k8, H⟩ := H;refine tr_h (y_ld Tryz.isAgg89 rfl) k8 rfl rfl (tq (y_move rfl) ?_);obtain ⟨a9, e10, H⟩ := H;refine tq (f_idx (s := y7) Tryz.runUnderlying89 Tryz.sizeOf106 rfl rfl e10) (tq (y_fa (off := 0) Tryz.runUnderlying106 fo_106_0 rfl) ?_);obtain ⟨y11, k12, H⟩ := H;refine tr_h (y_ldS Tryz.isAgg32 Tryz.sizeOf32 rfl rfl) k12 rfl rfl (tr_e (f_alloc (cs := ((⟨0, (⟨#[]⟩ : ByteArray), 0⟩ : S_api_Cell) : S_api_Cell).cells.toArray) Tryz.zeroValue32 rfl H) rfl rfl ?_);rintro _ h13 ⟨a14, rfl, H⟩;refine tr_e (f_store (vs := y11.cells) Tryz.sizeOf32 rfl rfl cellsOfStruct rfl (by intro v hv; exact ones_S_api_Cell _ v hv) H) rfl rfl ?_;rintro _ h15 ⟨rfl, H⟩;refine tr_nil (tr_thenN (tr_seq (tr_region (tq (y_move rfl) ?_))));obtain ⟨a16, e17, H⟩ := H;refine tq (f_nn rfl e17) (tq (y_fa (off := 1) Tryz.runUnderlying91 fo_91_1 rfl) ?_);obtain ⟨y18, k19, H⟩ := H;refine tr_h (y_ld Tryz.isAgg89 rfl) k19 rfl rfl (tq (y_move rfl) ?_);obtain ⟨a20, e21, H⟩ := H;refine tq (f_idx (s := y18) Tryz.runUnderlying89 Tryz.sizeOf106 rfl rfl e21) (tq (y_fa (off := 3) Tryz.runUnderlying106 fo_106_1 rfl) ?_);obtain ⟨y22, k23, H⟩ := H;refine tr_h (y_ld Tryz.isAgg104 rfl) k23 rfl rfl (tq (y_move rfl) (tr_e (e_call Tryz.call62 rfl (F.xaq_ok H)) rfl rfl ?_));rintro _ h24 ⟨r25, r26, rfl, H⟩;refine tq (y_move rfl) (tq (y_ext rfl rfl) (tq (y_ext rfl rfl) (tr_e (f_alloc (cs := ((⟨0, 0, 0, 0⟩ : S_api_Agg) : S_api_Agg).cells.toArray) Tryz.zeroValue34 rfl H) rfl rfl ?_)));rintro _ h27 ⟨a28, rfl, H⟩;refine tr_e (f_store (vs := r25.cells) Tryz.sizeOf34 rfl rfl cellsOfStruct rfl (by intro v hv; exact ones_S_api_Agg _ v hv) H) rfl rfl ?_;rintro _ h29 ⟨rfl, H⟩;refine tq (y_assign rfl) (tr_nil (tr_thenN ?_));refine tr_seq_j (fun L' h => ∃ (x0 : Option Addr) (x1 : Int) (x4 : Int) (x7 : Addr) (x8 : Addr) (x11 : Sl) (x12 : Int) (x13 : Addr) (x14 : Addr) (x63 : Bool), L' = [(0, (.pointer x0)), (1, (.int .i64 x1)), (4, (.int .i64 x4)), (7, (.pointer (some x7))), (8, (.pointer (some x8))), (11, x11.enc), (12, (.int .i64 x12)), (13, (.pointer (some x13))), (14, (.pointer (some x14))), (63, (.bool x63))] ∧ F.xag.j4 Q (F.xag.l1 Q q1) x0 x1 x4 x7 x8 x11 x12 x13 x14 x63 h) ?_ ?_
    ·rintro L' h ⟨x0, x1, x4, x7, x8, x11, x12, x13, x14, x63, rfl, H⟩;unfold F.xag.j4 at H;refine tr_cond rfl (fun g30 => ?_) (fun g30 => ?_)
     ·replace H := H.1 g30;refine tr_region (tq (y_move rfl) ?_);obtain ⟨y31, k32, H⟩ := H;refine tr_h (y_ldS Tryz.isAgg32 Tryz.sizeOf32 rfl rfl) k32 rfl rfl ?_;obtain ⟨y33, k34, H⟩ := H;refine tr_h (y_ldS Tryz.isAgg34 Tryz.sizeOf34 rfl rfl) k34 rfl rfl (tq (f_build rfl (bd_51_0_1 y31 y33)) (tr_e (f_buildL (cs := ((⟨y31, y33⟩ : S_api_Row).cells).toArray) rfl rfl (bl_60_1_0 (⟨y31, y33⟩ : S_api_Row)) H) rfl rfl ?_));rintro _ h35 ⟨s36, rfl, H⟩;refine tr_e (f_app rfl H) rfl rfl ?_;rintro _ h37 ⟨s38, rfl, H⟩;refine tq (y_assign rfl) (tr_nil (tr_blockN (tr_thenN ?_)));exact tr_join [(0, (.pointer x0)), (1, (.int .i64 x1)), (4, (.int .i64 x4)), (7, (.pointer (some x7))), (8, (.pointer (some x8))), (11, s38.enc), (12, (.int .i64 x12))] ⟨rfl, rfl, rfl, rfl, rfl, rfl, rfl, trivial⟩ ⟨_, _, _, _, _, _, _, rfl, H⟩
     ·replace H := H.2 g30;refine tr_skip (tr_blockN (tr_thenN ?_));exact tr_join [(0, (.pointer x0)), (1, (.int .i64 x1)), (4, (.int .i64 x4)), (7, (.pointer (some x7))), (8, (.pointer (some x8))), (11, x11.enc), (12, (.int .i64 x12))] ⟨rfl, rfl, rfl, rfl, rfl, rfl, rfl, trivial⟩ ⟨_, _, _, _, _, _, _, rfl, H⟩
    ·refine tr_region (tq (y_move rfl) (tq (y_move rfl) ?_));refine tr_split (t := 53) rfl (fun g39 => ?_) (fun g39 => ?_)
     ·replace H := H.1 g39;obtain ⟨y40, k41, H⟩ := H;refine tr_h (y_ldS Tryz.isAgg32 Tryz.sizeOf32 rfl rfl) k41 rfl rfl ?_;obtain ⟨y42, k43, H⟩ := H;refine tr_h (y_ldS Tryz.isAgg32 Tryz.sizeOf32 rfl rfl) k43 rfl rfl (tr_e (e_call Tryz.call63 rfl (F.xcm_ok H)) rfl rfl ?_);rintro _ h44 ⟨r45, rfl, H⟩;refine tq (y_not rfl) (tq (y_pick_t rfl rfl) (tq (y_move rfl) ?_));refine tr_split (t := 59) rfl (fun g46 => ?_) (fun g46 => ?_)
      ·replace H := H.1 g46;obtain ⟨y47, k48, H⟩ := H;refine tr_h (y_ldS Tryz.isAgg32 Tryz.sizeOf32 rfl rfl) k48 rfl rfl ?_;obtain ⟨y49, k50, H⟩ := H;refine tr_h (y_ldS Tryz.isAgg32 Tryz.sizeOf32 rfl rfl) k50 rfl rfl (tr_e (e_call Tryz.call63 rfl (F.xcm_ok H)) rfl rfl ?_);rintro _ h51 ⟨r52, rfl, H⟩;refine tq (y_pick_t rfl rfl) (tr_nil (tr_thenN ?_));exact tr_join [(0, (.pointer x0)), (1, (.int .i64 x1)), (4, (.int .i64 x4)), (7, (.pointer (some x7))), (8, (.pointer (some x8))), (11, x11.enc), (12, (.int .i64 x12)), (13, (.pointer (some a14))), (14, (.pointer (some a28))), (63, (.bool r52))] ⟨rfl, rfl, rfl, rfl, rfl, rfl, rfl, rfl, rfl, rfl, trivial⟩ ⟨_, _, _, _, _, _, _, _, _, _, rfl, H⟩
      ·replace H := H.2 g46;refine ts (ts (ts (tq (y_pick_f rfl rfl) (tr_nil (tr_thenN ?_)))));exact tr_join [(0, (.pointer x0)), (1, (.int .i64 x1)), (4, (.int .i64 x4)), (7, (.pointer (some x7))), (8, (.pointer (some x8))), (11, x11.enc), (12, (.int .i64 x12)), (13, (.pointer (some a14))), (14, (.pointer (some a28))), (63, (.bool false))] ⟨rfl, rfl, rfl, rfl, rfl, rfl, rfl, rfl, rfl, rfl, trivial⟩ ⟨_, _, _, _, _, _, _, _, _, _, rfl, H⟩
     ·replace H := H.2 g39;refine ts (ts (ts (ts (tq (y_pick_f rfl rfl) (tq (y_move rfl) (ts (ts (ts (tq (y_pick_f rfl rfl) (tr_nil (tr_thenN ?_)))))))))));exact tr_join [(0, (.pointer x0)), (1, (.int .i64 x1)), (4, (.int .i64 x4)), (7, (.pointer (some x7))), (8, (.pointer (some x8))), (11, x11.enc), (12, (.int .i64 x12)), (13, (.pointer (some a14))), (14, (.pointer (some a28))), (63, (.bool false))] ⟨rfl, rfl, rfl, rfl, rfl, rfl, rfl, rfl, rfl, rfl, trivial⟩ ⟨_, _, _, _, _, _, _, _, _, _, rfl, H⟩
  ·refine tr_seq_j (fun L' h => ∃ (x0 : Option Addr) (x1 : Int) (x4 : Int) (x7 : Addr) (x8 : Addr) (x11 : Sl) (x12 : Int) (x28 : Bool), L' = [(0, (.pointer x0)), (1, (.int .i64 x1)), (4, (.int .i64 x4)), (7, (.pointer (some x7))), (8, (.pointer (some x8))), (11, x11.enc), (12, (.int .i64 x12)), (28, (.bool x28))] ∧ F.xag.j5 Q (F.xag.l1 Q q1) x0 x1 x4 x7 x8 x11 x12 x28 h) ?_ ?_
   ·rintro L' h ⟨x0, x1, x4, x7, x8, x11, x12, x28, rfl, H⟩;unfold F.xag.j5 at H;refine tr_cond rfl (fun g53 => ?_) (fun g53 => ?_)
    ·replace H := H.1 g53;refine tr_skip (tr_thenN ?_);exact tr_join [(0, (.pointer x0)), (1, (.int .i64 x1)), (4, (.int .i64 x4)), (7, (.pointer (some x7))), (8, (.pointer (some x8))), (11, x11.enc), (12, (.int .i64 x12))] ⟨rfl, rfl, rfl, rfl, rfl, rfl, rfl, trivial⟩ ⟨_, _, _, _, _, _, _, rfl, H⟩
    ·replace H := H.2 g53;refine tr_exit (tr_thenE (tr_thenE (tr_hit (tr_thenN (tr_seq (tr_region (tq (y_move rfl) (tq (y_assign rfl) (tr_nil (tr_thenN (tr_ret ?_)))))))))));exact tr_ret1 rfl rfl ⟨_, rfl, H⟩
   ·refine tr_region (tq (y_move rfl) (tq (y_move rfl) ?_));obtain ⟨a54, e55, H⟩ := H;refine tq (f_nn rfl e55) (tq (y_fa (off := 1) Tryz.runUnderlying91 fo_91_1 rfl) ?_);obtain ⟨y56, k57, H⟩ := H;refine tr_h (y_ld Tryz.isAgg89 rfl) k57 rfl rfl (tq (y_len (ts := #[]) Tryz.runUnderlying89 (o := y56.ptr) (n := y56.len) (cap := y56.cap) rfl) (tq (y_lss rfl rfl) (tq (y_move rfl) ?_)));refine tr_split (t := 23) rfl (fun g58 => ?_) (fun g58 => ?_)
    ·replace H := H.1 g58;refine tq (y_move rfl) (tq (y_len (ts := #[]) Tryz.runUnderlying60 (o := x11.ptr) (n := x11.len) (cap := x11.cap) rfl) (tq (y_move rfl) (tq (y_lss rfl rfl) (tq (y_pick_t rfl rfl) (tr_nil (tr_thenN ?_))))));exact tr_join [(0, (.pointer x0)), (1, (.int .i64 x1)), (4, (.int .i64 x4)), (7, (.pointer (some x7))), (8, (.pointer (some x8))), (11, x11.enc), (12, (.int .i64 x12)), (28, (.bool (decide ((x11.len : Int) < x4))))] ⟨rfl, rfl, rfl, rfl, rfl, rfl, rfl, rfl, trivial⟩ ⟨_, _, _, _, _, _, _, _, rfl, H⟩
    ·replace H := H.2 g58;refine ts (ts (ts (ts (tq (y_pick_f rfl rfl) (tr_nil (tr_thenN ?_))))));exact tr_join [(0, (.pointer x0)), (1, (.int .i64 x1)), (4, (.int .i64 x4)), (7, (.pointer (some x7))), (8, (.pointer (some x8))), (11, x11.enc), (12, (.int .i64 x12)), (28, (.bool false))] ⟨rfl, rfl, rfl, rfl, rfl, rfl, rfl, rfl, trivial⟩ ⟨_, _, _, _, _, _, _, _, rfl, H⟩
def F.xca.l1 (Q : Bool -> H -> Prop) : Nat -> Sl -> Sl -> Int -> H -> Prop
  | 0, _, _, _, _ => False
  | q1 + 1, x0, x1, x5, h =>
    ((decide (x5 < (x0.len : Int))) = true ->
    idxA x0 x5 7 fun a3 =>
    ld_S_api_Row h a3 fun y5 =>
    idxA x1 x5 7 fun a7 =>
    ld_S_api_Row h a7 fun y9 =>
    ((!((((y5.Cell.View == y9.Cell.View) && ((y5.Cell.Key.toList == y9.Cell.Key.toList) && ((y5.Cell.Start == y9.Cell.Start) && true)))) && ((((y5.Agg.Count == y9.Agg.Count) && ((y5.Agg.Sum == y9.Agg.Sum) && ((y5.Agg.Min == y9.Agg.Min) && ((y5.Agg.Max == y9.Agg.Max) && true))))) && true))) = true ->
    Q false h) ∧
    ((!((((y5.Cell.View == y9.Cell.View) && ((y5.Cell.Key.toList == y9.Cell.Key.toList) && ((y5.Cell.Start == y9.Cell.Start) && true)))) && ((((y5.Agg.Count == y9.Agg.Count) && ((y5.Agg.Sum == y9.Agg.Sum) && ((y5.Agg.Min == y9.Agg.Min) && ((y5.Agg.Max == y9.Agg.Max) && true))))) && true))) = false ->
    (F.xca.l1 Q q1) x0 x1 (IntKind.wrap .i64 (x5 + 1)) h)) ∧
    ((decide (x5 < (x0.len : Int))) = false ->
    Q true h)
def F.xca (p0 : Sl) (p1 : Sl) (h : H) (Q : Bool -> H -> Prop) : Prop :=
  ((((p0.len : Int) != (p1.len : Int))) = true ->
  Q false h) ∧
  ((((p0.len : Int) != (p1.len : Int))) = false ->
  ∃ m, F.xca.l1 Q m p0 p1 0 h)
theorem F.xca_ok {p0 : Sl} {p1 : Sl} {h : H} {Q : Bool -> H -> Prop} (H : F.xca p0 p1 h Q) : Fn PP 22 ([p0.enc, p1.enc] : List Value).toArray h fun r h' => ∃ r0, r = (.bool r0) ∧ Q r0 h' := by
 unfold F.xca at H;refine fn_of Tryz.func22 Tryz.ntmps22 rfl rfl fun w0 => (tr_sub [(0, p0.enc), (1, p1.enc)] ⟨rfl, rfl, trivial⟩ (tr_seq (tr_region (tq (y_assign rfl) (tr_nil (tr_thenN (tr_seq (tr_seq (tr_region (tq (y_move rfl) (tq (y_len (ts := #[]) Tryz.runUnderlying60 (o := p0.ptr) (n := p0.len) (cap := p0.cap) rfl) (tq (y_move rfl) (tq (y_len (ts := #[]) Tryz.runUnderlying60 (o := p1.ptr) (n := p1.len) (cap := p1.cap) rfl) ?_)))))))))))));refine tq (y_neq rfl rfl) (tr_nil (tr_thenN ?_));refine tr_cond rfl (fun g1 => ?_) (fun g1 => ?_)
 ·replace H := H.1 g1;refine tr_seq (tr_region (tq (y_assign rfl) (tr_nil (tr_thenN (tr_ret (tr_thenR ?_))))));exact tr_ret1 rfl rfl ⟨_, rfl, H⟩
 ·replace H := H.2 g1;refine tr_skip (tr_thenN (tr_seq (tr_seq (tr_region (tq (y_assign rfl) (tr_nil (tr_thenN (tr_block ?_))))))));obtain ⟨m12, H⟩ := H;refine tr_sub [(0, p0.enc), (1, p1.enc), (5, (.int .i64 0))] ⟨rfl, rfl, rfl, trivial⟩ ?_;refine tr_loop_j (fun m L' h => ∃ (x0 : Sl) (x1 : Sl) (x5 : Int), L' = [(0, x0.enc), (1, x1.enc), (5, (.int .i64 x5))] ∧ F.xca.l1 Q m x0 x1 x5 h) ?_ ?_ m12 ⟨_, _, _, rfl, H⟩
  ·rintro L' h ⟨_, _, _, _, H⟩; exact H
  ·rintro q1 L' h ⟨x0, x1, x5, rfl, H⟩;unfold F.xca.l1 at H;refine tr_seq (tr_seq (tr_region (tq (y_move rfl) (tq (y_move rfl) (tq (y_len (ts := #[]) Tryz.runUnderlying60 (o := x0.ptr) (n := x0.len) (cap := x0.cap) rfl) (tq (y_lss rfl rfl) (tr_nil (tr_thenN ?_))))))));refine tr_cond rfl (fun g2 => ?_) (fun g2 => ?_)
   ·replace H := H.1 g2;refine tr_skip (tr_thenN (tr_seq (tr_block (tr_seq (tr_draw mixed [0, 0, 3, 7, 0, 0, 48, 112, 255] (by kernel_rfl) (g_p 0 1 rfl (by kernel_rfl) (y_move rfl) rfl rfl (g_p 1 3 rfl (by kernel_rfl) (y_move rfl) rfl rfl ?_)))))));obtain ⟨a3, e4, H⟩ := H;refine g_p 2 7 rfl (by kernel_rfl) (f_idx (s := x0) Tryz.runUnderlying60 Tryz.sizeOf51 rfl rfl e4) rfl rfl ?_;obtain ⟨y5, k6, H⟩ := H;refine g_h 3 15 rfl (by kernel_rfl) (y_ldS Tryz.isAgg51 Tryz.sizeOf51 rfl rfl) k6 rfl rfl (g_p 4 31 rfl (by kernel_rfl) (y_move rfl) rfl rfl (g_p 5 63 rfl (by kernel_rfl) (y_move rfl) rfl rfl ?_));obtain ⟨a7, e8, H⟩ := H;refine g_p 6 127 rfl (by kernel_rfl) (f_idx (s := x1) Tryz.runUnderlying60 Tryz.sizeOf51 rfl rfl e8) rfl rfl ?_;obtain ⟨y9, k10, H⟩ := H;refine g_h 7 255 rfl (by kernel_rfl) (y_ldS Tryz.isAgg51 Tryz.sizeOf51 rfl rfl) k10 rfl rfl (g_p 8 511 rfl (by kernel_rfl) (st_neq (b := ((((y5.Cell.View == y9.Cell.View) && ((y5.Cell.Key.toList == y9.Cell.Key.toList) && ((y5.Cell.Start == y9.Cell.Start) && true)))) && ((((y5.Agg.Count == y9.Agg.Count) && ((y5.Agg.Sum == y9.Agg.Sum) && ((y5.Agg.Min == y9.Agg.Min) && ((y5.Agg.Max == y9.Agg.Max) && true))))) && true))) eqg_51 (fun w => eqst_51 y5 y9 9997 w) rfl rfl) rfl rfl (g_d (by kernel_rfl) (tr_thenN ?_)));refine tr_cond rfl (fun g11 => ?_) (fun g11 => ?_)
    ·replace H := H.1 g11;refine tr_seq (tr_region (tq (y_assign rfl) (tr_nil (tr_thenN (tr_ret (tr_blockR (tr_thenR (tr_thenR (tr_blockR (tr_thenR ?_))))))))));exact tr_ret1 rfl rfl ⟨_, rfl, H⟩
    ·replace H := H.2 g11;refine tr_skip (tr_blockN (tr_thenN (tr_region (tq (y_move rfl) (tq (y_add rfl rfl) (tq (y_assign rfl) (tr_nil (tr_thenN ?_))))))));exact tr_join [(0, x0.enc), (1, x1.enc), (5, (.int .i64 (IntKind.wrap .i64 (x5 + 1))))] ⟨rfl, rfl, rfl, trivial⟩ ⟨_, _, _, rfl, H⟩
   ·replace H := H.2 g2;refine tr_exit (tr_thenE (tr_thenE (tr_hit (tr_thenN (tr_seq (tr_region (tq (y_assign rfl) (tr_nil (tr_thenN (tr_ret ?_))))))))));exact tr_ret1 rfl rfl ⟨_, rfl, H⟩
def F.xap.j2 (Q : Bool -> H -> Prop) (x0 : Option Addr) (x1 : Option Addr) (x5 : Addr) (h : H) : Prop :=
  ldL h (x5.add 9) fun y92 =>
  F.xda y92 h fun r95 h94 =>
  ldI .i64 h94 (x5.add 1) fun y96 =>
  ldI .i64 h94 (x5.add 1) fun y98 =>
  ldL h94 (x5.add 9) fun y100 =>
  F.xdn x0 y96 r95 h94 fun r103 h102 =>
  cellH h102 (x5.add 9) = some y100.enc ∧
  cellH h102 (x5.add 1) = some (.int .i64 y98) ∧
  F.xdr x1 y98 y100 h102 fun r107 h106 =>
  ((r103 == r107) = true ->
  ldL h106 (x5.add 9) fun y109 =>
  F.xar r95 y109 h106 fun r112 h111 =>
  Q r112 h111) ∧
  ((r103 == r107) = false ->
  Q false h106)
def F.xap.j3 (Q : Bool -> H -> Prop) (x0 : Option Addr) (x1 : Option Addr) (x5 : Addr) (x125 : Bool) (h : H) : Prop :=
  (x125 = true ->
  Q false h) ∧
  (x125 = false ->
  F.xap.j2 Q x0 x1 x5 h)
def F.xap.j1 (Q : Bool -> H -> Prop) (x0 : Option Addr) (x1 : Option Addr) (x5 : Addr) (h : H) : Prop :=
  ldL h (x5.add 9) fun y84 =>
  F.xda y84 h fun r87 h86 =>
  ldI .i64 h86 (x5.add 1) fun y88 =>
  F.xbx x0 y88 r87 h86 fun r91 h90 =>
  ldL h90 (x5.add 9) fun y114 =>
  F.xar r87 y114 h90 fun r117 h116 =>
  ((!r117) = true ->
  F.xap.j3 Q x0 x1 x5 true h116) ∧
  ((!r117) = false ->
  ldI .i64 h116 (x5.add 1) fun y119 =>
  ldL h116 (x5.add 9) fun y121 =>
  F.xac x1 y119 y121 h116 fun r124 h123 =>
  F.xap.j3 Q x0 x1 x5 ((r91 != r124)) h123)
def F.xap.j4 (Q : Bool -> H -> Prop) (x0 : Option Addr) (x1 : Option Addr) (x5 : Addr) (x102 : Bool) (h : H) : Prop :=
  (x102 = true ->
  Q true h) ∧
  (x102 = false ->
  F.xap.j1 Q x0 x1 x5 h)
def F.xap (p0 : Option Addr) (p1 : Option Addr) (p2 : S_spatelaw7_Step) (h : H) (Q : Bool -> H -> Prop) : Prop :=
  new h p2.cells.toArray ty_37 fun a2 h1 =>
  ldI .i64 h1 (a2.add 0) fun y3 =>
  (((y3 == 1)) = true ->
  ld_S_api_Cell h1 (a2.add 2) fun y6 =>
  ld_S_api_Agg h1 (a2.add 5) fun y8 =>
  new h1 (((⟨(⟨0, (⟨#[]⟩ : ByteArray), 0⟩ : S_api_Cell), (⟨0, 0, 0, 0⟩ : S_api_Agg)⟩ : S_api_Row) : S_api_Row).cells.toArray) ty_51 fun a11 h10 =>
  stH h10 a11 ((⟨y6, y8⟩ : S_api_Row).cells) fun h12 =>
  ldI .i64 h12 (a2.add 1) fun y13 =>
  ld_S_api_Row h12 a11 fun y15 =>
  ldI .i64 h12 (a2.add 1) fun y17 =>
  ld_S_api_Row h12 a11 fun y19 =>
  F.xai p0 y13 y15 h12 fun r22 h21 =>
  Cells h21 a11 y19.cells ∧
  cellH h21 (a2.add 1) = some (.int .i64 y17) ∧
  F.xbh p1 y17 y19 h21 fun r26 h25 =>
  Q ((r22 == r26)) h25) ∧
  (((y3 == 1)) = false ->
  (((y3 == 2)) = true ->
  ldI .i64 h1 (a2.add 1) fun y28 =>
  ld_S_api_Cell h1 (a2.add 2) fun y30 =>
  ldI .i64 h1 (a2.add 1) fun y32 =>
  ld_S_api_Cell h1 (a2.add 2) fun y34 =>
  F.xbl p0 y28 y30 h1 fun r37 h36 =>
  Cells h36 (a2.add 2) y34.cells ∧
  cellH h36 (a2.add 1) = some (.int .i64 y32) ∧
  F.xat p1 y32 y34 h36 fun r41 h40 =>
  Q ((r37 == r41)) h40) ∧
  (((y3 == 2)) = false ->
  (((y3 == 3)) = true ->
  ldL h1 (a2.add 10) fun y43 =>
  F.xdl y43 h1 fun r46 h45 =>
  F.xbu p0 r46 h45 fun r48 h47 =>
  ldL h47 (a2.add 10) fun y49 =>
  F.xba p1 y49 h47 fun r52 h51 =>
  (((r48 == r52)) = true ->
  ldL h51 (a2.add 10) fun y54 =>
  F.xax r46 y54 h51 fun r57 h56 =>
  Q r57 h56) ∧
  (((r48 == r52)) = false ->
  Q false h51)) ∧
  (((y3 == 3)) = false ->
  (((y3 == 4)) = true ->
  ld_S_api_Cell h1 (a2.add 2) fun y59 =>
  ld_S_api_Cell h1 (a2.add 2) fun y61 =>
  F.xcz p0 y59 h1 fun r64 h63 =>
  Cells h63 (a2.add 2) y61.cells ∧
  F.xcy p1 y61 0 h63 fun r67 h66 =>
  (((r64.Count == r67.Count) && ((r64.Sum == r67.Sum) && ((r64.Min == r67.Min) && ((r64.Max == r67.Max) && true)))) = true ->
  ld_S_api_Cell h66 (a2.add 2) fun y69 =>
  ldI .i64 h66 (a2.add 1) fun y71 =>
  ld_S_api_Cell h66 (a2.add 2) fun y73 =>
  ldI .i64 h66 (a2.add 1) fun y75 =>
  F.xcj p0 y69 y71 h66 fun r78 h77 =>
  cellH h77 (a2.add 1) = some (.int .i64 y75) ∧
  Cells h77 (a2.add 2) y73.cells ∧
  F.xcy p1 y73 y75 h77 fun r82 h81 =>
  Q ((r78.Count == r82.Count) && ((r78.Sum == r82.Sum) && ((r78.Min == r82.Min) && ((r78.Max == r82.Max) && true)))) h81) ∧
  (((r64.Count == r67.Count) && ((r64.Sum == r67.Sum) && ((r64.Min == r67.Min) && ((r64.Max == r67.Max) && true)))) = false ->
  Q false h66)) ∧
  (((y3 == 4)) = false ->
  (((y3 == 5)) = true ->
  ldI .i64 h1 (a2.add 1) fun y126 =>
  ((decide (y126 < 1)) = true ->
  F.xap.j4 Q p0 p1 a2 true h1) ∧
  ((decide (y126 < 1)) = false ->
  ldI .i64 h1 (a2.add 1) fun y129 =>
  F.xap.j4 Q p0 p1 a2 (decide (y129 > 1099511627776)) h1)) ∧
  (((y3 == 5)) = false ->
  (((y3 == 6)) = true ->
  ldI .i64 h1 (a2.add 1) fun y132 =>
  ld_S_api_Cell h1 (a2.add 2) fun y134 =>
  ld_S_api_Cell h1 (a2.add 11) fun y136 =>
  ldI .i64 h1 (a2.add 14) fun y138 =>
  ldI .i64 h1 (a2.add 1) fun y140 =>
  ld_S_api_Cell h1 (a2.add 2) fun y142 =>
  ld_S_api_Cell h1 (a2.add 11) fun y144 =>
  ldI .i64 h1 (a2.add 14) fun y146 =>
  F.xas p0 y132 y134 y136 y138 h1 fun r149 h148 =>
  cellH h148 (a2.add 14) = some (.int .i64 y146) ∧
  Cells h148 (a2.add 11) y144.cells ∧
  Cells h148 (a2.add 2) y142.cells ∧
  cellH h148 (a2.add 1) = some (.int .i64 y140) ∧
  F.xag p1 y140 y142 y144 y146 h148 fun r155 h154 =>
  F.xca r149 r155 h154 fun r157 h156 =>
  Q r157 h156) ∧
  (((y3 == 6)) = false ->
  Q true h1))))))
theorem F.xap_ok {p0 : Option Addr} {p1 : Option Addr} {p2 : S_spatelaw7_Step} {h : H} {Q : Bool -> H -> Prop} (H : F.xap p0 p1 p2 h Q) : Fn PP 20 ([(.pointer p0), (.pointer p1), (.agg p2.cells.toArray)] : List Value).toArray h fun r h' => ∃ r0, r = (.bool r0) ∧ Q r0 h' := by
 unfold F.xap at H;refine fn_of Tryz.func20 Tryz.ntmps20 rfl rfl fun w0 => (tr_sub [(0, (.pointer p0)), (1, (.pointer p1)), (2, (.agg p2.cells.toArray))] ⟨rfl, rfl, rfl, trivial⟩ (tr_seq (tr_region (tr_e (f_box (cs := p2.cells.toArray) rfl rfl H) rfl rfl ?_))));rintro _ h1 ⟨a2, rfl, H⟩;refine tq (y_assign rfl) (tr_nil (tr_thenN (tr_seq (tr_seq (tr_region (tq (y_fa (off := 0) Tryz.runUnderlying37 fo_37_0 rfl) ?_))))));obtain ⟨y3, k4, H⟩ := H;refine tr_h (y_ld Tryz.isAgg3 rfl) k4 rfl rfl (tr_nil (tr_thenN (tr_block (tr_seq (tr_region (tq (y_eql rfl rfl) (tq (y_assign rfl) (tr_nil (tr_thenN ?_)))))))));refine tr_cond rfl (fun g5 => ?_) (fun g5 => ?_)
 ·replace H := H.1 g5;refine tr_seq (tr_region (tq (y_fa (off := 2) Tryz.runUnderlying37 fo_37_2 rfl) ?_));obtain ⟨y6, k7, H⟩ := H;refine tr_h (y_ldS Tryz.isAgg32 Tryz.sizeOf32 rfl rfl) k7 rfl rfl (tq (y_fa (off := 5) Tryz.runUnderlying37 fo_37_3 rfl) ?_);obtain ⟨y8, k9, H⟩ := H;refine tr_h (y_ldS Tryz.isAgg34 Tryz.sizeOf34 rfl rfl) k9 rfl rfl (tq (f_build rfl (bd_51_0_1 y6 y8)) (tr_e (f_alloc (cs := ((⟨(⟨0, (⟨#[]⟩ : ByteArray), 0⟩ : S_api_Cell), (⟨0, 0, 0, 0⟩ : S_api_Agg)⟩ : S_api_Row) : S_api_Row).cells.toArray) Tryz.zeroValue51 rfl H) rfl rfl ?_));rintro _ h10 ⟨a11, rfl, H⟩;refine tr_e (f_store (vs := (⟨y6, y8⟩ : S_api_Row).cells) Tryz.sizeOf51 rfl rfl cellsOfStruct rfl (by intro v hv; exact ones_S_api_Row _ v hv) H) rfl rfl ?_;rintro _ h12 ⟨rfl, H⟩;refine tr_nil (tr_thenN (tr_seq (tr_draw mixed [0, 0, 2, 0, 15, 0, 0, 64, 0, 511, 1023, 2047] (by kernel_rfl) (g_p 0 1 rfl (by kernel_rfl) (y_move rfl) rfl rfl (g_p 1 3 rfl (by kernel_rfl) (y_fa (off := 1) Tryz.runUnderlying37 fo_37_1 rfl) rfl rfl ?_)))));obtain ⟨y13, k14, H⟩ := H;refine g_h 2 7 rfl (by kernel_rfl) (y_ld Tryz.isAgg3 rfl) k14 rfl rfl ?_;obtain ⟨y15, k16, H⟩ := H;refine g_h 3 15 rfl (by kernel_rfl) (y_ldS Tryz.isAgg51 Tryz.sizeOf51 rfl rfl) k16 rfl rfl (g_p 5 47 rfl (by kernel_rfl) (y_move rfl) rfl rfl (g_p 6 111 rfl (by kernel_rfl) (y_fa (off := 1) Tryz.runUnderlying37 fo_37_1 rfl) rfl rfl ?_));obtain ⟨y17, k18, H⟩ := H;refine g_h 7 239 rfl (by kernel_rfl) (y_ld Tryz.isAgg3 rfl) k18 rfl rfl ?_;obtain ⟨y19, k20, H⟩ := H;refine g_h 8 495 rfl (by kernel_rfl) (y_ldS Tryz.isAgg51 Tryz.sizeOf51 rfl rfl) k20 rfl rfl (g_e 4 511 [(8, fun h => Cells h a11 y19.cells), (7, fun h => cellH h (a2.add 1) = some (.int .i64 y17))] (by kernel_rfl) rfl (by kernel_rfl) (e_call Tryz.call16 rfl (F.xai_ok H)) rfl rfl ?_);rintro _ h21 ⟨r22, rfl, H⟩;obtain ⟨k23, k24, H⟩ := H;refine ⟨And.intro k23 (And.intro k24 trivial), ?_⟩;refine g_e 9 1023 [] (by kernel_rfl) rfl (by kernel_rfl) (e_call Tryz.call46 rfl (F.xbh_ok H)) rfl rfl ?_;rintro _ h25 ⟨r26, rfl, H⟩;refine ⟨trivial, ?_⟩;refine g_p 10 2047 rfl (by kernel_rfl) (y_eql rfl rfl) rfl rfl (g_p 11 4095 rfl (by kernel_rfl) (y_assign rfl) rfl rfl (g_d (by kernel_rfl) (tr_thenN (tr_ret (tr_blockR (tr_thenR ?_))))));exact tr_ret1 rfl rfl ⟨_, rfl, H⟩
 ·replace H := H.2 g5;refine tr_seq (tr_region (tq (y_eql rfl rfl) (tq (y_assign rfl) (tr_nil (tr_thenN ?_)))));refine tr_cond rfl (fun g27 => ?_) (fun g27 => ?_)
  ·replace H := H.1 g27;refine tr_seq (tr_draw mixed [0, 0, 2, 0, 8, 31, 0, 0, 128, 0, 512, 2047, 4095, 8191] (by kernel_rfl) (g_p 0 1 rfl (by kernel_rfl) (y_move rfl) rfl rfl (g_p 1 3 rfl (by kernel_rfl) (y_fa (off := 1) Tryz.runUnderlying37 fo_37_1 rfl) rfl rfl ?_)));obtain ⟨y28, k29, H⟩ := H;refine g_h 2 7 rfl (by kernel_rfl) (y_ld Tryz.isAgg3 rfl) k29 rfl rfl (g_p 3 15 rfl (by kernel_rfl) (y_fa (off := 2) Tryz.runUnderlying37 fo_37_2 rfl) rfl rfl ?_);obtain ⟨y30, k31, H⟩ := H;refine g_h 4 31 rfl (by kernel_rfl) (y_ldS Tryz.isAgg32 Tryz.sizeOf32 rfl rfl) k31 rfl rfl (g_p 6 95 rfl (by kernel_rfl) (y_move rfl) rfl rfl (g_p 7 223 rfl (by kernel_rfl) (y_fa (off := 1) Tryz.runUnderlying37 fo_37_1 rfl) rfl rfl ?_));obtain ⟨y32, k33, H⟩ := H;refine g_h 8 479 rfl (by kernel_rfl) (y_ld Tryz.isAgg3 rfl) k33 rfl rfl (g_p 9 991 rfl (by kernel_rfl) (y_fa (off := 2) Tryz.runUnderlying37 fo_37_2 rfl) rfl rfl ?_);obtain ⟨y34, k35, H⟩ := H;refine g_h 10 2015 rfl (by kernel_rfl) (y_ldS Tryz.isAgg32 Tryz.sizeOf32 rfl rfl) k35 rfl rfl (g_e 5 2047 [(10, fun h => Cells h (a2.add 2) y34.cells), (8, fun h => cellH h (a2.add 1) = some (.int .i64 y32))] (by kernel_rfl) rfl (by kernel_rfl) (e_call Tryz.call32 rfl (F.xbl_ok H)) rfl rfl ?_);rintro _ h36 ⟨r37, rfl, H⟩;obtain ⟨k38, k39, H⟩ := H;refine ⟨And.intro k38 (And.intro k39 trivial), ?_⟩;refine g_e 11 4095 [] (by kernel_rfl) rfl (by kernel_rfl) (e_call Tryz.call47 rfl (F.xat_ok H)) rfl rfl ?_;rintro _ h40 ⟨r41, rfl, H⟩;refine ⟨trivial, ?_⟩;refine g_p 12 8191 rfl (by kernel_rfl) (y_eql rfl rfl) rfl rfl (g_p 13 16383 rfl (by kernel_rfl) (y_assign rfl) rfl rfl (g_d (by kernel_rfl) (tr_thenN (tr_ret (tr_blockR (tr_thenR ?_))))));exact tr_ret1 rfl rfl ⟨_, rfl, H⟩
  ·replace H := H.2 g27;refine tr_seq (tr_region (tq (y_eql rfl rfl) (tq (y_assign rfl) (tr_nil (tr_thenN ?_)))));refine tr_cond rfl (fun g42 => ?_) (fun g42 => ?_)
   ·replace H := H.1 g42;refine tr_seq (tr_region (tq (y_fa (off := 10) Tryz.runUnderlying37 fo_37_5 rfl) ?_));obtain ⟨y43, k44, H⟩ := H;refine tr_h (y_ld Tryz.isAgg35 rfl) k44 rfl rfl (tr_e (e_call Tryz.call48 rfl (F.xdl_ok H)) rfl rfl ?_);rintro _ h45 ⟨r46, rfl, H⟩;refine tq (y_assign rfl) (tr_nil (tr_thenN (tr_seq (tr_region (tq (y_move rfl) (tq (y_move rfl) (tr_e (e_call Tryz.call33 rfl (F.xbu_ok H)) rfl rfl ?_)))))));rintro _ h47 ⟨r48, rfl, H⟩;refine tq (y_assign rfl) (tr_nil (tr_thenN (tr_seq (tr_region (tq (y_move rfl) (tq (y_move rfl) (tq (y_fa (off := 10) Tryz.runUnderlying37 fo_37_5 rfl) ?_)))))));obtain ⟨y49, k50, H⟩ := H;refine tr_h (y_ld Tryz.isAgg35 rfl) k50 rfl rfl (tr_e (e_call Tryz.call49 rfl (F.xba_ok H)) rfl rfl ?_);rintro _ h51 ⟨r52, rfl, H⟩;refine tq (y_eql rfl rfl) (tq (y_move rfl) ?_);refine tr_split (t := 61) rfl (fun g53 => ?_) (fun g53 => ?_)
    ·replace H := H.1 g53;refine tq (y_move rfl) (tq (y_fa (off := 10) Tryz.runUnderlying37 fo_37_5 rfl) ?_);obtain ⟨y54, k55, H⟩ := H;refine tr_h (y_ld Tryz.isAgg35 rfl) k55 rfl rfl (tr_e (e_call Tryz.call50 rfl (F.xax_ok H)) rfl rfl ?_);rintro _ h56 ⟨r57, rfl, H⟩;refine tq (y_pick_t rfl rfl) (tq (y_assign rfl) (tr_nil (tr_thenN (tr_ret (tr_blockR (tr_thenR ?_))))));exact tr_ret1 rfl rfl ⟨_, rfl, H⟩
    ·replace H := H.2 g53;refine ts (ts (ts (ts (tq (y_pick_f rfl rfl) (tq (y_assign rfl) (tr_nil (tr_thenN (tr_ret (tr_blockR (tr_thenR ?_))))))))));exact tr_ret1 rfl rfl ⟨_, rfl, H⟩
   ·replace H := H.2 g42;refine tr_seq (tr_region (tq (y_eql rfl rfl) (tq (y_assign rfl) (tr_nil (tr_thenN ?_)))));refine tr_cond rfl (fun g58 => ?_) (fun g58 => ?_)
    ·replace H := H.1 g58;refine tr_seq (tr_draw mixed [0, 0, 2, 7, 0, 0, 32, 127, 255, 511, 1023, 1023, 3071, 1023, 9215, 32767, 1023, 1023, 132095, 1023, 525311, 2097151, 4194303, 8388607, 16777215] (by kernel_rfl) (g_p 0 1 rfl (by kernel_rfl) (y_move rfl) rfl rfl (g_p 1 3 rfl (by kernel_rfl) (y_fa (off := 2) Tryz.runUnderlying37 fo_37_2 rfl) rfl rfl ?_)));obtain ⟨y59, k60, H⟩ := H;refine g_h 2 7 rfl (by kernel_rfl) (y_ldS Tryz.isAgg32 Tryz.sizeOf32 rfl rfl) k60 rfl rfl (g_p 4 23 rfl (by kernel_rfl) (y_move rfl) rfl rfl (g_p 5 55 rfl (by kernel_rfl) (y_fa (off := 2) Tryz.runUnderlying37 fo_37_2 rfl) rfl rfl ?_));obtain ⟨y61, k62, H⟩ := H;refine g_h 6 119 rfl (by kernel_rfl) (y_ldS Tryz.isAgg32 Tryz.sizeOf32 rfl rfl) k62 rfl rfl (g_e 3 127 [(6, fun h => Cells h (a2.add 2) y61.cells)] (by kernel_rfl) rfl (by kernel_rfl) (e_call Tryz.call28 rfl (F.xcz_ok H)) rfl rfl ?_);rintro _ h63 ⟨r64, rfl, H⟩;obtain ⟨k65, H⟩ := H;refine ⟨And.intro k65 trivial, ?_⟩;refine g_e 7 255 [] (by kernel_rfl) rfl (by kernel_rfl) (e_call Tryz.call51 rfl (F.xcy_ok H)) rfl rfl ?_;rintro _ h66 ⟨r67, rfl, H⟩;refine ⟨trivial, ?_⟩;refine g_p 8 511 rfl (by kernel_rfl) (st_eql (b := ((r64.Count == r67.Count) && ((r64.Sum == r67.Sum) && ((r64.Min == r67.Min) && ((r64.Max == r67.Max) && true))))) eqg_34 (fun w => eqst_34 r64 r67 9998 w) rfl rfl) rfl rfl (g_p 9 1023 rfl (by kernel_rfl) (y_move rfl) rfl rfl ?_);refine g_split (t := 78) rfl (fun g68 => ?_) (fun g68 => ?_)
     ·replace H := H.1 g68;refine g_p 10 2047 rfl (by kernel_rfl) (y_move rfl) rfl rfl (g_p 11 4095 rfl (by kernel_rfl) (y_fa (off := 2) Tryz.runUnderlying37 fo_37_2 rfl) rfl rfl ?_);obtain ⟨y69, k70, H⟩ := H;refine g_h 12 8191 rfl (by kernel_rfl) (y_ldS Tryz.isAgg32 Tryz.sizeOf32 rfl rfl) k70 rfl rfl (g_p 13 16383 rfl (by kernel_rfl) (y_fa (off := 1) Tryz.runUnderlying37 fo_37_1 rfl) rfl rfl ?_);obtain ⟨y71, k72, H⟩ := H;refine g_h 14 32767 rfl (by kernel_rfl) (y_ld Tryz.isAgg3 rfl) k72 rfl rfl (g_p 16 98303 rfl (by kernel_rfl) (y_move rfl) rfl rfl (g_p 17 229375 rfl (by kernel_rfl) (y_fa (off := 2) Tryz.runUnderlying37 fo_37_2 rfl) rfl rfl ?_));obtain ⟨y73, k74, H⟩ := H;refine g_h 18 491519 rfl (by kernel_rfl) (y_ldS Tryz.isAgg32 Tryz.sizeOf32 rfl rfl) k74 rfl rfl (g_p 19 1015807 rfl (by kernel_rfl) (y_fa (off := 1) Tryz.runUnderlying37 fo_37_1 rfl) rfl rfl ?_);obtain ⟨y75, k76, H⟩ := H;refine g_h 20 2064383 rfl (by kernel_rfl) (y_ld Tryz.isAgg3 rfl) k76 rfl rfl (g_e 15 2097151 [(20, fun h => cellH h (a2.add 1) = some (.int .i64 y75)), (18, fun h => Cells h (a2.add 2) y73.cells)] (by kernel_rfl) rfl (by kernel_rfl) (e_call Tryz.call26 rfl (F.xcj_ok H)) rfl rfl ?_);rintro _ h77 ⟨r78, rfl, H⟩;obtain ⟨k79, k80, H⟩ := H;refine ⟨And.intro k79 (And.intro k80 trivial), ?_⟩;refine g_e 21 4194303 [] (by kernel_rfl) rfl (by kernel_rfl) (e_call Tryz.call51 rfl (F.xcy_ok H)) rfl rfl ?_;rintro _ h81 ⟨r82, rfl, H⟩;refine ⟨trivial, ?_⟩;refine g_p 22 8388607 rfl (by kernel_rfl) (st_eql (b := ((r78.Count == r82.Count) && ((r78.Sum == r82.Sum) && ((r78.Min == r82.Min) && ((r78.Max == r82.Max) && true))))) eqg_34 (fun w => eqst_34 r78 r82 9998 w) rfl rfl) rfl rfl (g_p 23 16777215 rfl (by kernel_rfl) (y_pick_t rfl rfl) rfl rfl (g_p 24 33554431 rfl (by kernel_rfl) (y_assign rfl) rfl rfl (g_d (by kernel_rfl) (tr_thenN (tr_ret (tr_blockR (tr_thenR ?_)))))));exact tr_ret1 rfl rfl ⟨_, rfl, H⟩
     ·replace H := H.2 g68;refine g_s 10 2047 rfl (by kernel_rfl) rfl rfl (g_s 11 4095 rfl (by kernel_rfl) rfl rfl (g_s 12 8191 rfl (by kernel_rfl) rfl rfl (g_s 13 16383 rfl (by kernel_rfl) rfl rfl (g_s 14 32767 rfl (by kernel_rfl) rfl rfl (g_s 15 65535 rfl (by kernel_rfl) rfl rfl (g_s 16 131071 rfl (by kernel_rfl) rfl rfl (g_s 17 262143 rfl (by kernel_rfl) rfl rfl (g_s 18 524287 rfl (by kernel_rfl) rfl rfl (g_s 19 1048575 rfl (by kernel_rfl) rfl rfl (g_s 20 2097151 rfl (by kernel_rfl) rfl rfl (g_s 21 4194303 rfl (by kernel_rfl) rfl rfl (g_s 22 8388607 rfl (by kernel_rfl) rfl rfl (g_p 23 16777215 rfl (by kernel_rfl) (y_pick_f rfl rfl) rfl rfl ?_)))))))))))));refine g_p 24 33554431 rfl (by kernel_rfl) (y_assign rfl) rfl rfl (g_d (by kernel_rfl) (tr_thenN (tr_ret (tr_blockR (tr_thenR ?_)))));exact tr_ret1 rfl rfl ⟨_, rfl, H⟩
    ·replace H := H.2 g58;refine tr_seq (tr_region (tq (y_eql rfl rfl) (tq (y_assign rfl) (tr_nil (tr_thenN ?_)))));refine tr_cond rfl (fun g83 => ?_) (fun g83 => ?_)
     ·replace H := H.1 g83;refine tr_seq_j (fun L' h => ∃ (x0 : Option Addr) (x1 : Option Addr) (x5 : Addr), L' = [(0, (.pointer x0)), (1, (.pointer x1)), (5, (.pointer (some x5)))] ∧ F.xap.j1 Q x0 x1 x5 h) ?_ ?_
      ·rintro L' h ⟨x0, x1, x5, rfl, H⟩;unfold F.xap.j1 at H;refine tr_seq (tr_region (tq (y_fa (off := 9) Tryz.runUnderlying37 fo_37_4 rfl) ?_));obtain ⟨y84, k85, H⟩ := H;refine tr_h (y_ld Tryz.isAgg23 rfl) k85 rfl rfl (tr_e (e_call Tryz.call13 rfl (F.xda_ok H)) rfl rfl ?_);rintro _ h86 ⟨r87, rfl, H⟩;refine tq (y_assign rfl) (tr_nil (tr_thenN (tr_seq (tr_region (tq (y_move rfl) (tq (y_fa (off := 1) Tryz.runUnderlying37 fo_37_1 rfl) ?_))))));obtain ⟨y88, k89, H⟩ := H;refine tr_h (y_ld Tryz.isAgg3 rfl) k89 rfl rfl (tq (y_move rfl) (tr_e (e_call Tryz.call12 rfl (F.xbx_ok H)) rfl rfl ?_));rintro _ h90 ⟨r91, rfl, H⟩;refine tq (y_assign rfl) (tr_nil (tr_thenN ?_));refine tr_seq_j (fun L' h => ∃ (x0 : Option Addr) (x1 : Option Addr) (x5 : Addr), L' = [(0, (.pointer x0)), (1, (.pointer x1)), (5, (.pointer (some x5)))] ∧ F.xap.j2 Q x0 x1 x5 h) ?_ ?_
       ·rintro L' h ⟨x0, x1, x5, rfl, H⟩;unfold F.xap.j2 at H;refine tr_seq (tr_region (tq (y_fa (off := 9) Tryz.runUnderlying37 fo_37_4 rfl) ?_));obtain ⟨y92, k93, H⟩ := H;refine tr_h (y_ld Tryz.isAgg23 rfl) k93 rfl rfl (tr_e (e_call Tryz.call13 rfl (F.xda_ok H)) rfl rfl ?_);rintro _ h94 ⟨r95, rfl, H⟩;refine tq (y_assign rfl) (tr_nil (tr_thenN (tr_seq (tr_draw mixed [0, 0, 2, 0, 15, 0, 0, 64, 0, 256, 1023, 2047, 4095, 8191, 8191, 24575, 65535, 131071, 262143] (by kernel_rfl) (g_p 0 1 rfl (by kernel_rfl) (y_move rfl) rfl rfl (g_p 1 3 rfl (by kernel_rfl) (y_fa (off := 1) Tryz.runUnderlying37 fo_37_1 rfl) rfl rfl ?_))))));obtain ⟨y96, k97, H⟩ := H;refine g_h 2 7 rfl (by kernel_rfl) (y_ld Tryz.isAgg3 rfl) k97 rfl rfl (g_p 3 15 rfl (by kernel_rfl) (y_move rfl) rfl rfl (g_p 5 47 rfl (by kernel_rfl) (y_move rfl) rfl rfl (g_p 6 111 rfl (by kernel_rfl) (y_fa (off := 1) Tryz.runUnderlying37 fo_37_1 rfl) rfl rfl ?_)));obtain ⟨y98, k99, H⟩ := H;refine g_h 7 239 rfl (by kernel_rfl) (y_ld Tryz.isAgg3 rfl) k99 rfl rfl (g_p 8 495 rfl (by kernel_rfl) (y_fa (off := 9) Tryz.runUnderlying37 fo_37_4 rfl) rfl rfl ?_);obtain ⟨y100, k101, H⟩ := H;refine g_h 9 1007 rfl (by kernel_rfl) (y_ld Tryz.isAgg23 rfl) k101 rfl rfl (g_e 4 1023 [(9, fun h => cellH h (x5.add 9) = some y100.enc), (7, fun h => cellH h (x5.add 1) = some (.int .i64 y98))] (by kernel_rfl) rfl (by kernel_rfl) (e_call Tryz.call15 rfl (F.xdn_ok H)) rfl rfl ?_);rintro _ h102 ⟨r103, rfl, H⟩;obtain ⟨k104, k105, H⟩ := H;refine ⟨And.intro k104 (And.intro k105 trivial), ?_⟩;refine g_e 10 2047 [] (by kernel_rfl) rfl (by kernel_rfl) (e_call Tryz.call54 rfl (F.xdr_ok H)) rfl rfl ?_;rintro _ h106 ⟨r107, rfl, H⟩;refine ⟨trivial, ?_⟩;refine g_p 11 4095 rfl (by kernel_rfl) (y_beql Tryz.underlying4 rfl rfl) rfl rfl (g_p 12 8191 rfl (by kernel_rfl) (y_move rfl) rfl rfl ?_);refine g_split (t := 141) rfl (fun g108 => ?_) (fun g108 => ?_)
        ·replace H := H.1 g108;refine g_p 13 16383 rfl (by kernel_rfl) (y_move rfl) rfl rfl (g_p 14 32767 rfl (by kernel_rfl) (y_fa (off := 9) Tryz.runUnderlying37 fo_37_4 rfl) rfl rfl ?_);obtain ⟨y109, k110, H⟩ := H;refine g_h 15 65535 rfl (by kernel_rfl) (y_ld Tryz.isAgg23 rfl) k110 rfl rfl (g_e 16 131071 [] (by kernel_rfl) rfl (by kernel_rfl) (e_call Tryz.call52 rfl (F.xar_ok H)) rfl rfl ?_);rintro _ h111 ⟨r112, rfl, H⟩;refine ⟨trivial, ?_⟩;refine g_p 17 262143 rfl (by kernel_rfl) (y_pick_t rfl rfl) rfl rfl (g_p 18 524287 rfl (by kernel_rfl) (y_assign rfl) rfl rfl (g_d (by kernel_rfl) (tr_thenN (tr_ret (tr_blockR (tr_thenR ?_))))));exact tr_ret1 rfl rfl ⟨_, rfl, H⟩
        ·replace H := H.2 g108;refine g_s 13 16383 rfl (by kernel_rfl) rfl rfl (g_s 14 32767 rfl (by kernel_rfl) rfl rfl (g_s 15 65535 rfl (by kernel_rfl) rfl rfl (g_s 16 131071 rfl (by kernel_rfl) rfl rfl (g_p 17 262143 rfl (by kernel_rfl) (y_pick_f rfl rfl) rfl rfl (g_p 18 524287 rfl (by kernel_rfl) (y_assign rfl) rfl rfl (g_d (by kernel_rfl) (tr_thenN (tr_ret (tr_blockR (tr_thenR ?_))))))))));exact tr_ret1 rfl rfl ⟨_, rfl, H⟩
       ·refine tr_seq_j (fun L' h => ∃ (x0 : Option Addr) (x1 : Option Addr) (x5 : Addr) (x125 : Bool), L' = [(0, (.pointer x0)), (1, (.pointer x1)), (5, (.pointer (some x5))), (125, (.bool x125))] ∧ F.xap.j3 Q x0 x1 x5 x125 h) ?_ ?_
        ·rintro L' h ⟨x0, x1, x5, x125, rfl, H⟩;unfold F.xap.j3 at H;refine tr_cond rfl (fun g113 => ?_) (fun g113 => ?_)
         ·replace H := H.1 g113;refine tr_seq (tr_region (tq (y_assign rfl) (tr_nil (tr_thenN (tr_ret (tr_thenR (tr_blockR (tr_thenR ?_))))))));exact tr_ret1 rfl rfl ⟨_, rfl, H⟩
         ·replace H := H.2 g113;refine tr_skip (tr_thenN ?_);exact tr_join [(0, (.pointer x0)), (1, (.pointer x1)), (5, (.pointer (some x5)))] ⟨rfl, rfl, rfl, trivial⟩ ⟨_, _, _, rfl, H⟩
        ·refine tr_region (tq (y_move rfl) (tq (y_fa (off := 9) Tryz.runUnderlying37 fo_37_4 rfl) ?_));obtain ⟨y114, k115, H⟩ := H;refine tr_h (y_ld Tryz.isAgg23 rfl) k115 rfl rfl (tr_e (e_call Tryz.call52 rfl (F.xar_ok H)) rfl rfl ?_);rintro _ h116 ⟨r117, rfl, H⟩;refine tq (y_not rfl) (tq (y_move rfl) ?_);refine tr_split (t := 116) rfl (fun g118 => ?_) (fun g118 => ?_)
         ·replace H := H.1 g118;refine ts (ts (ts (ts (ts (ts (ts (ts (tq (y_pick_t rfl rfl) (tr_nil (tr_thenN ?_))))))))));exact tr_join [(0, (.pointer x0)), (1, (.pointer x1)), (5, (.pointer (some x5))), (125, (.bool true))] ⟨rfl, rfl, rfl, rfl, trivial⟩ ⟨_, _, _, _, rfl, H⟩
         ·replace H := H.2 g118;refine tq (y_move rfl) (tq (y_move rfl) (tq (y_fa (off := 1) Tryz.runUnderlying37 fo_37_1 rfl) ?_));obtain ⟨y119, k120, H⟩ := H;refine tr_h (y_ld Tryz.isAgg3 rfl) k120 rfl rfl (tq (y_fa (off := 9) Tryz.runUnderlying37 fo_37_4 rfl) ?_);obtain ⟨y121, k122, H⟩ := H;refine tr_h (y_ld Tryz.isAgg23 rfl) k122 rfl rfl (tr_e (e_call Tryz.call53 rfl (F.xac_ok H)) rfl rfl ?_);rintro _ h123 ⟨r124, rfl, H⟩;refine tq (y_neq rfl rfl) (tq (y_pick_f rfl rfl) (tr_nil (tr_thenN ?_)));exact tr_join [(0, (.pointer x0)), (1, (.pointer x1)), (5, (.pointer (some x5))), (125, (.bool ((r91 != r124))))] ⟨rfl, rfl, rfl, rfl, trivial⟩ ⟨_, _, _, _, rfl, H⟩
      ·refine tr_seq_j (fun L' h => ∃ (x0 : Option Addr) (x1 : Option Addr) (x5 : Addr) (x102 : Bool), L' = [(0, (.pointer x0)), (1, (.pointer x1)), (5, (.pointer (some x5))), (102, (.bool x102))] ∧ F.xap.j4 Q x0 x1 x5 x102 h) ?_ ?_
       ·rintro L' h ⟨x0, x1, x5, x102, rfl, H⟩;unfold F.xap.j4 at H;refine tr_cond rfl (fun g125 => ?_) (fun g125 => ?_)
        ·replace H := H.1 g125;refine tr_seq (tr_region (tq (y_assign rfl) (tr_nil (tr_thenN (tr_ret (tr_thenR (tr_blockR (tr_thenR ?_))))))));exact tr_ret1 rfl rfl ⟨_, rfl, H⟩
        ·replace H := H.2 g125;refine tr_skip (tr_thenN ?_);exact tr_join [(0, (.pointer x0)), (1, (.pointer x1)), (5, (.pointer (some x5)))] ⟨rfl, rfl, rfl, trivial⟩ ⟨_, _, _, rfl, H⟩
       ·refine tr_region (tq (y_fa (off := 1) Tryz.runUnderlying37 fo_37_1 rfl) ?_);obtain ⟨y126, k127, H⟩ := H;refine tr_h (y_ld Tryz.isAgg3 rfl) k127 rfl rfl (tq (y_lss rfl rfl) (tq (y_move rfl) ?_));refine tr_split (t := 98) rfl (fun g128 => ?_) (fun g128 => ?_)
        ·replace H := H.1 g128;refine ts (ts (ts (tq (y_pick_t rfl rfl) (tr_nil (tr_thenN ?_)))));exact tr_join [(0, (.pointer p0)), (1, (.pointer p1)), (5, (.pointer (some a2))), (102, (.bool true))] ⟨rfl, rfl, rfl, rfl, trivial⟩ ⟨_, _, _, _, rfl, H⟩
        ·replace H := H.2 g128;refine tq (y_fa (off := 1) Tryz.runUnderlying37 fo_37_1 rfl) ?_;obtain ⟨y129, k130, H⟩ := H;refine tr_h (y_ld Tryz.isAgg3 rfl) k130 rfl rfl (tq (y_gtr rfl rfl) (tq (y_pick_f rfl rfl) (tr_nil (tr_thenN ?_))));exact tr_join [(0, (.pointer p0)), (1, (.pointer p1)), (5, (.pointer (some a2))), (102, (.bool (decide (y129 > 1099511627776))))] ⟨rfl, rfl, rfl, rfl, trivial⟩ ⟨_, _, _, _, rfl, H⟩
     ·replace H := H.2 g83;refine tr_seq (tr_region (tq (y_eql rfl rfl) (tq (y_assign rfl) (tr_nil (tr_thenN ?_)))));refine tr_cond rfl (fun g131 => ?_) (fun g131 => ?_)
      ·replace H := H.1 g131;refine tr_seq (tr_draw mixed [0, 0, 2, 0, 8, 0, 32, 0, 128, 511, 0, 0, 2048, 0, 8192, 0, 32768, 0, 131072, 524287, 1048575, 2097151] (by kernel_rfl) (g_p 0 1 rfl (by kernel_rfl) (y_move rfl) rfl rfl (g_p 1 3 rfl (by kernel_rfl) (y_fa (off := 1) Tryz.runUnderlying37 fo_37_1 rfl) rfl rfl ?_)));obtain ⟨y132, k133, H⟩ := H;refine g_h 2 7 rfl (by kernel_rfl) (y_ld Tryz.isAgg3 rfl) k133 rfl rfl (g_p 3 15 rfl (by kernel_rfl) (y_fa (off := 2) Tryz.runUnderlying37 fo_37_2 rfl) rfl rfl ?_);obtain ⟨y134, k135, H⟩ := H;refine g_h 4 31 rfl (by kernel_rfl) (y_ldS Tryz.isAgg32 Tryz.sizeOf32 rfl rfl) k135 rfl rfl (g_p 5 63 rfl (by kernel_rfl) (y_fa (off := 11) Tryz.runUnderlying37 fo_37_6 rfl) rfl rfl ?_);obtain ⟨y136, k137, H⟩ := H;refine g_h 6 127 rfl (by kernel_rfl) (y_ldS Tryz.isAgg32 Tryz.sizeOf32 rfl rfl) k137 rfl rfl (g_p 7 255 rfl (by kernel_rfl) (y_fa (off := 14) Tryz.runUnderlying37 fo_37_7 rfl) rfl rfl ?_);obtain ⟨y138, k139, H⟩ := H;refine g_h 8 511 rfl (by kernel_rfl) (y_ld Tryz.isAgg3 rfl) k139 rfl rfl (g_p 10 1535 rfl (by kernel_rfl) (y_move rfl) rfl rfl (g_p 11 3583 rfl (by kernel_rfl) (y_fa (off := 1) Tryz.runUnderlying37 fo_37_1 rfl) rfl rfl ?_));obtain ⟨y140, k141, H⟩ := H;refine g_h 12 7679 rfl (by kernel_rfl) (y_ld Tryz.isAgg3 rfl) k141 rfl rfl (g_p 13 15871 rfl (by kernel_rfl) (y_fa (off := 2) Tryz.runUnderlying37 fo_37_2 rfl) rfl rfl ?_);obtain ⟨y142, k143, H⟩ := H;refine g_h 14 32255 rfl (by kernel_rfl) (y_ldS Tryz.isAgg32 Tryz.sizeOf32 rfl rfl) k143 rfl rfl (g_p 15 65023 rfl (by kernel_rfl) (y_fa (off := 11) Tryz.runUnderlying37 fo_37_6 rfl) rfl rfl ?_);obtain ⟨y144, k145, H⟩ := H;refine g_h 16 130559 rfl (by kernel_rfl) (y_ldS Tryz.isAgg32 Tryz.sizeOf32 rfl rfl) k145 rfl rfl (g_p 17 261631 rfl (by kernel_rfl) (y_fa (off := 14) Tryz.runUnderlying37 fo_37_7 rfl) rfl rfl ?_);obtain ⟨y146, k147, H⟩ := H;refine g_h 18 523775 rfl (by kernel_rfl) (y_ld Tryz.isAgg3 rfl) k147 rfl rfl (g_e 9 524287 [(18, fun h => cellH h (a2.add 14) = some (.int .i64 y146)), (16, fun h => Cells h (a2.add 11) y144.cells), (14, fun h => Cells h (a2.add 2) y142.cells), (12, fun h => cellH h (a2.add 1) = some (.int .i64 y140))] (by kernel_rfl) rfl (by kernel_rfl) (e_call Tryz.call23 rfl (F.xas_ok H)) rfl rfl ?_);rintro _ h148 ⟨r149, rfl, H⟩;obtain ⟨k150, k151, k152, k153, H⟩ := H;refine ⟨And.intro k150 (And.intro k151 (And.intro k152 (And.intro k153 trivial))), ?_⟩;refine g_e 19 1048575 [] (by kernel_rfl) rfl (by kernel_rfl) (e_call Tryz.call24 rfl (F.xag_ok H)) rfl rfl ?_;rintro _ h154 ⟨r155, rfl, H⟩;refine ⟨trivial, ?_⟩;refine g_e 20 2097151 [] (by kernel_rfl) rfl (by kernel_rfl) (e_call Tryz.call22 rfl (F.xca_ok H)) rfl rfl ?_;rintro _ h156 ⟨r157, rfl, H⟩;refine ⟨trivial, ?_⟩;refine g_p 21 4194303 rfl (by kernel_rfl) (y_assign rfl) rfl rfl (g_d (by kernel_rfl) (tr_thenN (tr_ret (tr_blockR (tr_thenR ?_)))));exact tr_ret1 rfl rfl ⟨_, rfl, H⟩
      ·replace H := H.2 g131;refine tr_skip (tr_blockN (tr_thenN (tr_seq (tr_region (tq (y_assign rfl) (tr_nil (tr_thenN (tr_ret ?_))))))));exact tr_ret1 rfl rfl ⟨_, rfl, H⟩
def F.xaf.j3 (Q : (Option Addr) -> (Option Addr) -> H -> Prop) (C1 : Sl -> (Option Addr) -> (Option Addr) -> Int -> H -> Prop) (x1 : Sl) (x6 : Option Addr) (x8 : Option Addr) (x10 : Int) (h : H) : Prop :=
  C1 x1 x6 x8 (IntKind.wrap .i64 (x10 + 1)) h
def F.xaf.j4 (Q : (Option Addr) -> (Option Addr) -> H -> Prop) (C1 : Sl -> (Option Addr) -> (Option Addr) -> Int -> H -> Prop) (x1 : Sl) (x6 : Option Addr) (x8 : Option Addr) (x10 : Int) (x47 : Bool) (h : H) : Prop :=
  (x47 = true ->
  idxA x1 x10 15 fun a8 =>
  ld_S_spatelaw7_Step h a8 fun y10 =>
  F.xap x6 x8 y10 h fun r13 h12 =>
  F.xaf.j3 Q C1 x1 x6 x8 x10 h12) ∧
  (x47 = false ->
  F.xaf.j3 Q C1 x1 x6 x8 x10 h)
def F.xaf.j2 (Q : (Option Addr) -> (Option Addr) -> H -> Prop) (C1 : Sl -> (Option Addr) -> (Option Addr) -> Int -> H -> Prop) (x1 : Sl) (x6 : Option Addr) (x8 : Option Addr) (x10 : Int) (h : H) : Prop :=
  idxA x1 x10 15 fun a14 =>
  ldI .i64 h (a14.add 0) fun y16 =>
  ((decide (y16 <= 3)) = true ->
  idxA x1 x10 15 fun a19 =>
  ld_S_spatelaw7_Step h a19 fun y21 =>
  F.xcx y21 h fun r24 h23 =>
  F.xaf.j4 Q C1 x1 x6 x8 x10 r24 h23) ∧
  ((decide (y16 <= 3)) = false ->
  F.xaf.j4 Q C1 x1 x6 x8 x10 false h)
def F.xaf.j5 (Q : (Option Addr) -> (Option Addr) -> H -> Prop) (C1 : Sl -> (Option Addr) -> (Option Addr) -> Int -> H -> Prop) (x1 : Sl) (x6 : Option Addr) (x8 : Option Addr) (x10 : Int) (x32 : Bool) (h : H) : Prop :=
  (x32 = true ->
  F.xaf.j2 Q C1 x1 x6 x8 x10 h) ∧
  (x32 = false ->
  Q x6 x8 h)
def F.xaf.l1 (Q : (Option Addr) -> (Option Addr) -> H -> Prop) : Nat -> Sl -> (Option Addr) -> (Option Addr) -> Int -> H -> Prop
  | 0, _, _, _, _, _ => False
  | q1 + 1, x1, x6, x8, x10, h =>
    ((decide (x10 < (x1.len : Int))) = true ->
    ((decide (x10 < 100)) = true ->
    F.xaf.j5 Q (F.xaf.l1 Q q1) x1 x6 x8 x10 (!x8.isNone) h) ∧
    ((decide (x10 < 100)) = false ->
    F.xaf.j5 Q (F.xaf.l1 Q q1) x1 x6 x8 x10 false h)) ∧
    ((decide (x10 < (x1.len : Int))) = false ->
    F.xaf.j5 Q (F.xaf.l1 Q q1) x1 x6 x8 x10 false h)
def F.xaf (p0 : Int) (p1 : Sl) (h : H) (Q : (Option Addr) -> (Option Addr) -> H -> Prop) : Prop :=
  F.xbf p0 h fun r2 r3 h1 =>
  F.xbs p0 h1 fun r5 r6 h4 =>
  ∃ m, F.xaf.l1 Q m p1 r2 r5 0 h4
theorem F.xaf_ok {p0 : Int} {p1 : Sl} {h : H} {Q : (Option Addr) -> (Option Addr) -> H -> Prop} (H : F.xaf p0 p1 h Q) : Fn PP 25 ([(.int .i64 p0), p1.enc] : List Value).toArray h fun r h' => ∃ r0 r1, r = .tuple #[(.pointer r0), (.pointer r1)] ∧ Q r0 r1 h' := by
 unfold F.xaf at H;refine fn_of Tryz.func25 Tryz.ntmps25 rfl rfl fun w0 => (tr_sub [(0, (.int .i64 p0)), (1, p1.enc)] ⟨rfl, rfl, trivial⟩ (tr_seq (tr_region (tq (y_assign rfl) (tq (y_assign rfl) (tr_nil (tr_thenN (tr_seq (tr_region (tq (y_move rfl) (tr_e (e_call Tryz.call7 rfl (F.xbf_ok H)) rfl rfl ?_)))))))))));rintro _ h1 ⟨r2, r3, rfl, H⟩;refine tq (y_move rfl) (tq (y_ext rfl rfl) (tq (y_ext rfl rfl) (tq (y_assign rfl) (tq (y_assign rfl) (tr_nil (tr_thenN (tr_seq (tr_region (tq (y_move rfl) (tr_e (e_call Tryz.call18 rfl (F.xbs_ok H)) rfl rfl ?_))))))))));rintro _ h4 ⟨r5, r6, rfl, H⟩;refine tq (y_move rfl) (tq (y_ext rfl rfl) (tq (y_ext rfl rfl) (tq (y_assign rfl) (tq (y_assign rfl) (tr_nil (tr_thenN (tr_seq (tr_seq (tr_region (tq (y_assign rfl) (tr_nil (tr_thenN (tr_block ?_)))))))))))));obtain ⟨m28, H⟩ := H;refine tr_sub [(1, p1.enc), (6, (.pointer r2)), (8, (.pointer r5)), (10, (.int .i64 0))] ⟨rfl, rfl, rfl, rfl, trivial⟩ ?_;refine tr_loop_j (fun m L' h => ∃ (x1 : Sl) (x6 : Option Addr) (x8 : Option Addr) (x10 : Int), L' = [(1, x1.enc), (6, (.pointer x6)), (8, (.pointer x8)), (10, (.int .i64 x10))] ∧ F.xaf.l1 Q m x1 x6 x8 x10 h) ?_ ?_ m28 ⟨_, _, _, _, rfl, H⟩
 ·rintro L' h ⟨_, _, _, _, _, H⟩; exact H
 ·rintro q1 L' h ⟨x1, x6, x8, x10, rfl, H⟩;unfold F.xaf.l1 at H;refine tr_seq_j (fun L' h => ∃ (x1 : Sl) (x6 : Option Addr) (x8 : Option Addr) (x10 : Int), L' = [(1, x1.enc), (6, (.pointer x6)), (8, (.pointer x8)), (10, (.int .i64 x10))] ∧ F.xaf.j2 Q (F.xaf.l1 Q q1) x1 x6 x8 x10 h) ?_ ?_
  ·rintro L' h ⟨x1, x6, x8, x10, rfl, H⟩;unfold F.xaf.j2 at H;refine tr_seq_j (fun L' h => ∃ (x1 : Sl) (x6 : Option Addr) (x8 : Option Addr) (x10 : Int), L' = [(1, x1.enc), (6, (.pointer x6)), (8, (.pointer x8)), (10, (.int .i64 x10))] ∧ F.xaf.j3 Q (F.xaf.l1 Q q1) x1 x6 x8 x10 h) ?_ ?_
   ·rintro L' h ⟨x1, x6, x8, x10, rfl, H⟩;unfold F.xaf.j3 at H;refine tr_region (tq (y_move rfl) (tq (y_add rfl rfl) (tq (y_assign rfl) (tr_nil (tr_thenN ?_)))));exact tr_join [(1, x1.enc), (6, (.pointer x6)), (8, (.pointer x8)), (10, (.int .i64 (IntKind.wrap .i64 (x10 + 1))))] ⟨rfl, rfl, rfl, rfl, trivial⟩ ⟨_, _, _, _, rfl, H⟩
   ·refine tr_block ?_;refine tr_seq_j (fun L' h => ∃ (x1 : Sl) (x6 : Option Addr) (x8 : Option Addr) (x10 : Int) (x47 : Bool), L' = [(1, x1.enc), (6, (.pointer x6)), (8, (.pointer x8)), (10, (.int .i64 x10)), (47, (.bool x47))] ∧ F.xaf.j4 Q (F.xaf.l1 Q q1) x1 x6 x8 x10 x47 h) ?_ ?_
    ·rintro L' h ⟨x1, x6, x8, x10, x47, rfl, H⟩;unfold F.xaf.j4 at H;refine tr_cond rfl (fun g7 => ?_) (fun g7 => ?_)
     ·replace H := H.1 g7;refine tr_region (tq (y_move rfl) (tq (y_move rfl) (tq (y_move rfl) (tq (y_move rfl) ?_))));obtain ⟨a8, e9, H⟩ := H;refine tq (f_idx (s := x1) Tryz.runUnderlying22 Tryz.sizeOf37 rfl rfl e9) ?_;obtain ⟨y10, k11, H⟩ := H;refine tr_h (y_ldS Tryz.isAgg37 Tryz.sizeOf37 rfl rfl) k11 rfl rfl (tr_e (e_call Tryz.call20 rfl (F.xap_ok H)) rfl rfl ?_);rintro _ h12 ⟨r13, rfl, H⟩;refine tr_nil (tr_blockN (tr_thenN ?_));exact tr_join [(1, x1.enc), (6, (.pointer x6)), (8, (.pointer x8)), (10, (.int .i64 x10))] ⟨rfl, rfl, rfl, rfl, trivial⟩ ⟨_, _, _, _, rfl, H⟩
     ·replace H := H.2 g7;refine tr_skip (tr_blockN (tr_thenN ?_));exact tr_join [(1, x1.enc), (6, (.pointer x6)), (8, (.pointer x8)), (10, (.int .i64 x10))] ⟨rfl, rfl, rfl, rfl, trivial⟩ ⟨_, _, _, _, rfl, H⟩
    ·refine tr_region (tq (y_move rfl) (tq (y_move rfl) ?_));obtain ⟨a14, e15, H⟩ := H;refine tq (f_idx (s := x1) Tryz.runUnderlying22 Tryz.sizeOf37 rfl rfl e15) (tq (y_fa (off := 0) Tryz.runUnderlying37 fo_37_0 rfl) ?_);obtain ⟨y16, k17, H⟩ := H;refine tr_h (y_ld Tryz.isAgg3 rfl) k17 rfl rfl (tq (y_leq rfl rfl) (tq (y_move rfl) ?_));refine tr_split (t := 41) rfl (fun g18 => ?_) (fun g18 => ?_)
     ·replace H := H.1 g18;refine tq (y_move rfl) (tq (y_move rfl) ?_);obtain ⟨a19, e20, H⟩ := H;refine tq (f_idx (s := x1) Tryz.runUnderlying22 Tryz.sizeOf37 rfl rfl e20) ?_;obtain ⟨y21, k22, H⟩ := H;refine tr_h (y_ldS Tryz.isAgg37 Tryz.sizeOf37 rfl rfl) k22 rfl rfl (tr_e (e_call Tryz.call19 rfl (F.xcx_ok H)) rfl rfl ?_);rintro _ h23 ⟨r24, rfl, H⟩;refine tq (y_pick_t rfl rfl) (tr_nil (tr_thenN ?_));exact tr_join [(1, x1.enc), (6, (.pointer x6)), (8, (.pointer x8)), (10, (.int .i64 x10)), (47, (.bool r24))] ⟨rfl, rfl, rfl, rfl, rfl, trivial⟩ ⟨_, _, _, _, _, rfl, H⟩
     ·replace H := H.2 g18;refine ts (ts (ts (ts (ts (tq (y_pick_f rfl rfl) (tr_nil (tr_thenN ?_)))))));exact tr_join [(1, x1.enc), (6, (.pointer x6)), (8, (.pointer x8)), (10, (.int .i64 x10)), (47, (.bool false))] ⟨rfl, rfl, rfl, rfl, rfl, trivial⟩ ⟨_, _, _, _, _, rfl, H⟩
  ·refine tr_seq_j (fun L' h => ∃ (x1 : Sl) (x6 : Option Addr) (x8 : Option Addr) (x10 : Int) (x32 : Bool), L' = [(1, x1.enc), (6, (.pointer x6)), (8, (.pointer x8)), (10, (.int .i64 x10)), (32, (.bool x32))] ∧ F.xaf.j5 Q (F.xaf.l1 Q q1) x1 x6 x8 x10 x32 h) ?_ ?_
   ·rintro L' h ⟨x1, x6, x8, x10, x32, rfl, H⟩;unfold F.xaf.j5 at H;refine tr_cond rfl (fun g25 => ?_) (fun g25 => ?_)
    ·replace H := H.1 g25;refine tr_skip (tr_thenN ?_);exact tr_join [(1, x1.enc), (6, (.pointer x6)), (8, (.pointer x8)), (10, (.int .i64 x10))] ⟨rfl, rfl, rfl, rfl, trivial⟩ ⟨_, _, _, _, rfl, H⟩
    ·replace H := H.2 g25;refine tr_exit (tr_thenE (tr_thenE (tr_hit (tr_thenN (tr_seq (tr_region (tq (y_move rfl) (tq (y_move rfl) (tq (y_assign rfl) (tq (y_assign rfl) (tr_nil (tr_thenN (tr_ret ?_)))))))))))));exact tr_ret2 rfl rfl rfl ⟨_, _, rfl, H⟩
   ·refine tr_region (tq (y_move rfl) (tq (y_move rfl) (tq (y_len (ts := #[]) Tryz.runUnderlying22 (o := x1.ptr) (n := x1.len) (cap := x1.cap) rfl) (tq (y_lss rfl rfl) (tq (y_move rfl) ?_)))));refine tr_split (t := 25) rfl (fun g26 => ?_) (fun g26 => ?_)
    ·replace H := H.1 g26;refine tq (y_move rfl) (tq (y_lss rfl rfl) (tq (y_pick_t rfl rfl) (tq (y_move rfl) ?_)));refine tr_split (t := 29) rfl (fun g27 => ?_) (fun g27 => ?_)
     ·replace H := H.1 g27;refine tq (y_move rfl) (tq (y_pnil_neq Tryz.runUnderlying53 rfl rfl) (tq (y_pick_t rfl rfl) (tr_nil (tr_thenN ?_))));exact tr_join [(1, x1.enc), (6, (.pointer x6)), (8, (.pointer x8)), (10, (.int .i64 x10)), (32, (.bool (!x8.isNone)))] ⟨rfl, rfl, rfl, rfl, rfl, trivial⟩ ⟨_, _, _, _, _, rfl, H⟩
     ·replace H := H.2 g27;refine ts (ts (tq (y_pick_f rfl rfl) (tr_nil (tr_thenN ?_))));exact tr_join [(1, x1.enc), (6, (.pointer x6)), (8, (.pointer x8)), (10, (.int .i64 x10)), (32, (.bool false))] ⟨rfl, rfl, rfl, rfl, rfl, trivial⟩ ⟨_, _, _, _, _, rfl, H⟩
    ·replace H := H.2 g26;refine ts (ts (tq (y_pick_f rfl rfl) (tq (y_move rfl) (ts (ts (tq (y_pick_f rfl rfl) (tr_nil (tr_thenN ?_))))))));exact tr_join [(1, x1.enc), (6, (.pointer x6)), (8, (.pointer x8)), (10, (.int .i64 x10)), (32, (.bool false))] ⟨rfl, rfl, rfl, rfl, rfl, trivial⟩ ⟨_, _, _, _, _, rfl, H⟩
def F.xab.l3 (Q : Bool -> H -> Prop) (C1 : Sl -> (Option Addr) -> (Option Addr) -> Int -> H -> Prop) : Nat -> Sl -> (Option Addr) -> (Option Addr) -> Int -> Sl -> Int -> H -> Prop
  | 0, _, _, _, _, _, _, _ => False
  | q3 + 1, x2, x7, x8, x9, x10, x11, h =>
    ((decide (x11 < (x10.len : Int))) = true ->
    idxA x10 x11 7 fun a13 =>
    ld_S_api_Cell h (a13.add 0) fun y15 =>
    idxA x10 x11 7 fun a17 =>
    ld_S_api_Agg h (a17.add 3) fun y19 =>
    F.xcj x7 y15 x9 h fun r22 h21 =>
    Cells h21 (a17.add 3) y19.cells ∧
    ((!((r22.Count == y19.Count) && ((r22.Sum == y19.Sum) && ((r22.Min == y19.Min) && ((r22.Max == y19.Max) && true))))) = true ->
    Q false h21) ∧
    ((!((r22.Count == y19.Count) && ((r22.Sum == y19.Sum) && ((r22.Min == y19.Min) && ((r22.Max == y19.Max) && true))))) = false ->
    (F.xab.l3 Q C1 q3) x2 x7 x8 x9 x10 (IntKind.wrap .i64 (x11 + 1)) h21)) ∧
    ((decide (x11 < (x10.len : Int))) = false ->
    C1 x2 x7 x8 (IntKind.wrap .i64 (x9 + 1)) h)
def F.xab.j6 (Q : Bool -> H -> Prop) (C1 : Sl -> (Option Addr) -> (Option Addr) -> Int -> H -> Prop) (x2 : Sl) (x7 : Option Addr) (x8 : Option Addr) (x12 : Int) (h : H) : Prop :=
  C1 x2 x7 x8 (IntKind.wrap .i64 (x12 + 1)) h
def F.xab.j7 (Q : Bool -> H -> Prop) (C1 : Sl -> (Option Addr) -> (Option Addr) -> Int -> H -> Prop) (x2 : Sl) (x7 : Option Addr) (x8 : Option Addr) (x12 : Int) (x95 : Bool) (h : H) : Prop :=
  (x95 = true ->
  Q false h) ∧
  (x95 = false ->
  F.xab.j6 Q C1 x2 x7 x8 x12 h)
def F.xab.j5 (Q : Bool -> H -> Prop) (C1 : Sl -> (Option Addr) -> (Option Addr) -> Int -> H -> Prop) (x2 : Sl) (x7 : Option Addr) (x8 : Option Addr) (x12 : Int) (h : H) : Prop :=
  idxA x2 x12 15 fun a27 =>
  ldI .i64 h (a27.add 0) fun y29 =>
  ((decide (y29 >= 4)) = true ->
  idxA x2 x12 15 fun a32 =>
  ld_S_spatelaw7_Step h a32 fun y34 =>
  F.xcx y34 h fun r37 h36 =>
  (r37 = true ->
  idxA x2 x12 15 fun a39 =>
  ld_S_spatelaw7_Step h36 a39 fun y41 =>
  F.xap x7 x8 y41 h36 fun r44 h43 =>
  F.xab.j7 Q C1 x2 x7 x8 x12 (!r44) h43) ∧
  (r37 = false ->
  F.xab.j7 Q C1 x2 x7 x8 x12 false h36)) ∧
  ((decide (y29 >= 4)) = false ->
  F.xab.j7 Q C1 x2 x7 x8 x12 false h)
def F.xab.j8 (Q : Bool -> H -> Prop) (C1 : Sl -> (Option Addr) -> (Option Addr) -> Int -> H -> Prop) (x2 : Sl) (x7 : Option Addr) (x8 : Option Addr) (x12 : Int) (x70 : Bool) (h : H) : Prop :=
  (x70 = true ->
  F.xab.j5 Q C1 x2 x7 x8 x12 h) ∧
  (x70 = false ->
  F.xbk  h fun r47 h46 =>
  Q r47 h46)
def F.xab.l4 (Q : Bool -> H -> Prop) : Nat -> Sl -> (Option Addr) -> (Option Addr) -> Int -> H -> Prop
  | 0, _, _, _, _, _ => False
  | q4 + 1, x2, x7, x8, x12, h =>
    ((decide (x12 < (x2.len : Int))) = true ->
    F.xab.j8 Q (F.xab.l4 Q q4) x2 x7 x8 x12 (decide (x12 < 30)) h) ∧
    ((decide (x12 < (x2.len : Int))) = false ->
    F.xab.j8 Q (F.xab.l4 Q q4) x2 x7 x8 x12 false h)
def F.xab.l2 (Q : Bool -> H -> Prop) : Nat -> Sl -> (Option Addr) -> (Option Addr) -> Int -> H -> Prop
  | 0, _, _, _, _, _ => False
  | q2 + 1, x2, x7, x8, x9, h =>
    ((decide (x9 < 10)) = true ->
    F.xag x8 x9 (⟨0, (⟨#[]⟩ : ByteArray), 0⟩ : S_api_Cell) (⟨9, (⟨#[]⟩ : ByteArray), 0⟩ : S_api_Cell) 1000 h fun r6 h5 =>
    F.xas x7 x9 (⟨0, (⟨#[]⟩ : ByteArray), 0⟩ : S_api_Cell) (⟨9, (⟨#[]⟩ : ByteArray), 0⟩ : S_api_Cell) 1000 h5 fun r8 h7 =>
    F.xca r8 r6 h7 fun r10 h9 =>
    ((!r10) = true ->
    Q false h9) ∧
    ((!r10) = false ->
    ∃ m, F.xab.l3 Q (F.xab.l2 Q q2) m x2 x7 x8 x9 r6 0 h9)) ∧
    ((decide (x9 < 10)) = false ->
    ∃ m, F.xab.l4 Q m x2 x7 x8 0 h)
def F.xab.j1 (Q : Bool -> H -> Prop) (x2 : Sl) (x7 : Option Addr) (x8 : Option Addr) (h : H) : Prop :=
  ∃ m, F.xab.l2 Q m x2 x7 x8 0 h
def F.xab.j9 (Q : Bool -> H -> Prop) (x2 : Sl) (x7 : Option Addr) (x8 : Option Addr) (x24 : Bool) (h : H) : Prop :=
  (x24 = true ->
  F.xbk  h fun r53 h52 =>
  Q r53 h52) ∧
  (x24 = false ->
  F.xab.j1 Q x2 x7 x8 h)
def F.xab (p0 : Int) (p1 : Sl) (p2 : Sl) (h : H) (Q : Bool -> H -> Prop) : Prop :=
  F.xaf p0 p1 h fun r2 r3 h1 =>
  (r2.isNone = true ->
  F.xab.j9 Q p2 r2 r3 true h1) ∧
  (r2.isNone = false ->
  F.xab.j9 Q p2 r2 r3 r3.isNone h1)
theorem F.xab_ok {p0 : Int} {p1 : Sl} {p2 : Sl} {h : H} {Q : Bool -> H -> Prop} (H : F.xab p0 p1 p2 h Q) : Fn PP 5 ([(.int .i64 p0), p1.enc, p2.enc] : List Value).toArray h fun r h' => ∃ r0, r = (.bool r0) ∧ Q r0 h' := by
 unfold F.xab at H;refine fn_of Tryz.func5 Tryz.ntmps5 rfl rfl fun w0 => (tr_sub [(0, (.int .i64 p0)), (1, p1.enc), (2, p2.enc)] ⟨rfl, rfl, rfl, trivial⟩ (tr_seq (tr_region (tq (y_assign rfl) (tr_nil (tr_thenN (tr_seq (tr_region (tq (y_move rfl) (tq (y_move rfl) (tr_e (e_call Tryz.call25 rfl (F.xaf_ok H)) rfl rfl ?_)))))))))));rintro _ h1 ⟨r2, r3, rfl, H⟩;refine tq (y_move rfl) (tq (y_ext rfl rfl) (tq (y_ext rfl rfl) (tq (y_assign rfl) (tq (y_assign rfl) (tr_nil (tr_thenN ?_))))));refine tr_seq_j (fun L' h => ∃ (x2 : Sl) (x7 : Option Addr) (x8 : Option Addr), L' = [(2, x2.enc), (7, (.pointer x7)), (8, (.pointer x8))] ∧ F.xab.j1 Q x2 x7 x8 h) ?_ ?_
 ·rintro L' h ⟨x2, x7, x8, rfl, H⟩;unfold F.xab.j1 at H;refine tr_seq (tr_seq (tr_region (tq (y_assign rfl) (tr_nil (tr_thenN (tr_block ?_))))));obtain ⟨m50, H⟩ := H;refine tr_sub [(2, x2.enc), (7, (.pointer x7)), (8, (.pointer x8)), (9, (.int .i64 0))] ⟨rfl, rfl, rfl, rfl, trivial⟩ ?_;refine tr_loop_j (fun m L' h => ∃ (x2 : Sl) (x7 : Option Addr) (x8 : Option Addr) (x9 : Int), L' = [(2, x2.enc), (7, (.pointer x7)), (8, (.pointer x8)), (9, (.int .i64 x9))] ∧ F.xab.l2 Q m x2 x7 x8 x9 h) ?_ ?_ m50 ⟨_, _, _, _, rfl, H⟩
  ·rintro L' h ⟨_, _, _, _, _, H⟩; exact H
  ·rintro q2 L' h ⟨x2, x7, x8, x9, rfl, H⟩;unfold F.xab.l2 at H;refine tr_seq (tr_seq (tr_region (tq (y_move rfl) (tq (y_lss rfl rfl) (tr_nil (tr_thenN ?_))))));refine tr_cond rfl (fun g4 => ?_) (fun g4 => ?_)
   ·replace H := H.1 g4;refine tr_skip (tr_thenN (tr_seq (tr_block (tr_seq (tr_region (tq (y_move rfl) (tq (y_move rfl) (tq (f_build rfl (bd_32_ )) (tq (f_build rfl (bd_32_0 9)) (tr_e (e_call Tryz.call24 rfl (F.xag_ok H)) rfl rfl ?_))))))))));rintro _ h5 ⟨r6, rfl, H⟩;refine tq (y_assign rfl) (tr_nil (tr_thenN (tr_seq (tr_seq (tr_region (tq (y_move rfl) (tq (y_move rfl) (tq (f_build rfl (bd_32_ )) (tq (f_build rfl (bd_32_0 9)) (tr_e (e_call Tryz.call23 rfl (F.xas_ok H)) rfl rfl ?_))))))))));rintro _ h7 ⟨r8, rfl, H⟩;refine tq (y_move rfl) (tr_e (e_call Tryz.call22 rfl (F.xca_ok H)) rfl rfl ?_);rintro _ h9 ⟨r10, rfl, H⟩;refine tq (y_not rfl) (tr_nil (tr_thenN ?_));refine tr_cond rfl (fun g11 => ?_) (fun g11 => ?_)
    ·replace H := H.1 g11;refine tr_seq (tr_region (tq (y_assign rfl) (tr_nil (tr_thenN (tr_ret (tr_thenR (tr_blockR (tr_thenR (tr_thenR (tr_blockR (tr_thenR ?_)))))))))));exact tr_ret1 rfl rfl ⟨_, rfl, H⟩
    ·replace H := H.2 g11;refine tr_skip (tr_thenN (tr_seq (tr_region (tq (y_assign rfl) (tr_nil (tr_thenN (tr_block ?_)))))));obtain ⟨m25, H⟩ := H;refine tr_sub [(2, x2.enc), (7, (.pointer x7)), (8, (.pointer x8)), (9, (.int .i64 x9)), (10, r6.enc), (11, (.int .i64 0))] ⟨rfl, rfl, rfl, rfl, rfl, rfl, trivial⟩ ?_;refine tr_loop_j (fun m L' h => ∃ (x2 : Sl) (x7 : Option Addr) (x8 : Option Addr) (x9 : Int) (x10 : Sl) (x11 : Int), L' = [(2, x2.enc), (7, (.pointer x7)), (8, (.pointer x8)), (9, (.int .i64 x9)), (10, x10.enc), (11, (.int .i64 x11))] ∧ F.xab.l3 Q (F.xab.l2 Q q2) m x2 x7 x8 x9 x10 x11 h) ?_ ?_ m25 ⟨_, _, _, _, _, _, rfl, H⟩
     ·rintro L' h ⟨_, _, _, _, _, _, _, H⟩; exact H
     ·rintro q3 L' h ⟨x2, x7, x8, x9, x10, x11, rfl, H⟩;unfold F.xab.l3 at H;refine tr_seq (tr_seq (tr_region (tq (y_move rfl) (tq (y_move rfl) (tq (y_len (ts := #[]) Tryz.runUnderlying60 (o := x10.ptr) (n := x10.len) (cap := x10.cap) rfl) (tq (y_lss rfl rfl) (tr_nil (tr_thenN ?_))))))));refine tr_cond rfl (fun g12 => ?_) (fun g12 => ?_)
      ·replace H := H.1 g12;refine tr_skip (tr_thenN (tr_seq (tr_block (tr_seq (tr_draw mixed [0, 0, 0, 6, 14, 30, 0, 127, 0, 0, 768, 1792, 3840, 8191] (by kernel_rfl) (g_p 0 1 rfl (by kernel_rfl) (y_move rfl) rfl rfl (g_p 1 3 rfl (by kernel_rfl) (y_move rfl) rfl rfl (g_p 2 7 rfl (by kernel_rfl) (y_move rfl) rfl rfl ?_))))))));obtain ⟨a13, e14, H⟩ := H;refine g_p 3 15 rfl (by kernel_rfl) (f_idx (s := x10) Tryz.runUnderlying60 Tryz.sizeOf51 rfl rfl e14) rfl rfl (g_p 4 31 rfl (by kernel_rfl) (y_fa (off := 0) Tryz.runUnderlying51 fo_51_0 rfl) rfl rfl ?_);obtain ⟨y15, k16, H⟩ := H;refine g_h 5 63 rfl (by kernel_rfl) (y_ldS Tryz.isAgg32 Tryz.sizeOf32 rfl rfl) k16 rfl rfl (g_p 6 127 rfl (by kernel_rfl) (y_move rfl) rfl rfl (g_p 8 383 rfl (by kernel_rfl) (y_move rfl) rfl rfl (g_p 9 895 rfl (by kernel_rfl) (y_move rfl) rfl rfl ?_)));obtain ⟨a17, e18, H⟩ := H;refine g_p 10 1919 rfl (by kernel_rfl) (f_idx (s := x10) Tryz.runUnderlying60 Tryz.sizeOf51 rfl rfl e18) rfl rfl (g_p 11 3967 rfl (by kernel_rfl) (y_fa (off := 3) Tryz.runUnderlying51 fo_51_1 rfl) rfl rfl ?_);obtain ⟨y19, k20, H⟩ := H;refine g_h 12 8063 rfl (by kernel_rfl) (y_ldS Tryz.isAgg34 Tryz.sizeOf34 rfl rfl) k20 rfl rfl (g_e 7 8191 [(12, fun h => Cells h (a17.add 3) y19.cells)] (by kernel_rfl) rfl (by kernel_rfl) (e_call Tryz.call26 rfl (F.xcj_ok H)) rfl rfl ?_);rintro _ h21 ⟨r22, rfl, H⟩;obtain ⟨k23, H⟩ := H;refine ⟨And.intro k23 trivial, ?_⟩;refine g_p 13 16383 rfl (by kernel_rfl) (st_neq (b := ((r22.Count == y19.Count) && ((r22.Sum == y19.Sum) && ((r22.Min == y19.Min) && ((r22.Max == y19.Max) && true))))) eqg_34 (fun w => eqst_34 r22 y19 9998 w) rfl rfl) rfl rfl (g_d (by kernel_rfl) (tr_thenN ?_));refine tr_cond rfl (fun g24 => ?_) (fun g24 => ?_)
       ·replace H := H.1 g24;refine tr_seq (tr_region (tq (y_assign rfl) (tr_nil (tr_thenN (tr_ret (tr_blockR (tr_thenR (tr_thenR (tr_blockR (tr_blockR (tr_thenR (tr_thenR (tr_blockR ?_)))))))))))));refine tr_thenR ?_;exact tr_ret1 rfl rfl ⟨_, rfl, H⟩
       ·replace H := H.2 g24;refine tr_skip (tr_blockN (tr_thenN (tr_region (tq (y_move rfl) (tq (y_add rfl rfl) (tq (y_assign rfl) (tr_nil (tr_thenN ?_))))))));exact tr_join [(2, x2.enc), (7, (.pointer x7)), (8, (.pointer x8)), (9, (.int .i64 x9)), (10, x10.enc), (11, (.int .i64 (IntKind.wrap .i64 (x11 + 1))))] ⟨rfl, rfl, rfl, rfl, rfl, rfl, trivial⟩ ⟨_, _, _, _, _, _, rfl, H⟩
      ·replace H := H.2 g12;refine tr_exit (tr_thenE (tr_thenE (tr_hit (tr_blockN (tr_thenN (tr_region (tq (y_move rfl) (tq (y_add rfl rfl) (tq (y_assign rfl) (tr_nil (tr_thenN ?_)))))))))));exact tr_join [(2, x2.enc), (7, (.pointer x7)), (8, (.pointer x8)), (9, (.int .i64 (IntKind.wrap .i64 (x9 + 1))))] ⟨rfl, rfl, rfl, rfl, trivial⟩ ⟨_, _, _, _, rfl, H⟩
   ·replace H := H.2 g4;refine tr_exit (tr_thenE (tr_thenE (tr_hit (tr_thenN (tr_seq (tr_seq (tr_region (tq (y_assign rfl) (tr_nil (tr_thenN (tr_block ?_)))))))))));obtain ⟨m49, H⟩ := H;refine tr_sub [(2, x2.enc), (7, (.pointer x7)), (8, (.pointer x8)), (12, (.int .i64 0))] ⟨rfl, rfl, rfl, rfl, trivial⟩ ?_;refine tr_loop_j (fun m L' h => ∃ (x2 : Sl) (x7 : Option Addr) (x8 : Option Addr) (x12 : Int), L' = [(2, x2.enc), (7, (.pointer x7)), (8, (.pointer x8)), (12, (.int .i64 x12))] ∧ F.xab.l4 Q m x2 x7 x8 x12 h) ?_ ?_ m49 ⟨_, _, _, _, rfl, H⟩
    ·rintro L' h ⟨_, _, _, _, _, H⟩; exact H
    ·rintro q4 L' h ⟨x2, x7, x8, x12, rfl, H⟩;unfold F.xab.l4 at H;refine tr_seq_j (fun L' h => ∃ (x2 : Sl) (x7 : Option Addr) (x8 : Option Addr) (x12 : Int), L' = [(2, x2.enc), (7, (.pointer x7)), (8, (.pointer x8)), (12, (.int .i64 x12))] ∧ F.xab.j5 Q (F.xab.l4 Q q4) x2 x7 x8 x12 h) ?_ ?_
     ·rintro L' h ⟨x2, x7, x8, x12, rfl, H⟩;unfold F.xab.j5 at H;refine tr_seq_j (fun L' h => ∃ (x2 : Sl) (x7 : Option Addr) (x8 : Option Addr) (x12 : Int), L' = [(2, x2.enc), (7, (.pointer x7)), (8, (.pointer x8)), (12, (.int .i64 x12))] ∧ F.xab.j6 Q (F.xab.l4 Q q4) x2 x7 x8 x12 h) ?_ ?_
      ·rintro L' h ⟨x2, x7, x8, x12, rfl, H⟩;unfold F.xab.j6 at H;refine tr_region (tq (y_move rfl) (tq (y_add rfl rfl) (tq (y_assign rfl) (tr_nil (tr_thenN ?_)))));exact tr_join [(2, x2.enc), (7, (.pointer x7)), (8, (.pointer x8)), (12, (.int .i64 (IntKind.wrap .i64 (x12 + 1))))] ⟨rfl, rfl, rfl, rfl, trivial⟩ ⟨_, _, _, _, rfl, H⟩
      ·refine tr_block ?_;refine tr_seq_j (fun L' h => ∃ (x2 : Sl) (x7 : Option Addr) (x8 : Option Addr) (x12 : Int) (x95 : Bool), L' = [(2, x2.enc), (7, (.pointer x7)), (8, (.pointer x8)), (12, (.int .i64 x12)), (95, (.bool x95))] ∧ F.xab.j7 Q (F.xab.l4 Q q4) x2 x7 x8 x12 x95 h) ?_ ?_
       ·rintro L' h ⟨x2, x7, x8, x12, x95, rfl, H⟩;unfold F.xab.j7 at H;refine tr_cond rfl (fun g26 => ?_) (fun g26 => ?_)
        ·replace H := H.1 g26;refine tr_seq (tr_region (tq (y_assign rfl) (tr_nil (tr_thenN (tr_ret (tr_blockR (tr_thenR (tr_thenR (tr_blockR (tr_thenR ?_))))))))));exact tr_ret1 rfl rfl ⟨_, rfl, H⟩
        ·replace H := H.2 g26;refine tr_skip (tr_blockN (tr_thenN ?_));exact tr_join [(2, x2.enc), (7, (.pointer x7)), (8, (.pointer x8)), (12, (.int .i64 x12))] ⟨rfl, rfl, rfl, rfl, trivial⟩ ⟨_, _, _, _, rfl, H⟩
       ·refine tr_region (tq (y_move rfl) (tq (y_move rfl) ?_));obtain ⟨a27, e28, H⟩ := H;refine tq (f_idx (s := x2) Tryz.runUnderlying22 Tryz.sizeOf37 rfl rfl e28) (tq (y_fa (off := 0) Tryz.runUnderlying37 fo_37_0 rfl) ?_);obtain ⟨y29, k30, H⟩ := H;refine tr_h (y_ld Tryz.isAgg3 rfl) k30 rfl rfl (tq (y_geq rfl rfl) (tq (y_move rfl) ?_));refine tr_split (t := 79) rfl (fun g31 => ?_) (fun g31 => ?_)
        ·replace H := H.1 g31;refine tq (y_move rfl) (tq (y_move rfl) ?_);obtain ⟨a32, e33, H⟩ := H;refine tq (f_idx (s := x2) Tryz.runUnderlying22 Tryz.sizeOf37 rfl rfl e33) ?_;obtain ⟨y34, k35, H⟩ := H;refine tr_h (y_ldS Tryz.isAgg37 Tryz.sizeOf37 rfl rfl) k35 rfl rfl (tr_e (e_call Tryz.call19 rfl (F.xcx_ok H)) rfl rfl ?_);rintro _ h36 ⟨r37, rfl, H⟩;refine tq (y_pick_t rfl rfl) (tq (y_move rfl) ?_);refine tr_split (t := 86) rfl (fun g38 => ?_) (fun g38 => ?_)
         ·replace H := H.1 g38;refine tq (y_move rfl) (tq (y_move rfl) (tq (y_move rfl) (tq (y_move rfl) ?_)));obtain ⟨a39, e40, H⟩ := H;refine tq (f_idx (s := x2) Tryz.runUnderlying22 Tryz.sizeOf37 rfl rfl e40) ?_;obtain ⟨y41, k42, H⟩ := H;refine tr_h (y_ldS Tryz.isAgg37 Tryz.sizeOf37 rfl rfl) k42 rfl rfl (tr_e (e_call Tryz.call20 rfl (F.xap_ok H)) rfl rfl ?_);rintro _ h43 ⟨r44, rfl, H⟩;refine tq (y_not rfl) (tq (y_pick_t rfl rfl) (tr_nil (tr_thenN ?_)));exact tr_join [(2, x2.enc), (7, (.pointer x7)), (8, (.pointer x8)), (12, (.int .i64 x12)), (95, (.bool (!r44)))] ⟨rfl, rfl, rfl, rfl, rfl, trivial⟩ ⟨_, _, _, _, _, rfl, H⟩
         ·replace H := H.2 g38;refine ts (ts (ts (ts (ts (ts (ts (ts (tq (y_pick_f rfl rfl) (tr_nil (tr_thenN ?_))))))))));exact tr_join [(2, x2.enc), (7, (.pointer x7)), (8, (.pointer x8)), (12, (.int .i64 x12)), (95, (.bool false))] ⟨rfl, rfl, rfl, rfl, rfl, trivial⟩ ⟨_, _, _, _, _, rfl, H⟩
        ·replace H := H.2 g31;refine ts (ts (ts (ts (ts (tq (y_pick_f rfl rfl) (tq (y_move rfl) (ts (ts (ts (ts (ts (ts (ts ?_)))))))))))));refine ts (tq (y_pick_f rfl rfl) (tr_nil (tr_thenN ?_)));exact tr_join [(2, x2.enc), (7, (.pointer x7)), (8, (.pointer x8)), (12, (.int .i64 x12)), (95, (.bool false))] ⟨rfl, rfl, rfl, rfl, rfl, trivial⟩ ⟨_, _, _, _, _, rfl, H⟩
     ·refine tr_seq_j (fun L' h => ∃ (x2 : Sl) (x7 : Option Addr) (x8 : Option Addr) (x12 : Int) (x70 : Bool), L' = [(2, x2.enc), (7, (.pointer x7)), (8, (.pointer x8)), (12, (.int .i64 x12)), (70, (.bool x70))] ∧ F.xab.j8 Q (F.xab.l4 Q q4) x2 x7 x8 x12 x70 h) ?_ ?_
      ·rintro L' h ⟨x2, x7, x8, x12, x70, rfl, H⟩;unfold F.xab.j8 at H;refine tr_cond rfl (fun g45 => ?_) (fun g45 => ?_)
       ·replace H := H.1 g45;refine tr_skip (tr_thenN ?_);exact tr_join [(2, x2.enc), (7, (.pointer x7)), (8, (.pointer x8)), (12, (.int .i64 x12))] ⟨rfl, rfl, rfl, rfl, trivial⟩ ⟨_, _, _, _, rfl, H⟩
       ·replace H := H.2 g45;refine tr_exit (tr_thenE (tr_thenE (tr_hit (tr_thenN (tr_seq (tr_region (tr_e (e_call Tryz.call9 rfl (F.xbk_ok H)) rfl rfl ?_)))))));rintro _ h46 ⟨r47, rfl, H⟩;refine tq (y_assign rfl) (tr_nil (tr_thenN (tr_ret ?_)));exact tr_ret1 rfl rfl ⟨_, rfl, H⟩
      ·refine tr_region (tq (y_move rfl) (tq (y_move rfl) (tq (y_len (ts := #[]) Tryz.runUnderlying22 (o := x2.ptr) (n := x2.len) (cap := x2.cap) rfl) (tq (y_lss rfl rfl) (tq (y_move rfl) ?_)))));refine tr_split (t := 67) rfl (fun g48 => ?_) (fun g48 => ?_)
       ·replace H := H.1 g48;refine tq (y_move rfl) (tq (y_lss rfl rfl) (tq (y_pick_t rfl rfl) (tr_nil (tr_thenN ?_))));exact tr_join [(2, x2.enc), (7, (.pointer x7)), (8, (.pointer x8)), (12, (.int .i64 x12)), (70, (.bool (decide (x12 < 30))))] ⟨rfl, rfl, rfl, rfl, rfl, trivial⟩ ⟨_, _, _, _, _, rfl, H⟩
       ·replace H := H.2 g48;refine ts (ts (tq (y_pick_f rfl rfl) (tr_nil (tr_thenN ?_))));exact tr_join [(2, x2.enc), (7, (.pointer x7)), (8, (.pointer x8)), (12, (.int .i64 x12)), (70, (.bool false))] ⟨rfl, rfl, rfl, rfl, rfl, trivial⟩ ⟨_, _, _, _, _, rfl, H⟩
 ·refine tr_seq_j (fun L' h => ∃ (x2 : Sl) (x7 : Option Addr) (x8 : Option Addr) (x24 : Bool), L' = [(2, x2.enc), (7, (.pointer x7)), (8, (.pointer x8)), (24, (.bool x24))] ∧ F.xab.j9 Q x2 x7 x8 x24 h) ?_ ?_
  ·rintro L' h ⟨x2, x7, x8, x24, rfl, H⟩;unfold F.xab.j9 at H;refine tr_cond rfl (fun g51 => ?_) (fun g51 => ?_)
   ·replace H := H.1 g51;refine tr_seq (tr_region (tr_e (e_call Tryz.call9 rfl (F.xbk_ok H)) rfl rfl ?_));rintro _ h52 ⟨r53, rfl, H⟩;refine tq (y_assign rfl) (tr_nil (tr_thenN (tr_ret (tr_thenR ?_))));exact tr_ret1 rfl rfl ⟨_, rfl, H⟩
   ·replace H := H.2 g51;refine tr_skip (tr_thenN ?_);exact tr_join [(2, x2.enc), (7, (.pointer x7)), (8, (.pointer x8))] ⟨rfl, rfl, rfl, trivial⟩ ⟨_, _, _, rfl, H⟩
  ·refine tr_region (tq (y_move rfl) (tq (y_pnil_eql Tryz.runUnderlying24 rfl rfl) (tq (y_move rfl) ?_)));refine tr_split (t := 21) rfl (fun g54 => ?_) (fun g54 => ?_)
   ·replace H := H.1 g54;refine ts (ts (tq (y_pick_t rfl rfl) (tr_nil (tr_thenN ?_))));exact tr_join [(2, p2.enc), (7, (.pointer r2)), (8, (.pointer r3)), (24, (.bool true))] ⟨rfl, rfl, rfl, rfl, trivial⟩ ⟨_, _, _, _, rfl, H⟩
   ·replace H := H.2 g54;refine tq (y_move rfl) (tq (y_pnil_eql Tryz.runUnderlying53 rfl rfl) (tq (y_pick_f rfl rfl) (tr_nil (tr_thenN ?_))));exact tr_join [(2, p2.enc), (7, (.pointer r2)), (8, (.pointer r3)), (24, (.bool r3.isNone))] ⟨rfl, rfl, rfl, rfl, trivial⟩ ⟨_, _, _, _, rfl, H⟩
set_option linter.unusedSimpArgs false
abbrev Cel := S_api_Cell
theorem cU_one (b : UInt8) : ∀ v ∈ cU b, v.oneCell' = true := one1 rfl
theorem Blk.cells3 {h : H} {n : Nat} {c : Cel} {e : TypeId} (k : Blk h n c.cells.toArray e) : Cells h ⟨n, 0, none⟩ c.cells := fun j v hv => by rw [add_lit, Nat.zero_add]; exact k.cell (by simpa using hv)
def mayC (c : Cel) : Int := if c.View < 0 ∨ c.View > 4 then 23 else if (c.Key.size : Int) > 32 then 21 else if c.Start < -2305843009213693952 ∨ c.Start > 2305843009213693952 then 22 else 0
theorem mayC_spec {h : H} {c : Cel} {Q : Int -> H -> Prop} (k : ∀ h', Ext h h' -> Q (mayC c) h') : F.xbd c h Q := by
  unfold F.xbd
  refine new_of fun n h1 e1 e2 e3 e4 => ?_
  have k := k h1 e3
  unfold mayC at k
  simp only [F.xbd.j1, F.xbd.j2, add_lit, Nat.zero_add, ldI_iff (e2.cell (i := 0) (v := .int .i64 c.View) rfl), ldS_iff (e2.cell (i := 1) (v := .string c.Key) rfl), ldI_iff (e2.cell (i := 2) (v := .int .i64 c.Start) rfl), decide_eq_true_eq, decide_eq_false_iff_not]
  have hb : ¬ (c.View < 0 ∨ c.View > 4) -> ((c.Key.size : Int) > 32 -> Q 21 h1) ∧ (¬ (c.Key.size : Int) > 32 -> (c.Start < -2305843009213693952 -> (True -> Q 22 h1) ∧ (true = false -> Q 0 h1)) ∧ (¬ c.Start < -2305843009213693952 -> (c.Start > 2305843009213693952 -> Q 22 h1) ∧ (¬ c.Start > 2305843009213693952 -> Q 0 h1))) := fun g => by
    rw [if_neg g] at k
    refine ⟨fun g1 => by rw [if_pos g1] at k; exact k, fun g1 => ?_⟩
    rw [if_neg g1] at k
    refine ⟨fun g2 => ⟨fun _ => by rw [if_pos (.inl g2)] at k; exact k, fun h => by cases h⟩, fun g2 => ⟨fun g3 => by rw [if_pos (.inr g3)] at k; exact k, fun g3 => by rw [if_neg (by omega)] at k; exact k⟩⟩
  refine ⟨fun g => ⟨fun _ => by rw [if_pos (.inl g)] at k; exact k, fun h => by cases h⟩, fun g => ⟨fun g2 => by rw [if_pos (.inr g2)] at k; exact k, fun g2 => hb (by omega)⟩⟩
def escL : List UInt8 -> List UInt8
  | [] => []
  | b :: r => if b = 0 then 0 :: 255 :: escL r else b :: escL r
theorem escL_snoc (b : UInt8) : ∀ l, escL (l ++ [b]) = escL l ++ (if b = 0 then [0, 255] else [b])
  | [] => by by_cases h : b = 0 <;> simp [escL, h]
  | x :: r => by simp only [List.cons_append, escL, escL_snoc b r]; split <;> simp
theorem escL_len : ∀ l : List UInt8, (escL l).length <= 2 * l.length
  | [] => by simp [escL]
  | b :: r => by have := escL_len r; simp only [escL]; split <;> simp <;> omega
def beT (u : Nat) : Nat -> List UInt8
  | 0 => []
  | j + 1 => UInt8.ofNat (u / 2 ^ (8 * j)) :: beT u j
theorem beT_len (u : Nat) : ∀ j, (beT u j).length = j
  | 0 => rfl
  | j + 1 => by simp [beT, beT_len u j]
def upU (n : Int) : Nat := (IntKind.wrap .u64 (IntKind.wrap .u64 n + 9223372036854775808)).toNat
def keyL (c : Cel) : List UInt8 := UInt8.ofNat c.View.toNat :: (escL c.Key.data.toList ++ [0, 1] ++ beT (upU c.Start) 8)
theorem wrap_u64 (n : Int) : IntKind.wrap .u64 n = n % 18446744073709551616 := by
  unfold IntKind.wrap; simp [IntKind.bits, IntKind.signed]
theorem wrap_u8 (n : Int) : IntKind.wrap .u8 n = n % 256 := by
  unfold IntKind.wrap; simp [IntKind.bits, IntKind.signed]
theorem upU_eq (n : Int) : ((upU n : Nat) : Int) = IntKind.wrap .u64 (IntKind.wrap .u64 n + 9223372036854775808) := by
  unfold upU
  rw [Int.toNat_of_nonneg]
  rw [wrap_u64]; omega
theorem fdiv_pow (u i : Nat) : Int.fdiv (u : Int) (2 ^ i : Int) = ((u / 2 ^ i : Nat) : Int) := by
  have e : (2 ^ i : Int) = ((2 ^ i : Nat) : Int) := by simp
  rw [e, Int.ofNat_fdiv]
theorem u8_of (n : Nat) : ((UInt8.ofNat n).toNat : Int) = IntKind.wrap .u8 (n : Int) := by
  rw [wrap_u8]; simp
theorem key_tail {h0 : H} {u : Nat} {Q : ByteArray -> Int -> H -> Prop} {L0 : List UInt8} (hL0 : L0.length <= 1000) (k : ∀ h', Ext h0 h' -> Q ⟨(L0 ++ beT u 8).toArray⟩ 0 h') :
    ∀ (j m : Nat) (h : H) (s : Sl) (L : List UInt8), j <= 8 -> j < m -> Ext h0 h -> Owns h s 5 1 (L.flatMap cU) -> Mine h0 s -> L ++ beT u j = L0 ++ beT u 8 -> F.xbc.l2 Q m s (u : Int) (8 * (j : Int) - 8) h
  | j, 0, h, s, L, _, hm, _, _, _, _ => by omega
  | j, m + 1, h, s, L, hj, hm, e0, ow, mi, hL => by
    unfold F.xbc.l2
    simp only [decide_eq_true_eq, decide_eq_false_iff_not]
    have hlen : L.length + j = L0.length + 8 := by have := congrArg List.length hL; simpa [beT_len] using this
    refine ⟨fun g => ⟨g, ?_⟩, fun g => ?_⟩
    · obtain ⟨i, rfl⟩ : ∃ i, j = i + 1 := ⟨j - 1, by omega⟩
      have hb : IntKind.wrap .u8 (Int.fdiv (u : Int) (2 ^ (min (8 * ((i + 1 : Nat) : Int) - 8).toNat (IntKind.bits .u64)) : Int)) = ((UInt8.ofNat (u / 2 ^ (8 * i))).toNat : Int) := by
        rw [u8_of, show (8 * ((i + 1 : Nat) : Int) - 8).toNat = 8 * i from by omega, show min (8 * i) (IntKind.bits .u64) = 8 * i from by simp [IntKind.bits]; omega]
        rw [fdiv_pow]
      rw [hb]
      refine push_mine (f := cU) (UInt8.ofNat (u / 2 ^ (8 * i))) e0 mi cU_len (by omega) el_Sluint8 ow cU_one (by omega) fun r h1 q1 q2 q3 q4 q5 => ?_
      rw [w64 (by omega) (by omega), show 8 * ((i + 1 : Nat) : Int) - 8 - 8 = 8 * (i : Int) - 8 from by omega]
      refine key_tail hL0 k i m h1 r _ (by omega) (by omega) q2 q1 q3 ?_
      rw [← hL]; simp [beT]
    · have : j = 0 := by omega
      subst this
      refine cvtT_of (l := L) el_Sluint8.slice Tryz.underlying5 Tryz.underlying9 ow.reads ?_
      have : L = L0 ++ beT u 8 := by simpa [beT] using hL
      rw [this]; exact k h e0
theorem key_loop {h0 : H} {c : Cel} {n : Nat} {Q : ByteArray -> Int -> H -> Prop} {pre : UInt8} (hk : c.Key.size <= 32) (k : ∀ h', Ext h0 h' -> Q ⟨(pre :: (escL c.Key.data.toList ++ [0, 1] ++ beT (upU c.Start) 8)).toArray⟩ 0 h') (hn : h0.size <= n) :
    ∀ (m i : Nat) (h : H) (s : Sl), i <= c.Key.size -> c.Key.size - i < m -> Ext h0 h -> Blk h n c.cells.toArray tn_api_Cell -> n < h.size -> Owns h s 5 1 ((pre :: escL (c.Key.data.toList.take i)).flatMap cU) -> Mine h0 s -> s.blk ≠ some n ->
    F.xbc.l1 Q m ⟨n, 0, none⟩ s (c.Key.size : Int) (i : Int) h
  | 0, i, h, s, _, hm, _, _, _, _, _, _ => by omega
  | m + 1, i, h, s, hi, hm, e0, bl, hnl, ow, mi, hne => by
    unfold F.xbc.l1
    simp only [decide_eq_true_eq, decide_eq_false_iff_not, add_lit, Nat.zero_add]
    have hel := escL_len (c.Key.data.toList.take i)
    rw [List.length_take, ← size_data] at hel
    refine ⟨fun g => ?_, fun g => ?_⟩
    · rw [ldS_iff (bl.cell (i := 1) (v := .string c.Key) rfl)]
      obtain ⟨b, hb⟩ : ∃ b, c.Key.data.toList[i]? = some b := ⟨_, List.getElem?_eq_getElem (by rw [← size_data]; omega)⟩
      refine idxS_of hb rfl ?_
      have htk : escL (c.Key.data.toList.take (i + 1)) = escL (c.Key.data.toList.take i) ++ (if b = 0 then [0, 255] else [b]) := by rw [List.take_add_one, hb]; exact escL_snoc b _
      refine push_mine (f := cU) b e0 mi cU_len (by omega) el_Sluint8 ow cU_one (by simp; omega) fun r h1 q1 q2 q3 q4 q5 => ?_
      have bl1 : Blk h1 n c.cells.toArray tn_api_Cell := q4.block bl hne
      have hg1 := q4.size
      have hne1 : r.blk ≠ some n := by
        rcases q5 with q5 | ⟨x, q5, q6⟩
        · rw [q5]; exact hne
        · rw [q5]; intro e; cases e; omega
      rw [ldS_iff (bl1.cell (i := 1) (v := .string c.Key) rfl)]
      refine idxS_of hb rfl ?_
      have hw : IntKind.wrap .i64 ((i : Int) + 1) = ((i + 1 : Nat) : Int) := by rw [w64 (by omega) (by omega)]; omega
      rw [hw, beq_iff_eq, beq_eq_false_iff_ne]
      have hb0 : (b.toNat : Int) = 0 ↔ b = 0 := by
        constructor
        · intro h; exact UInt8.toNat_inj.1 (by simpa using (by omega : b.toNat = 0))
        · intro h; subst h; rfl
      rw [hb0, Ne, hb0]
      refine ⟨fun g2 => ?_, fun g2 => ?_⟩
      · refine push_mine (f := cU) 255 q2 q3 cU_len (by omega) el_Sluint8 q1 cU_one (by simp; omega) fun r2 h2 p1 p2 p3 p4 p5 => ?_
        have hne2 : r2.blk ≠ some n := by
          rcases p5 with p5 | ⟨x, p5, p6⟩
          · rw [p5]; exact hne1
          · rw [p5]; intro e; cases e; omega
        refine key_loop hk k hn m (i + 1) h2 r2 (by omega) (by omega) p2 (p4.block bl1 hne1) (by have := p4.size; omega) ?_ p3 hne2
        rw [htk, if_pos g2]; subst g2; simpa using p1
      · refine key_loop hk k hn m (i + 1) h1 r (by omega) (by omega) q2 bl1 (by omega) ?_ q3 hne1
        rw [htk, if_neg g2]; simpa using q1
    · have hii : i = c.Key.size := by omega
      subst hii
      refine newL_of fun x h1 e1 e2 e3 e4 => ?_
      refine app_mine (f := cU) (M := [0, 1]) (e0.trans e3) mi cU_len (by omega) el_Sluint8 (ow.ext e3) (blk_reads (show Blk h1 x (([0, 1] : List UInt8).flatMap cU).toArray 5 from e2) rfl) cU_one (by simp; omega) fun r h2 q1 q2 q3 q4 q5 => ?_
      have bl1 : Blk h2 n c.cells.toArray tn_api_Cell := q4.block (e3.block bl (fun f => f)) hne
      rw [ldI_iff (bl1.cell (i := 2) (v := .int .i64 c.Start) rfl), ← upU_eq]
      refine ⟨9, ?_⟩
      have ht : c.Key.data.toList.take c.Key.size = c.Key.data.toList := List.take_of_length_le (by rw [← size_data]; omega)
      rw [ht] at q1
      have hl2 := escL_len c.Key.data.toList
      rw [← size_data] at hl2
      refine key_tail (L0 := pre :: (escL c.Key.data.toList ++ [0, 1])) (by simp; omega) (by simpa using k) 8 9 h2 r _ (by omega) (by omega) q2 q1 q3 (by simp)
theorem Key_spec {h : H} {c : Cel} {Q : ByteArray -> Int -> H -> Prop} (k0 : mayC c ≠ 0 -> ∀ h', Ext h h' -> Q ⟨#[]⟩ (mayC c) h') (k1 : mayC c = 0 -> ∀ h', Ext h h' -> Q ⟨(keyL c).toArray⟩ 0 h') : F.xbc c h Q := by
  unfold F.xbc
  refine new_of fun n h1 e1 e2 e3 e4 => ?_
  refine ⟨c, e2.cells3, mayC_spec fun h2 f1 => ?_⟩
  have e5 := e3.trans f1
  have bl : Blk h2 n c.cells.toArray tn_api_Cell := f1.block e2 (fun f => f)
  refine ⟨fun g => k0 (by simpa using g) h2 e5, fun g => ?_⟩
  have hm : mayC c = 0 := by simpa using g
  simp only [add_lit, Nat.zero_add]
  rw [ldI_iff (bl.cell (i := 0) (v := .int .i64 c.View) rfl)]
  have hv : 0 <= c.View ∧ c.View <= 4 ∧ c.Key.size <= 32 := by
    unfold mayC at hm
    split at hm
    · omega
    · split at hm
      · omega
      · omega
  have hw : IntKind.wrap .u8 c.View = ((UInt8.ofNat c.View.toNat).toNat : Int) := by rw [u8_of, Int.toNat_of_nonneg hv.1]
  rw [hw]
  refine newL_of fun x h3 g1 g2 g3 g4 => ?_
  have bl3 : Blk h3 n c.cells.toArray tn_api_Cell := g3.block bl (fun f => f)
  rw [ldS_iff (bl3.cell (i := 1) (v := .string c.Key) rfl)]
  have hs := e5.size
  have hs3 := e3.size
  have hf1 := f1.size
  refine ⟨c.Key.size + 1, ?_⟩
  refine key_loop (h0 := h) (pre := UInt8.ofNat c.View.toNat) hv.2.2 (fun h' e => k1 hm h' e) (by omega) _ 0 h3 _ (by omega) (by omega) (e5.trans g3) bl3 (by omega) (show Owns h3 ⟨some ⟨x, 0, none⟩, 1, 1⟩ 5 1 [.int .u8 ((UInt8.ofNat c.View.toNat).toNat : Int)] from blk_owns (m := 1) g2 rfl (by simp [maxLen])) (fun b hb => by simp [Sl.blk] at hb; omega) (by simp [Sl.blk]; omega)
def unesc : List UInt8 -> Except Int (List UInt8 × List UInt8)
  | [] => .error 11
  | b :: r => if b ≠ 0 then (match unesc r with | .ok p => .ok (b :: p.1, p.2) | .error e => .error e) else
    match r with
    | [] => .error 11
    | x :: r' => if x = 1 then .ok ([], r') else if x ≠ 255 then .error 12 else (match unesc r' with | .ok p => .ok (0 :: p.1, p.2) | .error e => .error e)
def beV : Nat -> List UInt8 -> Nat
  | u, [] => u
  | u, b :: r => beV (u * 256 + b.toNat) r
def zeroC : Cel := ⟨0, ⟨#[]⟩, 0⟩
def startOf (u : Nat) : Int := IntKind.wrap .i64 (IntKind.wrap .u64 ((u : Int) - 9223372036854775808))
def finC (v : UInt8) (key t : List UInt8) : Cel × Int :=
  if t.length < 8 then (zeroC, 11) else if t.length > 8 then (zeroC, 13) else
  if mayC ⟨(v.toNat : Int), ⟨key.toArray⟩, startOf (beV 0 t)⟩ ≠ 0 then (zeroC, mayC ⟨(v.toNat : Int), ⟨key.toArray⟩, startOf (beV 0 t)⟩) else (⟨(v.toNat : Int), ⟨key.toArray⟩, startOf (beV 0 t)⟩, 0)
def cellM : List UInt8 -> Cel × Int
  | [] => (zeroC, 11)
  | v :: r => match unesc r with
    | .error e => (zeroC, e)
    | .ok p => finC v p.1 p.2
theorem unesc_ne {b : UInt8} {r : List UInt8} (h : b ≠ 0) : unesc (b :: r) = (match unesc r with | .ok p => .ok (b :: p.1, p.2) | .error e => .error e) := by
  rw [unesc.eq_def]; simp only [if_pos h]
theorem cellM_cons (v : UInt8) (r : List UInt8) : cellM (v :: r) = (match unesc r with | .error e => (zeroC, e) | .ok p => finC v p.1 p.2) := rfl
theorem or_byte {u : Nat} {b : UInt8} (hu : u < 72057594037927936) : bitsOf .or .u64 (IntKind.wrap .u64 ((u : Int) * (2 ^ (min (8 : Int).toNat (IntKind.bits .u64)) : Int))) (IntKind.wrap .u64 (b.toNat : Int)) = ((u * 256 + b.toNat : Nat) : Int) := by
  have hb : b.toNat < 256 := b.toNat_lt
  have e1 : IntKind.wrap .u64 ((u : Int) * (2 ^ (min (8 : Int).toNat (IntKind.bits .u64)) : Int)) = ((u * 256 : Nat) : Int) := by
    rw [show (2 ^ (min (8 : Int).toNat (IntKind.bits .u64)) : Int) = 256 from by simp [IntKind.bits], wrap_u64]; omega
  have e2 : IntKind.wrap .u64 (b.toNat : Int) = ((b.toNat : Nat) : Int) := by rw [wrap_u64]; omega
  rw [e1, e2]
  simp only [bitsOf]
  rw [BitVec.ofInt_natCast, BitVec.ofInt_natCast, BitVec.toNat_or, BitVec.toNat_ofNat, BitVec.toNat_ofNat, wrap_u64]
  have e3 : u * 256 % 2 ^ (IntKind.bits .u64) = u * 256 := Nat.mod_eq_of_lt (by simp [IntKind.bits]; omega)
  have e4 : b.toNat % 2 ^ (IntKind.bits .u64) = b.toNat := Nat.mod_eq_of_lt (by simp [IntKind.bits]; omega)
  rw [e3, e4]
  have e5 : u * 256 ||| b.toNat = u * 256 + b.toNat := by
    have := Nat.two_pow_add_eq_or_of_lt (i := 8) hb u
    rw [show (2 : Nat) ^ 8 * u = u * 256 from by omega] at this
    exact this.symm
  rw [e5]; omega
theorem st_cell {h : H} {n : Nat} {c d : Cel} {K : H -> Prop} (b : Blk h n c.cells.toArray tn_api_Cell) (k : ∀ h', Blk h' n d.cells.toArray tn_api_Cell -> Only (· = n) h h' -> h'.size = h.size -> K h') : stH h ⟨n, 0, none⟩ d.cells K :=
  stH_of b (by simp [S_api_Cell.cells]) fun h' q1 q2 q3 => k h' (by rw [writeA_all (by simp [S_api_Cell.cells])] at q1; exact q1) q2 q3
theorem st_key {h : H} {n : Nat} {c : Cel} {s : ByteArray} {K : H -> Prop} (b : Blk h n c.cells.toArray tn_api_Cell) (k : ∀ h', Blk h' n (⟨c.View, s, c.Start⟩ : Cel).cells.toArray tn_api_Cell -> Only (· = n) h h' -> h'.size = h.size -> K h') : stH h ⟨n, 1, none⟩ [.string s] K :=
  stH_of b (by simp [S_api_Cell.cells]) fun h' q1 q2 q3 => k h' (by
    have : writeA (S_api_Cell.cells c).toArray 1 [.string s] = (⟨c.View, s, c.Start⟩ : Cel).cells.toArray := by simp [writeA, S_api_Cell.cells]
    rw [this] at q1; exact q1) q2 q3
theorem st_start {h : H} {n : Nat} {c : Cel} {u : Int} {K : H -> Prop} (b : Blk h n c.cells.toArray tn_api_Cell) (k : ∀ h', Blk h' n (⟨c.View, c.Key, u⟩ : Cel).cells.toArray tn_api_Cell -> Only (· = n) h h' -> h'.size = h.size -> K h') : stH h ⟨n, 2, none⟩ [.int .i64 u] K :=
  stH_of b (by simp [S_api_Cell.cells]) fun h' q1 q2 q3 => k h' (by
    have : writeA (S_api_Cell.cells c).toArray 2 [.int .i64 u] = (⟨c.View, c.Key, u⟩ : Cel).cells.toArray := by simp [writeA, S_api_Cell.cells]
    rw [this] at q1; exact q1) q2 q3
theorem told_err {h0 h : H} {n : Nat} {c : Cel} {e : Int} {Q : Cel -> Int -> H -> Prop} (k : ∀ h', Ext h0 h' -> Q zeroC e h') (e0 : Ext h0 h) (hn : h0.size <= n) (b : Blk h n c.cells.toArray tn_api_Cell) :
    stH h ⟨n, 0, none⟩ ((⟨0, (⟨#[]⟩ : ByteArray), 0⟩ : S_api_Cell).cells) fun h13 => ld_S_api_Cell h13 ⟨n, 0, none⟩ fun y14 => Q y14 e h13 :=
  st_cell b fun h' q1 q2 q3 => ⟨zeroC, q1.cells3, k h' (e0.step q2 fun m hm e => by omega)⟩
theorem cell_tail {h0 : H} {str : ByteArray} {n2 n4 : Nat} {Q : Cel -> Int -> H -> Prop} {v : UInt8} {key : List UInt8} (hs : str.size < 1000000000000000000) (hn2 : h0.size <= n2) (hn4 : h0.size <= n4) (hne : n2 ≠ n4) {U : Nat}
    (k : ∀ h', Ext h0 h' -> Q (if mayC ⟨(v.toNat : Int), ⟨key.toArray⟩, startOf U⟩ ≠ 0 then (zeroC, mayC ⟨(v.toNat : Int), ⟨key.toArray⟩, startOf U⟩) else (⟨(v.toNat : Int), ⟨key.toArray⟩, startOf U⟩, 0)).1 (if mayC ⟨(v.toNat : Int), ⟨key.toArray⟩, startOf U⟩ ≠ 0 then (zeroC, mayC ⟨(v.toNat : Int), ⟨key.toArray⟩, startOf U⟩) else ((⟨(v.toNat : Int), ⟨key.toArray⟩, startOf U⟩ : Cel), 0)).2 h') :
    ∀ (m i u : Nat) (h : H) (s : Sl) (c2 : Cel), Ext h0 h -> i <= str.size -> str.size <= i + 8 -> u < 256 ^ (i + 8 - str.size) -> beV u (str.data.toList.drop i) = U -> str.size - i < m -> Blk h n2 c2.cells.toArray tn_api_Cell -> Blk h n4 (⟨(v.toNat : Int), ⟨#[]⟩, 0⟩ : Cel).cells.toArray tn_api_Cell -> Reads h s 1 (key.flatMap cU) ->
    F.xbb.l2 Q m str ⟨n2, 0, none⟩ ⟨n4, 0, none⟩ (i : Int) s (u : Int) h
  | 0, i, u, h, s, c2, _, _, _, _, _, hm, _, _, _ => by omega
  | m + 1, i, u, h, s, c2, e0, hi, hi8, hu, hU, hm, b2, b4, rd => by
    unfold F.xbb.l2
    simp only [decide_eq_true_eq, decide_eq_false_iff_not]
    refine ⟨fun g => ⟨by omega, ?_⟩, fun g => ?_⟩
    · obtain ⟨b, hb⟩ : ∃ b, str.data.toList[i]? = some b := ⟨_, List.getElem?_eq_getElem (by rw [← size_data]; omega)⟩
      refine idxS_of hb rfl ?_
      have hd : str.data.toList.drop i = b :: str.data.toList.drop (i + 1) := by
        obtain ⟨hh, rfl⟩ := List.getElem?_eq_some_iff.1 hb
        exact List.drop_eq_getElem_cons hh
      rw [hd, beV] at hU
      have hp : 256 ^ (i + 8 - str.size) <= 256 ^ 7 := Nat.pow_le_pow_right (by omega) (by omega)
      rw [or_byte (by have : (256 : Nat) ^ 7 = 72057594037927936 := by decide
                      omega), show IntKind.wrap .i64 ((i : Int) + 1) = ((i + 1 : Nat) : Int) from by rw [w64 (by omega) (by omega)]; omega]
      have hbl := b.toNat_lt
      refine cell_tail hs hn2 hn4 hne k m (i + 1) _ h s c2 e0 (by omega) (by omega) ?_ hU (by omega) b2 b4 rd
      rw [show i + 1 + 8 - str.size = (i + 8 - str.size) + 1 from by omega, Nat.pow_succ]
      have : (u + 1) * 256 <= 256 ^ (i + 8 - str.size) * 256 := Nat.mul_le_mul_right _ hu
      omega
    · have hii : i = str.size := by omega
      subst hii
      have hd : str.data.toList.drop str.size = [] := List.drop_eq_nil_of_le (by rw [← size_data]; omega)
      rw [hd, beV] at hU
      subst hU
      refine cvtT_of (l := key) el_Sluint8.slice Tryz.underlying5 Tryz.underlying9 rd ?_
      simp only [add_lit, Nat.zero_add]
      refine st_key b4 fun h1 p1 p2 p3 => st_start p1 fun h2 p4 p5 p6 => ?_
      have e2 : Ext h0 h2 := (e0.step p2 fun m hm e => by omega).step p5 fun m hm e => by omega
      have b22 : Blk h2 n2 c2.cells.toArray tn_api_Cell := p5.block (p2.block b2 hne) hne
      refine ⟨_, p4.cells3, mayC_spec fun h3 f1 => ?_⟩
      have b23 : Blk h3 n2 c2.cells.toArray tn_api_Cell := f1.block b22 (fun f => f)
      have e3 := e2.trans f1
      refine ⟨fun g2 => ?_, fun g2 => ?_⟩
      · have g2 : mayC ⟨(v.toNat : Int), ⟨key.toArray⟩, startOf u⟩ ≠ 0 := by simpa [startOf] using g2
        simp only [if_pos g2] at k
        exact told_err k e3 hn2 b23
      · have g2 : ¬ mayC ⟨(v.toNat : Int), ⟨key.toArray⟩, startOf u⟩ ≠ 0 := by simpa [startOf] using g2
        simp only [if_neg g2] at k
        refine ⟨_, Blk.cells3 (c := ⟨(v.toNat : Int), ⟨key.toArray⟩, startOf u⟩) (f1.block p4 (fun f => f)), ?_⟩
        exact st_cell b23 fun h4 q1 q2 q3 => ⟨_, q1.cells3, k h4 (e3.step q2 fun m hm e => by omega)⟩
theorem cell_loop {h0 : H} {str : ByteArray} {n2 n4 : Nat} {Q : Cel -> Int -> H -> Prop} {v : UInt8} (hs : str.size < 140737488355328) (hn2 : h0.size <= n2) (hn4 : h0.size <= n4) (hne : n2 ≠ n4) :
    ∀ (m i : Nat) (h : H) (s : Sl) (acc : List UInt8), (∀ h', Ext h0 h' -> Q (match unesc (str.data.toList.drop i) with | .error e => (zeroC, e) | .ok p => finC v (acc ++ p.1) p.2).1 (match unesc (str.data.toList.drop i) with | .error e => (zeroC, e) | .ok p => finC v (acc ++ p.1) p.2).2 h') ->
    Ext h0 h -> i <= str.size -> acc.length <= i -> str.size - i < m -> Blk h n2 zeroC.cells.toArray tn_api_Cell -> Blk h n4 (⟨(v.toNat : Int), ⟨#[]⟩, 0⟩ : Cel).cells.toArray tn_api_Cell -> Owns h s 5 1 (acc.flatMap cU) -> Mine h0 s -> s.blk ≠ some n2 -> s.blk ≠ some n4 -> n2 < h.size -> n4 < h.size ->
    F.xbb.l1 Q m str ⟨n2, 0, none⟩ ⟨n4, 0, none⟩ (i : Int) s h
  | 0, i, h, s, acc, _, _, _, _, hm, _, _, _, _, _, _, _, _ => by omega
  | m + 1, i, h, s, acc, k, e0, hi, hacc, hm, b2, b4, ow, mi, hne2, hne4, hl2, hl4 => by
    unfold F.xbb.l1
    rw [beq_iff_eq, beq_eq_false_iff_ne]
    refine ⟨fun g => ?_, fun g => ?_⟩
    · have hd : str.data.toList.drop i = [] := List.drop_eq_nil_of_le (by rw [← size_data]; omega)
      rw [hd] at k
      exact told_err k e0 hn2 b2
    · obtain ⟨b, hb⟩ : ∃ b, str.data.toList[i]? = some b := ⟨_, List.getElem?_eq_getElem (by rw [← size_data]; omega)⟩
      have hd : str.data.toList.drop i = b :: str.data.toList.drop (i + 1) := by
        obtain ⟨hh, rfl⟩ := List.getElem?_eq_some_iff.1 hb
        exact List.drop_eq_getElem_cons hh
      have hb0 : (b.toNat : Int) = 0 ↔ b = 0 := by
        constructor
        · intro h; exact UInt8.toNat_inj.1 (by simpa using (by omega : b.toNat = 0))
        · intro h; subst h; rfl
      rw [hd] at k
      refine idxS_of hb rfl ?_
      rw [bne_iff_ne, bne_eq_false_iff_eq, Ne, hb0]
      refine ⟨fun g1 => idxS_of hb rfl ?_, fun g1 => ?_⟩
      · refine push_mine (f := cU) b e0 mi cU_len (by omega) el_Sluint8 ow cU_one (by omega) fun r h1 q1 q2 q3 q4 q5 => ?_
        have hrr : ∀ x, x < h.size -> s.blk ≠ some x -> r.blk ≠ some x := fun x hx hsx => by
          rcases q5 with q5 | ⟨y, q5, q6⟩
          · rw [q5]; exact hsx
          · rw [q5]; intro e; cases e; omega
        rw [show IntKind.wrap .i64 ((i : Int) + 1) = ((i + 1 : Nat) : Int) from by rw [w64 (by omega) (by omega)]; omega]
        refine cell_loop hs hn2 hn4 hne m (i + 1) h1 r (acc ++ [b]) (fun h' e => ?_) q2 (by omega) (by simp; omega) (by omega) (q4.block b2 hne2) (q4.block b4 hne4) q1 q3 (hrr n2 hl2 hne2) (hrr n4 hl4 hne4) (by have := q4.size; omega) (by have := q4.size; omega)
        have k := k h' e
        rw [unesc_ne g1] at k
        cases hu : unesc (str.data.toList.drop (i + 1)) with
        | error x => rw [hu] at k; exact k
        | ok p => rw [hu] at k; simpa using k
      · have g1 : b = 0 := Classical.not_not.1 (by simpa using g1)
        subst g1
        rw [w64 (n := (i : Int) + 1) (by omega) (by omega), w64 (n := (i : Int) + 2) (by omega) (by omega), beq_iff_eq, beq_eq_false_iff_ne]
        refine ⟨fun g2 => ?_, fun g2 => ?_⟩
        · have hd1 : str.data.toList.drop (i + 1) = [] := List.drop_eq_nil_of_le (by rw [← size_data]; omega)
          rw [hd1] at k
          exact told_err k e0 hn2 b2
        · obtain ⟨x, hx⟩ : ∃ b, str.data.toList[i + 1]? = some b := ⟨_, List.getElem?_eq_getElem (by rw [← size_data]; omega)⟩
          have hd1 : str.data.toList.drop (i + 1) = x :: str.data.toList.drop (i + 2) := by
            obtain ⟨hh, rfl⟩ := List.getElem?_eq_some_iff.1 hx
            exact List.drop_eq_getElem_cons hh
          have hx1 : (x.toNat : Int) = 1 ↔ x = 1 := by
            constructor
            · intro h; exact UInt8.toNat_inj.1 (by simpa using (by omega : x.toNat = 1))
            · intro h; subst h; rfl
          have hx2 : (x.toNat : Int) = 255 ↔ x = 255 := by
            constructor
            · intro h; exact UInt8.toNat_inj.1 (by simpa using (by omega : x.toNat = 255))
            · intro h; subst h; rfl
          rw [hd1] at k
          have hun : unesc (0 :: x :: str.data.toList.drop (i + 2)) = if x = 1 then .ok ([], str.data.toList.drop (i + 2)) else if x ≠ 255 then .error 12 else (match unesc (str.data.toList.drop (i + 2)) with | .ok p => .ok (0 :: p.1, p.2) | .error e => .error e) := by
            rw [unesc]; simp
          rw [hun] at k
          have hlen : (str.data.toList.drop (i + 2)).length = str.size - (i + 2) := by rw [List.length_drop, ← size_data]
          refine idxS_of hx (by rw [w64 (by omega) (by omega)]; omega) ?_
          rw [beq_iff_eq, beq_eq_false_iff_ne, Ne, hx1]
          refine ⟨fun g3 => ?_, fun g3 => ?_⟩
          · rw [if_pos g3] at k
            simp only [List.append_nil] at k
            unfold finC at k
            rw [hlen] at k
            rw [w64 (by omega) (by omega)]
            simp only [decide_eq_true_eq, decide_eq_false_iff_not]
            refine ⟨fun g4 => ?_, fun g4 => ⟨fun g5 => ?_, fun g5 => ⟨str.size + 1, ?_⟩⟩⟩
            · rw [if_pos (by omega)] at k; exact told_err k e0 hn2 b2
            · rw [if_neg (by omega), if_pos (by omega)] at k; exact told_err k e0 hn2 b2
            · rw [if_neg (by omega), if_neg (by omega)] at k
              rw [show (i : Int) + 2 = ((i + 2 : Nat) : Int) from by omega]
              exact cell_tail (by omega) hn2 hn4 hne k (str.size + 1) (i + 2) 0 h s zeroC e0 (by omega) (by omega) (Nat.pos_of_ne_zero (by exact Nat.pos_iff_ne_zero.1 (Nat.pow_pos (by omega)))) rfl (by omega) b2 b4 ow.reads
          · rw [if_neg g3] at k
            refine idxS_of hx (by rw [w64 (by omega) (by omega)]; omega) ?_
            rw [bne_iff_ne, bne_eq_false_iff_eq, Ne, hx2]
            refine ⟨fun g4 => ?_, fun g4 => ?_⟩
            · rw [if_pos g4] at k; exact told_err k e0 hn2 b2
            · have g4 : x = 255 := Classical.not_not.1 (by simpa using g4)
              rw [if_neg (by simpa using g4)] at k
              refine push_mine (f := cU) 0 e0 mi cU_len (by omega) el_Sluint8 ow cU_one (by omega) fun r h1 q1 q2 q3 q4 q5 => ?_
              have hrr : ∀ x, x < h.size -> s.blk ≠ some x -> r.blk ≠ some x := fun x hx hsx => by
                rcases q5 with q5 | ⟨y, q5, q6⟩
                · rw [q5]; exact hsx
                · rw [q5]; intro e; cases e; omega
              rw [show (i : Int) + 2 = ((i + 2 : Nat) : Int) from by omega]
              refine cell_loop hs hn2 hn4 hne m (i + 2) h1 r (acc ++ [0]) (fun h' e => ?_) q2 (by omega) (by simp; omega) (by omega) (q4.block b2 hne2) (q4.block b4 hne4) q1 q3 (hrr n2 hl2 hne2) (hrr n4 hl4 hne4) (by have := q4.size; omega) (by have := q4.size; omega)
              have k := k h' e
              cases hu : unesc (str.data.toList.drop (i + 2)) with
              | error x => rw [hu] at k; exact k
              | ok p => rw [hu] at k; simpa using k
theorem Cell_spec {h : H} {str : ByteArray} {Q : Cel -> Int -> H -> Prop} (hs : str.size < 140737488355328) (k : ∀ h', Ext h h' -> Q (cellM str.data.toList).1 (cellM str.data.toList).2 h') : F.xbb str h Q := by
  unfold F.xbb
  refine new_of fun n h1 e1 e2 e3 e4 => ?_
  have hs1 := e3.size
  rw [beq_iff_eq, beq_eq_false_iff_ne, toList_data, toList_data]
  refine ⟨fun g => ?_, fun g => ?_⟩
  · have g : str.data.toList = [] := g
    rw [g] at k
    exact told_err k e3 (by omega) (c := zeroC) e2
  · obtain ⟨v, r, hv⟩ : ∃ v r, str.data.toList = v :: r := by
      cases hh : str.data.toList with
      | nil => exact absurd hh g
      | cons v r => exact ⟨v, r, rfl⟩
    have hsz : 0 < str.size := by rw [size_data, hv]; simp
    refine idxS_of (i := 0) (b := v) (by rw [hv]; rfl) rfl ?_
    refine new_of fun n4 h2 f1 f2 f3 f4 => ?_
    have hs2 := f3.size
    refine st_cell (c := zeroC) (d := ⟨IntKind.wrap .i64 (v.toNat : Int), ⟨#[]⟩, 0⟩) f2 fun h3 q1 q2 q3 => ?_
    have hbl := v.toNat_lt
    rw [w64 (by omega) (by omega)] at q1
    refine ⟨str.size + 1, ?_⟩
    refine cell_loop (v := v) hs (n2 := n) (n4 := n4) (h0 := h) (by omega) (by omega) (by omega) _ 1 h3 _ [] (fun h' e => ?_) ((e3.trans f3).step q2 fun m hm e => by omega) (by omega) (by simp) (by omega) (q2.block (f3.block e2 (fun f => f)) (by omega)) q1 (Owns.nil _ _ _) (Mine.nil _ _ _) (by simp [Sl.blk]) (by simp [Sl.blk]) (by omega) (by omega)
    have k := k h' e
    rw [hv, cellM_cons] at k
    rw [show str.data.toList.drop 1 = r from by rw [hv]; rfl]
    cases hu : unesc r with
    | error x => rw [hu] at k; exact k
    | ok p => rw [hu] at k; simpa using k
theorem cmpB_eq : ∀ (a b : List UInt8), Lib.compareBytes a b = if a = b then 0 else if Op.bytesLess a b then -1 else 1
  | [], [] => rfl
  | [], _ :: _ => rfl
  | _ :: _, [] => rfl
  | a :: ra, b :: rb => by
    rw [Lib.compareBytes, cmpB_eq ra rb, Op.bytesLess]
    by_cases h1 : a < b
    · have : a ≠ b := fun e => by subst e; exact absurd h1 (by simp)
      simp [h1, this]
    · by_cases h2 : b < a
      · have : a ≠ b := fun e => by subst e; exact absurd h2 (by simp)
        simp [h1, h2, this]
      · have : a = b := UInt8.le_antisymm (UInt8.not_lt.1 h2) (UInt8.not_lt.1 h1)
        subst this
        simp
def cmpI (x y : Int) : Int := if x < y then -1 else if x > y then 1 else 0
def cmpC (a b : Cel) : Int := if cmpI a.View b.View ≠ 0 then cmpI a.View b.View else if cmpM a.Key b.Key ≠ 0 then cmpM a.Key b.Key else cmpI a.Start b.Start
theorem cmpInt_spec {x y : Int} {h : H} {Q : Int -> H -> Prop} (k : Q (cmpI x y) h) : F.xcb x y h Q := by
  unfold F.xcb F.xbv
  unfold cmpI at k
  simp only [bne_self_eq_false, Bool.false_eq_true, false_implies, true_implies, true_and, decide_eq_true_eq, decide_eq_false_iff_not]
  by_cases h1 : x < y
  · simp only [h1, if_true] at k; exact ⟨fun _ => k, fun g => absurd h1 g⟩
  · simp only [h1, if_false] at k
    by_cases h2 : x > y
    · simp only [h2, if_true] at k; exact ⟨fun g => absurd g h1, fun _ => ⟨fun _ => k, fun g => absurd h2 g⟩⟩
    · simp only [h2, if_false] at k; exact ⟨fun g => absurd g h1, fun _ => ⟨fun g => absurd g h2, fun _ => k⟩⟩
theorem cmpInt64_spec {x y : Int} {h : H} {Q : Int -> H -> Prop} (k : Q (cmpI x y) h) : F.xdo x y h Q := by
  unfold F.xdo F.xdc
  unfold cmpI at k
  simp only [bne_self_eq_false, Bool.false_eq_true, false_implies, true_implies, true_and, decide_eq_true_eq, decide_eq_false_iff_not]
  by_cases h1 : x < y
  · simp only [h1, if_true] at k; exact ⟨fun _ => k, fun g => absurd h1 g⟩
  · simp only [h1, if_false] at k
    by_cases h2 : x > y
    · simp only [h2, if_true] at k; exact ⟨fun g => absurd g h1, fun _ => ⟨fun _ => k, fun g => absurd h2 g⟩⟩
    · simp only [h2, if_false] at k; exact ⟨fun g => absurd g h1, fun _ => ⟨fun g => absurd g h2, fun _ => k⟩⟩
theorem or3_spec {n : Nat} {a b c : Int} {h : H} {Q : Int -> H -> Prop} (bl : Blk h n #[.int .i64 a, .int .i64 b, .int .i64 c] 3) (k : Q (if a ≠ 0 then a else if b ≠ 0 then b else c) h) : F.xby ⟨some ⟨n, 0, none⟩, 3, 3⟩ h Q := by
  unfold F.xby
  refine ⟨4, ?_⟩
  have c0 : cellH h ⟨n, 0, none⟩ = some (.int .i64 a) := bl.cell rfl
  have c1 : cellH h ⟨n, 1, none⟩ = some (.int .i64 b) := bl.cell rfl
  have c2 : cellH h ⟨n, 2, none⟩ = some (.int .i64 c) := bl.cell rfl
  unfold F.xby.l1
  refine ⟨fun _ => ?_, fun g => by simp at g⟩
  refine idxA_of (i := 0) rfl (by simp) rfl ?_
  rw [Nat.zero_mul, ldI_iff c0, bne_iff_ne, bne_eq_false_iff_eq]
  refine ⟨fun g => by rw [if_pos g] at k; exact k, fun g => ?_⟩
  rw [if_neg (by simpa using g)] at k
  rw [show IntKind.wrap .i64 (0 + 1) = ((1 : Nat) : Int) from by decide]
  unfold F.xby.l1
  refine ⟨fun _ => ?_, fun g => by simp at g⟩
  refine idxA_of (i := 1) rfl (by simp) rfl ?_
  rw [Nat.one_mul, ldI_iff c1, bne_iff_ne, bne_eq_false_iff_eq]
  refine ⟨fun g => by rw [if_pos g] at k; exact k, fun g => ?_⟩
  rw [if_neg (by simpa using g)] at k
  rw [show IntKind.wrap .i64 (((1 : Nat) : Int) + 1) = ((2 : Nat) : Int) from by decide]
  unfold F.xby.l1
  refine ⟨fun _ => ?_, fun g => by simp at g⟩
  refine idxA_of (i := 2) rfl (by simp) rfl ?_
  rw [show 2 * 1 = 2 from rfl, ldI_iff c2, bne_iff_ne, bne_eq_false_iff_eq]
  refine ⟨fun g => k, fun g => ?_⟩
  rw [show IntKind.wrap .i64 (((2 : Nat) : Int) + 1) = ((3 : Nat) : Int) from by decide]
  unfold F.xby.l1
  refine ⟨fun g => by simp at g, fun _ => ?_⟩
  rw [g] at k; exact k
theorem Compare_spec {a b : Cel} {h : H} {Q : Int -> H -> Prop} (k : ∀ h', Ext h h' -> Q (cmpC a b) h') : F.xcq a b h Q := by
  unfold F.xcq
  refine new_of fun n h1 e1 e2 e3 e4 => new_of fun m h3 f1 f2 f3 f4 => ?_
  have b1 : Blk h3 n a.cells.toArray tn_api_Cell := f3.block e2 (fun f => f)
  have b2 : Blk h3 m b.cells.toArray tn_api_Cell := f2
  have a0 : cellH h3 ⟨n, 0, none⟩ = some (.int .i64 a.View) := b1.cell rfl
  have a1 : cellH h3 ⟨n, 1, none⟩ = some (.string a.Key) := b1.cell rfl
  have a2 : cellH h3 ⟨n, 2, none⟩ = some (.int .i64 a.Start) := b1.cell rfl
  have c0 : cellH h3 ⟨m, 0, none⟩ = some (.int .i64 b.View) := b2.cell rfl
  have c1 : cellH h3 ⟨m, 1, none⟩ = some (.string b.Key) := b2.cell rfl
  have c2 : cellH h3 ⟨m, 2, none⟩ = some (.int .i64 b.Start) := b2.cell rfl
  simp only [add_lit, Nat.zero_add, ldI_iff a0, ldI_iff c0, ldS_iff a1, ldS_iff c1, ldI_iff a2, ldI_iff c2]
  refine cmpInt_spec ⟨c2, a2, c1, a1, ?_⟩
  unfold F.xdw F.xdx
  refine ⟨c2, a2, cmpInt64_spec ?_⟩
  refine newL_of fun q h5 g1 g2 g3 g4 => ?_
  exact or3_spec g2 (k h5 ((e3.trans f3).trans g3))
theorem cmpC_self (a : Cel) : cmpC a a = 0 := by
  unfold cmpC cmpI cmpM
  rw [cmpB_eq]; simp
theorem cB_zero {x y : List UInt8} : Lib.compareBytes x y = 0 ↔ x = y := by
  rw [cmpB_eq]
  split
  · rename_i h; simp [h]
  · rename_i h; split <;> simp [h]
theorem u8_tri (a b : UInt8) : a < b ∨ a = b ∨ b < a := by
  by_cases h1 : a < b
  · exact .inl h1
  · by_cases h2 : b < a
    · exact .inr (.inr h2)
    · exact .inr (.inl (UInt8.le_antisymm (UInt8.not_lt.1 h2) (UInt8.not_lt.1 h1)))
theorem u8_asym {a b : UInt8} (h : a < b) : ¬ b < a := fun h2 => by
  rw [UInt8.lt_iff_toNat_lt] at h h2; omega
theorem u8_irr (a : UInt8) : ¬ a < a := fun h => by
  rw [UInt8.lt_iff_toNat_lt] at h; omega
theorem cB_anti : ∀ (x y : List UInt8), Lib.compareBytes x y = - Lib.compareBytes y x
  | [], [] => rfl
  | [], _ :: _ => rfl
  | _ :: _, [] => rfl
  | a :: x, b :: y => by
    have ih := cB_anti x y
    simp only [Lib.compareBytes]
    rcases u8_tri a b with h | h | h
    · simp [h, u8_asym h]
    · subst h; simp [u8_irr, ih]
    · simp [h, u8_asym h]
theorem cB_range (x y : List UInt8) : Lib.compareBytes x y = -1 ∨ Lib.compareBytes x y = 0 ∨ Lib.compareBytes x y = 1 := by
  rw [cmpB_eq]; split
  · simp
  · split <;> simp
theorem cB_trans : ∀ (x y z : List UInt8), Lib.compareBytes x y = -1 -> Lib.compareBytes y z = -1 -> Lib.compareBytes x z = -1
  | [], [], z, h, _ => by simp [Lib.compareBytes] at h
  | [], b :: y, [], _, h => by simp [Lib.compareBytes] at h
  | [], b :: y, c :: z, _, _ => rfl
  | a :: x, [], z, h, _ => by simp [Lib.compareBytes] at h
  | a :: x, b :: y, [], _, h => by simp [Lib.compareBytes] at h
  | a :: x, b :: y, c :: z, h1, h2 => by
    simp only [Lib.compareBytes] at h1 h2 ⊢
    rcases u8_tri a b with g | g | g
    · rcases u8_tri b c with g2 | g2 | g2
      · have : a < c := by rw [UInt8.lt_iff_toNat_lt] at *; omega
        simp [this]
      · subst g2; simp [g]
      · simp [g2, u8_asym g2] at h2
    · subst g
      simp only [u8_irr, if_false] at h1
      rcases u8_tri a c with g2 | g2 | g2
      · simp [g2]
      · subst g2
        simp only [u8_irr, if_false] at h2 ⊢
        exact cB_trans x y z h1 h2
      · simp [g2, u8_asym g2] at h2
    · simp [g, u8_asym g] at h1
theorem cI_anti (x y : Int) : cmpI x y = - cmpI y x := by
  unfold cmpI
  rcases Int.lt_trichotomy x y with h | h | h
  · rw [if_pos h, if_neg (by omega), if_pos (by omega)]
  · subst h; simp
  · rw [if_neg (by omega), if_pos (by omega), if_pos (by omega)]; rfl
theorem cI_zero {x y : Int} : cmpI x y = 0 ↔ x = y := by
  unfold cmpI
  split
  · constructor <;> intro <;> omega
  · split
    · constructor <;> intro <;> omega
    · constructor <;> intro <;> omega
theorem cI_range (x y : Int) : cmpI x y = -1 ∨ cmpI x y = 0 ∨ cmpI x y = 1 := by
  unfold cmpI; split
  · simp
  · split <;> simp
theorem cI_lt {x y : Int} : cmpI x y = -1 ↔ x < y := by
  unfold cmpI
  split
  · constructor <;> intro <;> omega
  · split
    · constructor <;> intro <;> omega
    · constructor <;> intro <;> omega
theorem cC_anti (a b : Cel) : cmpC a b = - cmpC b a := by
  unfold cmpC cmpM
  rw [cI_anti a.View b.View, cB_anti a.Key.data.toList b.Key.data.toList, cI_anti a.Start b.Start]
  split <;> split <;> simp_all <;> omega
theorem cC_range (a b : Cel) : cmpC a b = -1 ∨ cmpC a b = 0 ∨ cmpC a b = 1 := by
  unfold cmpC cmpM
  split
  · exact cI_range _ _
  · split
    · exact cB_range _ _
    · exact cI_range _ _
theorem key_ext {a b : ByteArray} (h : a.data.toList = b.data.toList) : a = b := by
  obtain ⟨x⟩ := a
  obtain ⟨y⟩ := b
  congr 1
  exact Array.toList_inj.1 h
theorem cC_zero {a b : Cel} : cmpC a b = 0 ↔ a = b := by
  constructor
  · intro h
    unfold cmpC cmpM at h
    split at h
    · rename_i g; exact absurd h g
    · rename_i g
      split at h
      · rename_i g2; exact absurd h g2
      · rename_i g2
        have h1 := cI_zero.1 (Classical.not_not.1 g)
        have h2 := key_ext (cB_zero.1 (Classical.not_not.1 g2))
        have h3 := cI_zero.1 h
        obtain ⟨v, k, s⟩ := a
        obtain ⟨v', k', s'⟩ := b
        simp only at h1 h2 h3
        rw [h1, h2, h3]
  · rintro rfl; exact cmpC_self a
theorem cC_lt {a b : Cel} : cmpC a b = -1 ↔ cmpI a.View b.View = -1 ∨ (a.View = b.View ∧ (Lib.compareBytes a.Key.data.toList b.Key.data.toList = -1 ∨ (a.Key.data.toList = b.Key.data.toList ∧ a.Start < b.Start))) := by
  unfold cmpC cmpM
  have r1 := cI_range a.View b.View
  have r2 := cB_range a.Key.data.toList b.Key.data.toList
  have z1 := cI_zero (x := a.View) (y := b.View)
  have z2 := cB_zero (x := a.Key.data.toList) (y := b.Key.data.toList)
  have l3 := cI_lt (x := a.Start) (y := b.Start)
  by_cases h1 : cmpI a.View b.View = 0
  · rw [if_neg (by simp [h1])]
    have e1 := z1.1 h1
    by_cases h2 : Lib.compareBytes a.Key.data.toList b.Key.data.toList = 0
    · rw [if_neg (by simp [h2])]
      have e2 := z2.1 h2
      rw [l3]
      constructor
      · intro h; exact .inr ⟨e1, .inr ⟨e2, h⟩⟩
      · intro h
        rcases h with h | ⟨_, h | h⟩
        · omega
        · omega
        · exact h.2
    · rw [if_pos h2]
      constructor
      · intro h; exact .inr ⟨e1, .inl h⟩
      · intro h
        rcases h with h | ⟨_, h | h⟩
        · omega
        · exact h
        · exact absurd (z2.2 h.1) h2
  · rw [if_pos h1]
    constructor
    · intro h; exact .inl h
    · intro h
      rcases h with h | h
      · exact h
      · exact absurd (z1.2 h.1) h1
theorem cC_trans {a b c : Cel} (h1 : cmpC a b = -1) (h2 : cmpC b c = -1) : cmpC a c = -1 := by
  rw [cC_lt] at *
  rcases h1 with h1 | ⟨e1, h1⟩
  · rw [cI_lt] at h1
    rcases h2 with h2 | ⟨e2, _⟩
    · rw [cI_lt] at h2; exact .inl (cI_lt.2 (by omega))
    · exact .inl (cI_lt.2 (by omega))
  · rcases h2 with h2 | ⟨e2, h2⟩
    · rw [cI_lt] at h2; exact .inl (cI_lt.2 (by omega))
    · refine .inr ⟨by omega, ?_⟩
      rcases h1 with h1 | ⟨k1, h1⟩
      · rcases h2 with h2 | ⟨k2, h2⟩
        · exact .inl (cB_trans _ _ _ h1 h2)
        · rw [← k2]; exact .inl h1
      · rcases h2 with h2 | ⟨k2, h2⟩
        · rw [k1]; exact .inl h2
        · exact .inr ⟨k1.trans k2, by omega⟩
theorem esc_cmp : ∀ (k1 k2 t1 t2 : List UInt8), Lib.compareBytes (escL k1 ++ 0 :: 1 :: t1) (escL k2 ++ 0 :: 1 :: t2) = if Lib.compareBytes k1 k2 ≠ 0 then Lib.compareBytes k1 k2 else Lib.compareBytes t1 t2
  | [], [], t1, t2 => by simp [escL, Lib.compareBytes, u8_irr]
  | [], b :: k2, t1, t2 => by
    simp only [escL]
    by_cases hb : b = 0
    · subst hb; simp [Lib.compareBytes, u8_irr, show (1 : UInt8) < 255 from by decide]
    · have : (0 : UInt8) < b := by
        rcases u8_tri 0 b with h | h | h
        · exact h
        · exact absurd h.symm hb
        · rw [UInt8.lt_iff_toNat_lt] at h; simp at h
      simp [hb, Lib.compareBytes, this]
  | a :: k1, [], t1, t2 => by
    simp only [escL]
    by_cases hb : a = 0
    · subst hb; simp [Lib.compareBytes, u8_irr, show (1 : UInt8) < 255 from by decide, show ¬ (255 : UInt8) < 1 from by decide]
    · have : (0 : UInt8) < a := by
        rcases u8_tri 0 a with h | h | h
        · exact h
        · exact absurd h.symm hb
        · rw [UInt8.lt_iff_toNat_lt] at h; simp at h
      simp [hb, Lib.compareBytes, this, u8_asym this]
  | a :: k1, b :: k2, t1, t2 => by
    have ih := esc_cmp k1 k2 t1 t2
    have pos : ∀ x : UInt8, x ≠ 0 -> (0 : UInt8) < x := fun x hx => by
      rcases u8_tri 0 x with h | h | h
      · exact h
      · exact absurd h.symm hx
      · rw [UInt8.lt_iff_toNat_lt] at h; simp at h
    rcases u8_tri a b with h | h | h
    · have hb0 : b ≠ 0 := fun e => by subst e; rw [UInt8.lt_iff_toNat_lt] at h; simp at h
      by_cases ha : a = 0
      · subst ha; simp [escL, hb0, Lib.compareBytes, h]
      · simp [escL, hb0, ha, Lib.compareBytes, h]
    · subst h
      by_cases ha : a = 0
      · subst ha; simp [escL, Lib.compareBytes, u8_irr, ih]
      · simp [escL, ha, Lib.compareBytes, u8_irr, ih]
    · have ha0 : a ≠ 0 := fun e => by subst e; rw [UInt8.lt_iff_toNat_lt] at h; simp at h
      by_cases hb : b = 0
      · subst hb; simp [escL, ha0, Lib.compareBytes, h, u8_asym h]
      · simp [escL, ha0, hb, Lib.compareBytes, h, u8_asym h]
def cmpN (u v : Nat) : Int := if u < v then -1 else if v < u then 1 else 0
theorem be_cmp : ∀ (j u v : Nat), Lib.compareBytes (beT u j) (beT v j) = cmpN (u % 2 ^ (8 * j)) (v % 2 ^ (8 * j))
  | 0, u, v => by simp [beT, Lib.compareBytes, cmpN, Nat.mod_one]
  | j + 1, u, v => by
    have ih := be_cmp j u v
    simp only [beT, Lib.compareBytes, ih]
    have e : 2 ^ (8 * (j + 1)) = 2 ^ (8 * j) * 256 := by rw [show 8 * (j + 1) = 8 * j + 8 from by omega, Nat.pow_add]
    have hu : u % 2 ^ (8 * (j + 1)) = u % 2 ^ (8 * j) + 2 ^ (8 * j) * (u / 2 ^ (8 * j) % 256) := by rw [e, Nat.mod_mul]
    have hv : v % 2 ^ (8 * (j + 1)) = v % 2 ^ (8 * j) + 2 ^ (8 * j) * (v / 2 ^ (8 * j) % 256) := by rw [e, Nat.mod_mul]
    rw [hu, hv]
    have pu := Nat.mod_lt u (Nat.two_pow_pos (8 * j))
    have pv := Nat.mod_lt v (Nat.two_pow_pos (8 * j))
    simp only [UInt8.lt_iff_toNat_lt, UInt8.toNat_ofNat']
    have e8 : (2 : Nat) ^ 8 = 256 := by decide
    rw [e8]
    generalize u / 2 ^ (8 * j) % 256 = x at *
    generalize v / 2 ^ (8 * j) % 256 = y at *
    generalize u % 2 ^ (8 * j) = p at *
    generalize v % 2 ^ (8 * j) = q at *
    generalize 2 ^ (8 * j) = B at *
    unfold cmpN
    rcases Nat.lt_trichotomy x y with h | h | h
    · have : B * (x + 1) <= B * y := Nat.mul_le_mul_left _ h
      rw [Nat.mul_add, Nat.mul_one] at this
      rw [if_pos h, if_pos (by omega)]
    · subst h
      rw [if_neg (by omega), if_neg (by omega)]
      by_cases h1 : p < q
      · rw [if_pos h1, if_pos (by omega)]
      · rw [if_neg h1, if_neg (show ¬ (p + B * x < q + B * x) by omega)]
        by_cases h2 : q < p
        · rw [if_pos h2, if_pos (by omega)]
        · rw [if_neg h2, if_neg (by omega)]
    · have : B * (y + 1) <= B * x := Nat.mul_le_mul_left _ h
      rw [Nat.mul_add, Nat.mul_one] at this
      rw [if_neg (by omega), if_pos h, if_neg (by omega), if_pos (by omega)]
abbrev I64n (n : Int) : Prop := -9223372036854775808 <= n ∧ n < 9223372036854775808
theorem upU_val {n : Int} (h : I64n n) : (upU n : Int) = n + 9223372036854775808 := by
  rw [upU_eq, wrap_u64, wrap_u64]; omega
theorem may_view {c : Cel} (h : mayC c = 0) : 0 <= c.View ∧ c.View <= 4 ∧ c.Key.size <= 32 := by
  unfold mayC at h
  split at h
  · omega
  · split at h
    · omega
    · omega
theorem key_cmp {a b : Cel} (ha : mayC a = 0) (hb : mayC b = 0) (ia : I64n a.Start) (ib : I64n b.Start) : Lib.compareBytes (keyL a) (keyL b) = cmpC a b := by
  obtain ⟨a1, a2, a3⟩ := may_view ha
  obtain ⟨b1, b2, b3⟩ := may_view hb
  unfold keyL cmpC cmpM
  simp only [Lib.compareBytes, List.append_assoc, List.cons_append, List.nil_append]
  rw [esc_cmp, be_cmp]
  have ua := upU_val ia
  have ub := upU_val ib
  have e8 : (2 : Nat) ^ (8 * 8) = 18446744073709551616 := by decide
  rw [e8, Nat.mod_eq_of_lt (by omega), Nat.mod_eq_of_lt (by omega)]
  have hN : cmpN (upU a.Start) (upU b.Start) = cmpI a.Start b.Start := by
    unfold cmpN cmpI
    by_cases h1 : a.Start < b.Start
    · rw [if_pos h1, if_pos (by omega)]
    · rw [if_neg h1, if_neg (by omega)]
      by_cases h2 : a.Start > b.Start
      · rw [if_pos h2, if_pos (by omega)]
      · rw [if_neg h2, if_neg (by omega)]
  rw [hN]
  have va : (UInt8.ofNat a.View.toNat).toNat = a.View.toNat := by rw [UInt8.toNat_ofNat']; omega
  have vb : (UInt8.ofNat b.View.toNat).toNat = b.View.toNat := by rw [UInt8.toNat_ofNat']; omega
  simp only [UInt8.lt_iff_toNat_lt, va, vb]
  unfold cmpI
  rcases Int.lt_trichotomy a.View b.View with h | h | h
  · rw [if_pos (by omega), if_pos (by rw [if_pos h]; omega), if_pos h]
  · rw [h, if_neg (by omega), if_neg (by omega)]; simp
  · rw [if_neg (by omega), if_pos (by omega), if_pos (by rw [if_neg (by omega), if_pos (by omega)]; omega), if_neg (by omega), if_pos (by omega)]
theorem unesc_esc : ∀ (k t : List UInt8), unesc (escL k ++ 0 :: 1 :: t) = .ok (k, t)
  | [], t => by
    show unesc (0 :: 1 :: t) = _
    rw [unesc.eq_def]; simp
  | b :: k, t => by
    have ih := unesc_esc k t
    by_cases hb : b = 0
    · subst hb
      simp only [escL, if_true, List.cons_append]
      rw [unesc.eq_def]
      simp [ih]
    · simp only [escL, if_neg hb, List.cons_append]
      rw [unesc_ne hb, ih]
theorem beV_beT : ∀ (j u w : Nat), beV w (beT u j) = w * 2 ^ (8 * j) + u % 2 ^ (8 * j)
  | 0, u, w => by simp [beT, beV, Nat.mod_one]
  | j + 1, u, w => by
    rw [beT, beV, beV_beT j, UInt8.toNat_ofNat']
    have e : 2 ^ (8 * (j + 1)) = 2 ^ (8 * j) * 256 := by rw [show 8 * (j + 1) = 8 * j + 8 from by omega, Nat.pow_add]
    have hu : u % 2 ^ (8 * (j + 1)) = u % 2 ^ (8 * j) + 2 ^ (8 * j) * (u / 2 ^ (8 * j) % 256) := by rw [e, Nat.mod_mul]
    have e8 : (2 : Nat) ^ 8 = 256 := by decide
    rw [hu, e, e8, Nat.add_mul, Nat.mul_comm (u / 2 ^ (8 * j) % 256), Nat.mul_assoc w 256, Nat.mul_comm 256 (2 ^ (8 * j))]
    omega
theorem cell_back {c : Cel} (h : mayC c = 0) (i : I64n c.Start) : cellM (keyL c) = (c, 0) := by
  obtain ⟨a1, a2, a3⟩ := may_view h
  have u := upU_val i
  unfold keyL
  rw [cellM_cons]
  simp only [List.append_assoc, List.cons_append, List.nil_append]
  rw [unesc_esc]
  simp only [finC, beT_len]
  rw [if_neg (by omega), if_neg (by omega), beV_beT]
  have e8 : (2 : Nat) ^ (8 * 8) = 18446744073709551616 := by decide
  have hs : startOf (0 * 2 ^ (8 * 8) + upU c.Start % 2 ^ (8 * 8)) = c.Start := by
    rw [e8, Nat.mod_eq_of_lt (by omega)]
    unfold startOf
    rw [wrap_u64, Nat.zero_mul, Nat.zero_add, u]
    unfold IntKind.wrap
    simp [IntKind.bits, IntKind.signed]
    omega
  rw [hs]
  have hv : (((UInt8.ofNat c.View.toNat).toNat : Nat) : Int) = c.View := by rw [UInt8.toNat_ofNat']; omega
  rw [hv]
  have hc : (⟨c.View, ⟨c.Key.data.toList.toArray⟩, c.Start⟩ : Cel) = c := by
    obtain ⟨v, ⟨k⟩, s⟩ := c
    simp
  rw [hc, if_neg (by simpa using h)]
section
variable {h0 h : H} {n m q : Nat} {a b c : Cel} {Q : Bool -> H -> Prop}
end
theorem Blk.cells {h : H} {n : Nat} {cs : List Value} {e : TypeId} (b : Blk h n cs.toArray e) : Cells h ⟨n, 0, none⟩ cs := fun i v hv => by
  rw [add_lit, Nat.zero_add]
  exact b.cell (by simpa using hv)
section
variable {P : Program} {h : H}
end
end Go.Proofs.YtoccbnhahaoeiaaGreat.V
namespace Go.Proofs.YtoccbnhahaoeiaaGreat.V.C
open Go Go.Proofs.YtoccbnhahaoeiaaGreat.V
set_option linter.unusedVariables false
set_option linter.unusedSimpArgs false
set_option maxRecDepth 20000
abbrev Ver := S_chain_version_api_Agg
theorem ver_len (x : Ver) : x.cells.length = 6 := rfl
def Ch (h : H) (p : Nat) (L : List Ver) (B : Option Nat) : Prop :=
  ∃ s : Sl, Blk h p #[s.enc] tn_chain_Chain_api_Agg ∧ Owns h s tn_chain_version_api_Agg 6 (L.flatMap (·.cells)) ∧ s.blk = B ∧ B ≠ some p
theorem Ch.len {h : H} {s : Sl} {L : List Ver} (o : Owns h s tn_chain_version_api_Agg 6 (L.flatMap (·.cells))) : s.len = L.length := by
  have := o.1
  rw [flat_len _ 6 ver_len] at this
  omega
theorem Ch.at {h : H} {s : Sl} {L : List Ver} (o : Owns h s tn_chain_version_api_Agg 6 (L.flatMap (·.cells))) {i : Nat} {x : Ver} (hx : L[i]? = some x) :
    ∃ b, s.ptr = some ⟨b, 0, none⟩ ∧ cellH h ⟨b, i * 6, none⟩ = some (.int .i64 x.epoch) ∧ Cells h ⟨b, i * 6 + 1, none⟩ x.value.cells ∧ cellH h ⟨b, i * 6 + 5, none⟩ = some (.bool x.dead) ∧ Cells h ⟨b, i * 6, none⟩ x.cells := by
  obtain ⟨b, h1, h2⟩ := own_at (f := fun x : Ver => x.cells) ver_len (by omega) o hx
  have e : ∀ j v, x.cells[j]? = some v -> cellH h ⟨b, i * 6 + j, none⟩ = some v := fun j v hv => by
    have := h2 j v hv
    rwa [add_lit] at this
  refine ⟨b, h1, e 0 _ rfl, fun j v hv => ?_, e 5 _ rfl, h2⟩
  rw [add_lit]
  match j, hv with
  | 0, hv => exact e 1 v hv
  | 1, hv => exact e 2 v hv
  | 2, hv => exact e 3 v hv
  | 3, hv => exact e 4 v hv
  | j + 4, hv => simp [S_api_Agg.cells] at hv
theorem Ch.only {S : Nat -> Prop} {h h' : H} {p : Nat} {L : List Ver} {B : Option Nat} (c : Ch h p L B) (o : Only S h h') (hp : ¬ S p) (hB : ∀ b, B = some b -> ¬ S b) : Ch h' p L B := by
  obtain ⟨s, h1, h2, h3, h4⟩ := c
  exact ⟨s, o.block h1 hp, h2.only o (by rw [h3]; exact hB), h3, h4⟩
theorem Ch.ext {h h' : H} {p : Nat} {L : List Ver} {B : Option Nat} (c : Ch h p L B) (o : Ext h h') : Ch h' p L B := c.only o (fun f => f) fun _ _ f => f
theorem Ch.lt {h : H} {p : Nat} {L : List Ver} {B : Option Nat} (c : Ch h p L B) : p < h.size := by obtain ⟨s, h1, _⟩ := c; exact block_lt h1
theorem Ch.ltB {h : H} {p : Nat} {L : List Ver} {B : Option Nat} (c : Ch h p L B) : ∀ b, B = some b -> b < h.size := fun b hb => by
  obtain ⟨s, h1, h2, h3, _⟩ := c; exact h2.blk_lt (by rw [h3]; exact hb)
def lastE (L : List Ver) : Int := match L.getLast? with | some x => x.epoch | none => 0
def mayM (L : List Ver) (e : Int) : Int := if e < 1 ∨ e > 1099511627776 then 1 else if L ≠ [] ∧ e < lastE L then 32 else 0
def layM (L : List Ver) (x : Ver) : List Ver := if L ≠ [] ∧ lastE L = x.epoch then L.dropLast ++ [x] else L ++ [x]
def layN (L : List Ver) (x : Ver) : Int := if L ≠ [] ∧ lastE L = x.epoch then 0 else 1
theorem last_get {L : List Ver} (h : L ≠ []) : L[L.length - 1]? = some (L.getLast h) := by
  rw [← List.getLast?_eq_getElem?, List.getLast?_eq_some_getLast h]
theorem New_spec {h : H} {Q : Option Addr -> H -> Prop} (k : ∀ p h', p = h.size -> Ch h' p [] none -> Ext h h' -> Q (some ⟨p, 0, none⟩) h') : F.xdd h Q := by
  unfold F.xdd
  refine new_of fun n h' e1 e2 e3 e4 => k n h' e1 ⟨⟨none, 0, 0⟩, e2, Owns.nil _ _ _, rfl, by simp⟩ e3
theorem may_spec {h : H} {p : Nat} {L : List Ver} {B : Option Nat} {e : Int} {Q : Int -> H -> Prop} (c : Ch h p L B) (hL : L.length < 4294967296) (k : Q (mayM L e) h) : F.xbi (some ⟨p, 0, none⟩) e h Q := by
  obtain ⟨s, hb, ho, hB, hne⟩ := c
  have hl := Ch.len ho
  have hc0 : cellH h ⟨p, 0, none⟩ = some s.enc := hb.cell rfl
  unfold mayM at k
  simp only [F.xbi, F.xbi.j1, F.xbi.j2, nn_some, add_lit, Nat.add_zero, ldL_iff hc0, decide_eq_true_eq, decide_eq_false_iff_not, hl]
  refine ⟨fun g => ⟨fun _ => by rw [if_pos (.inl g)] at k; exact k, fun h => by cases h⟩, fun g => ⟨fun g2 => by rw [if_pos (.inr g2)] at k; exact k, fun g2 => ?_⟩⟩
  rw [if_neg (by omega)] at k
  by_cases hn : L = []
  · subst hn
    simp at k ⊢
    exact k
  · have hpos : 0 < L.length := List.length_pos_iff.2 hn
    obtain ⟨b, h1, h2, _⟩ := Ch.at ho (last_get hn)
    refine ⟨fun _ => ?_, fun h => by omega⟩
    refine idxA_of (i := L.length - 1) h1 (by omega) (by rw [w64 (by omega) (by omega)]; omega) ?_
    simp only [add_lit, Nat.add_zero]
    rw [ldI_iff h2]
    have hle : lastE L = (L.getLast hn).epoch := by unfold lastE; rw [List.getLast?_eq_some_getLast hn]
    rw [← hle]
    by_cases hlt : e < lastE L
    · rw [if_pos ⟨hn, hlt⟩] at k; exact ⟨fun _ => k, fun h => absurd hlt h⟩
    · rw [if_neg (fun h => hlt h.2)] at k; exact ⟨fun h => absurd h hlt, fun _ => k⟩
abbrev FP (p : Nat) (B : Option Nat) : Nat -> Prop := fun b => b = p ∨ B = some b
def Kin (n : Nat) (B B' : Option Nat) : Prop := B' = B ∨ B' = none ∨ ∃ b, B' = some b ∧ n <= b
theorem lay_spec {h : H} {p : Nat} {L : List Ver} {B : Option Nat} {x : Ver} {Q : Int -> H -> Prop} (c : Ch h p L B) (hL : L.length < 4294967296)
    (k : ∀ h' B', Ch h' p (layM L x) B' -> Only (FP p B) h h' -> Kin h.size B B' -> Q (layN L x) h') : F.xbg (some ⟨p, 0, none⟩) x h Q := by
  have hp := c.lt
  unfold F.xbg
  refine new_of fun n h1 e1 e2 e3 e4 => ?_
  have c1 := c.ext e3
  obtain ⟨s, hb, ho, hB, hne⟩ := c1
  have hl := Ch.len ho
  have hc0 : cellH h1 ⟨p, 0, none⟩ = some s.enc := hb.cell rfl
  have hx0 : cellH h1 ⟨n, 0, none⟩ = some (.int .i64 x.epoch) := e2.cell rfl
  have hxc : Cells h1 ⟨n, 0, none⟩ x.cells := fun j v hv => by rw [add_lit, Nat.zero_add]; exact e2.cell (by simpa using hv)
  -- the new version is appended
  have happ : ¬ (L ≠ [] ∧ lastE L = x.epoch) -> F.xbg.j1 Q (some ⟨p, 0, none⟩) ⟨n, 0, none⟩ h1 := fun hno => by
    unfold F.xbg.j1
    simp only [nn_some, add_lit, Nat.add_zero]
    rw [ldL_iff hc0]
    refine ⟨x, hxc, ?_⟩
    refine newL_of fun n2 h2 f1 f2 f3 f4 => ?_
    refine ⟨f3.cell hc0 (fun f => f), ?_⟩
    refine app_of (ys := x.cells) el_Slchain_version_api_Agg (ho.only f3 (fun _ _ f => f)) (blk_reads (by simpa using f2) rfl) (ones_S_chain_version_api_Agg x) (by simp only; omega) fun r h3 r1 r2 r3 r4 => ?_
    have hb3 : Blk h3 p #[s.enc] tn_chain_Chain_api_Agg := r3.block (f3.block hb (fun f => f)) (by rw [hB]; exact hne)
    refine stH_of hb3 (by simp) fun h4 g1 g2 g3 => ?_
    have hr1 : r.blk ≠ some p := by
      rcases r4 with r4 | ⟨b, r4, r5⟩
      · rw [r4, hB]; exact hne
      · rw [r4]; intro e; cases e; omega
    have hm : layM L x = L ++ [x] := if_neg hno
    have hn : layN L x = 1 := if_neg hno
    rw [← hn]
    refine k h4 r.blk ⟨r, g1, ?_, rfl, hr1⟩ ?_ ?_
    · rw [hm, List.flatMap_append]
      exact (by simpa using r1 : Owns h3 r tn_chain_version_api_Agg 6 (L.flatMap (·.cells) ++ x.cells)).only g2 (fun b hb e => hr1 (by rw [hb, e])) |> (by simpa using ·)
    · refine (((e3.only (S := FP p B)).ext f3).trans r3 fun m _ e => .inr (by rw [← hB]; exact e)).trans g2 fun m _ e => .inl e
    · rcases r4 with r4 | ⟨b, r4, r5⟩
      · exact .inl (by rw [r4, hB])
      · exact .inr (.inr ⟨b, r4, by omega⟩)
  -- the newest version is written anew
  have hset : L ≠ [] ∧ lastE L = x.epoch -> F.xbg.j2 Q (some ⟨p, 0, none⟩) ⟨n, 0, none⟩ (L.length : Int) true h1 := fun hyes => by
    have hpos : 0 < L.length := List.length_pos_iff.2 hyes.1
    obtain ⟨b, a1, a2, a3, a4, a5⟩ := Ch.at ho (last_get hyes.1)
    refine ⟨fun _ => ?_, fun h => by cases h⟩
    simp only [nn_some, add_lit, Nat.add_zero]
    rw [ldL_iff hc0]
    refine ⟨x, hxc, ?_⟩
    refine idxA_of (i := L.length - 1) a1 (by omega) (by rw [w64 (by omega) (by omega)]; omega) ?_
    have hfl := flat_len (·.cells) 6 ver_len L
    refine own_set ho a1 (by rw [hfl]; simp [S_chain_version_api_Agg.cells, S_api_Agg.cells]; omega) fun h4 g1 g2 g3 => ?_
    have hm : layM L x = L.dropLast ++ [x] := if_pos hyes
    have hn : layN L x = 0 := if_pos hyes
    rw [← hn]
    refine k h4 B ⟨s, g2.block hb (by rw [hB]; exact hne), ?_, hB, hne⟩ ((e3.only (S := FP p B)).trans g2 fun m _ e => .inr (by rw [← hB]; exact e)) (.inl rfl)
    rw [hm, List.flatMap_append]
    have e1 : (L.flatMap (·.cells)).take ((L.length - 1) * 6) = L.dropLast.flatMap (·.cells) := by
      have hd : L = L.dropLast ++ [L.getLast hyes.1] := (List.dropLast_concat_getLast hyes.1).symm
      have hdl := flat_len (·.cells) 6 ver_len L.dropLast
      rw [List.length_dropLast] at hdl
      conv => lhs; rw [hd, List.flatMap_append]
      rw [show ((L.dropLast ++ [L.getLast hyes.1]).length - 1) = L.length - 1 from by simp]
      rw [← hdl, List.take_left]
    have e2 : (L.flatMap (·.cells)).drop ((L.length - 1) * 6 + x.cells.length) = [] := by
      apply List.drop_eq_nil_of_le
      rw [hfl, ver_len]; omega
    rw [e1, e2] at g1
    simpa using g1
  simp only [nn_some, add_lit, Nat.add_zero, ldL_iff hc0, hl]
  by_cases hn : L = []
  · refine ⟨fun g => ?_, fun g => ⟨(fun h => by cases h), fun _ => happ fun h => h.1 hn⟩⟩
    rw [decide_eq_true_iff] at g; subst hn; simp at g
  · have hpos : 0 < L.length := List.length_pos_iff.2 hn
    refine ⟨fun g => ?_, fun g => by rw [decide_eq_false_iff_not] at g; omega⟩
    obtain ⟨b, a1, a2, a3, a4, a5⟩ := Ch.at ho (last_get hn)
    refine idxA_of (i := L.length - 1) a1 (by omega) (by rw [w64 (by omega) (by omega)]; omega) ?_
    simp only [add_lit, Nat.add_zero]
    rw [ldI_iff a2, ldI_iff hx0]
    have hle : lastE L = (L.getLast hn).epoch := by unfold lastE; rw [List.getLast?_eq_some_getLast hn]
    rw [← hle]
    by_cases he : lastE L = x.epoch
    · rw [show (lastE L == x.epoch) = true from by simp [he]]
      exact hset ⟨hn, he⟩
    · rw [show (lastE L == x.epoch) = false from by simp [he]]
      exact ⟨fun h => (by cases h), fun _ => happ fun h => he h.2⟩
abbrev zA : S_api_Agg := ⟨0, 0, 0, 0⟩
theorem st_agg {h : H} {n : Nat} {c d : S_api_Agg} {e : TypeId} {K : H -> Prop} (b : Blk h n c.cells.toArray e) (k : ∀ h', Blk h' n d.cells.toArray e -> Only (· = n) h h' -> h'.size = h.size -> K h') : stH h ⟨n, 0, none⟩ d.cells K := by
  refine stH_of b (Nat.le_refl 4) fun h' q1 q2 q3 => k h' ?_ q2 q3
  rw [writeA_all (by rfl)] at q1
  exact q1
theorem Kin.ge {n n' : Nat} {B B' : Option Nat} (k : Kin n' B B') (h : n <= n') : Kin n B B' := by
  rcases k with k | k | ⟨b, k, k2⟩
  · exact .inl k
  · exact .inr (.inl k)
  · exact .inr (.inr ⟨b, k, by omega⟩)
theorem Put_spec {h : H} {p : Nat} {L : List Ver} {B : Option Nat} {e : Int} {v : S_api_Agg} {Q : Int -> Int -> H -> Prop} (c : Ch h p L B) (hL : L.length < 4294967296)
    (k0 : mayM L e ≠ 0 -> ∀ h', Ext h h' -> Q 0 (mayM L e) h')
    (k1 : mayM L e = 0 -> ∀ h' B', Ch h' p (layM L ⟨e, v, false⟩) B' -> Only (FP p B) h h' -> Kin h.size B B' -> Q (layN L ⟨e, v, false⟩) 0 h') : F.xdq (some ⟨p, 0, none⟩) e v h Q := by
  unfold F.xdq
  refine new_of fun n h1 hn b1 e1 s1 => ?_
  refine may_spec (c.ext e1) hL ⟨fun g => k0 (by simpa using g) h1 e1, fun g => ⟨v, Blk.cells b1, ?_⟩⟩
  exact lay_spec (c.ext e1) hL fun h' B' q1 q2 q3 => k1 (by simpa using g) h' B' q1 ((e1.only (S := FP p B)).trans q2 fun m _ e => e) (q3.ge e1.size)
theorem Len_spec {h : H} {p : Nat} {L : List Ver} {B : Option Nat} {Q : Int -> H -> Prop} (c : Ch h p L B) (k : Q (L.length : Int) h) : F.xdb (some ⟨p, 0, none⟩) h Q := by
  obtain ⟨s, hb, ho, hB, hne⟩ := c
  have hl := Ch.len ho
  have hc0 : cellH h ⟨p, 0, none⟩ = some s.enc := hb.cell rfl
  simp only [F.xdb, nn_some, add_lit, Nat.add_zero, ldL_iff hc0, hl]
  exact k
def newestM (L : List Ver) : S_api_Agg × Int × Bool := match L.getLast? with | some x => (x.value, x.epoch, !x.dead) | none => (zA, 0, false)
theorem Newest_spec {h : H} {p : Nat} {L : List Ver} {B : Option Nat} {Q : S_api_Agg -> Int -> Bool -> H -> Prop} (c : Ch h p L B) (hL : L.length < 4294967296)
    (k : ∀ h', Ext h h' -> Q (newestM L).1 (newestM L).2.1 (newestM L).2.2 h') : F.xcg (some ⟨p, 0, none⟩) h Q := by
  unfold F.xcg
  refine new_of fun n0 h0 hn0 b0 e0 s0 => ?_
  obtain ⟨s, hb, ho, hB, hne⟩ := c.ext e0
  have hl := Ch.len ho
  have hc0 : cellH h0 ⟨p, 0, none⟩ = some s.enc := hb.cell rfl
  simp only [nn_some, add_lit, Nat.add_zero, ldL_iff hc0, hl]
  have b0' : Blk h0 n0 zA.cells.toArray tn_api_Agg := b0
  by_cases hn : L = []
  · subst hn
    refine ⟨fun _ => ⟨zA, b0'.cells, st_agg b0' fun h1 b1 o1 s1 => ⟨zA, b1.cells, ?_⟩⟩, fun g => by simp at g⟩
    exact k h1 (e0.step o1 fun m hm hb => by omega)
  · have hpos : 0 < L.length := List.length_pos_iff.2 hn
    refine ⟨fun g => by rw [beq_iff_eq] at g; omega, fun _ => ?_⟩
    obtain ⟨b, a1, a2, a3, a4, a5⟩ := Ch.at ho (last_get hn)
    refine idxA_of (i := L.length - 1) a1 (by omega) (by rw [w64 (by omega) (by omega)]; omega) ?_
    refine ⟨_, a5, ?_⟩
    refine new_of fun n h1 hn1 e2 e3 e4 => ?_
    refine ⟨a5.ext e3, e3.cell hc0 (fun f => f), e3.cell hc0 (fun f => f), ?_⟩
    refine stH_of e2 (Nat.le_refl 6) fun h2 f1 f2 f3 => ?_
    rw [writeA_all (by rfl)] at f1
    have f1c := Blk.cells f1
    simp only [add_lit, Nat.zero_add, Nat.add_zero]
    have v4 : Cells h2 ⟨n, 1, none⟩ (L.getLast hn).value.cells := fun j v hv => by
      rw [add_lit]
      have q : ∀ i, i < 4 -> ((L.getLast hn).cells)[1 + i]? = ((L.getLast hn).value.cells)[i]? := fun i hi => by
        match i, hi with
        | 0, _ => rfl
        | 1, _ => rfl
        | 2, _ => rfl
        | 3, _ => rfl
      have hj : j < 4 := (List.getElem?_eq_some_iff.1 hv).1
      have := f1c (1 + j) v (by rw [q j hj]; exact hv)
      rwa [add_lit, Nat.zero_add] at this
    have c0 : cellH h2 ⟨n, 0, none⟩ = some (.int .i64 (L.getLast hn).epoch) := f1c 0 _ rfl
    have c5 : cellH h2 ⟨n, 5, none⟩ = some (.bool (L.getLast hn).dead) := f1c 5 _ rfl
    refine ⟨_, v4, ldI_of c0 (ldB_of c5 ?_)⟩
    have n0n : n0 ≠ n := by omega
    have b2 : Blk h2 n0 zA.cells.toArray tn_api_Agg := f2.block (e3.block b0' fun f => f) n0n
    refine st_agg b2 fun h3 b3 o3 s3 => ?_
    have z : Only (· = n0) h2 h3 := o3
    refine ⟨z.cell c5 (fun h => n0n h.symm), z.cell c0 (fun h => n0n h.symm), _, b3.cells, ?_⟩
    have hle : newestM L = ((L.getLast hn).value, (L.getLast hn).epoch, !(L.getLast hn).dead) := by unfold newestM; rw [List.getLast?_eq_some_getLast hn]
    have := k h3 (((e0.trans e3).step f2 fun m hm hb => by omega).step o3 fun m hm hb => by omega)
    rw [hle] at this
    exact this
theorem Kill_spec {h : H} {p : Nat} {L : List Ver} {B : Option Nat} {e : Int} {Q : Int -> Int -> H -> Prop} (c : Ch h p L B) (hL : L.length < 4294967296)
    (k0 : mayM L e ≠ 0 -> Q 0 (mayM L e) h)
    (k2 : mayM L e = 0 -> (newestM L).2.2 = false -> ∀ h', Ext h h' -> Q 0 44 h')
    (k1 : mayM L e = 0 -> (newestM L).2.2 = true -> ∀ h' B', Ch h' p (layM L ⟨e, zA, true⟩) B' -> Only (FP p B) h h' -> Kin h.size B B' -> Q (layN L ⟨e, zA, true⟩) 0 h') : F.xdg (some ⟨p, 0, none⟩) e h Q := by
  unfold F.xdg
  refine may_spec c hL ⟨fun g => k0 (by simpa using g), fun g => Newest_spec c hL fun h1 e1 => ?_⟩
  refine new_of fun n h2 hn b2 e2 s2 => ?_
  have b2' : Blk h2 n zA.cells.toArray tn_api_Agg := b2
  refine st_agg b2' fun h3 b3 o3 s3 => ?_
  have e13 : Ext h h3 := (e1.trans e2).step o3 fun m hm hb => by have := e1.size; omega
  refine ⟨fun g2 => k2 (by simpa using g) (by simpa using g2) h3 e13, fun g2 => ?_⟩
  exact lay_spec (c.ext e13) hL fun h' B' q1 q2 q3 => k1 (by simpa using g) (by simpa using g2) h' B' q1 ((e13.only (S := FP p B)).trans q2 fun m _ e => e) (q3.ge e13.size)
abbrev Rise (L : List Ver) : Prop := L.Pairwise fun x y => x.epoch < y.epoch
def cntM (L : List Ver) (e : Int) : Nat := L.countP fun x => decide (x.epoch <= e)
theorem Rise.lt {L : List Ver} (r : Rise L) {i j : Nat} {x y : Ver} (hij : i < j) (hx : L[i]? = some x) (hy : L[j]? = some y) : x.epoch < y.epoch := by
  obtain ⟨hi, rfl⟩ := List.getElem?_eq_some_iff.1 hx
  obtain ⟨hj, rfl⟩ := List.getElem?_eq_some_iff.1 hy
  exact List.pairwise_iff_getElem.1 r i j hi hj hij
theorem cnt_eq {α : Type} (q : α -> Bool) : ∀ (L : List α) (i : Nat), i <= L.length -> (∀ t x, t < i -> L[t]? = some x -> q x = true) -> (∀ t x, i <= t -> L[t]? = some x -> q x = false) -> L.countP q = i
  | [], i, hi, _, _ => by simp at hi; simp [hi]
  | y :: r, 0, hi, h1, h2 => by
    rw [List.countP_cons, h2 0 y (by omega) rfl, cnt_eq q r 0 (by omega) (fun t x ht => by omega) (fun t x ht hx => h2 (t + 1) x (by omega) (by simpa using hx))]
    rfl
  | y :: r, i + 1, hi, h1, h2 => by
    simp at hi
    rw [List.countP_cons, h1 0 y (by omega) rfl, cnt_eq q r i hi (fun t x ht hx => h1 (t + 1) x (by omega) (by simpa using hx)) (fun t x ht hx => h2 (t + 1) x (by omega) (by simpa using hx))]
    rfl
theorem mid_eq {i j : Nat} (h : i + j < 4294967296) : IntKind.wrap .i64 (Int.fdiv (IntKind.wrap .u64 (IntKind.wrap .i64 ((i : Int) + j))) (2 ^ (min (1 : Int).toNat (IntKind.bits .u64)) : Int)) = ((i + j) / 2 : Nat) := by
  rw [w64 (n := (i : Int) + j) (by omega) (by omega)]
  have e1 : IntKind.wrap .u64 ((i : Int) + j) = ((i + j : Nat) : Int) := by
    unfold IntKind.wrap
    simp [IntKind.bits, IntKind.signed]
    omega
  rw [e1, show (2 ^ (min (1 : Int).toNat (IntKind.bits .u64)) : Int) = 2 from by simp [IntKind.bits], Int.fdiv_eq_ediv_of_nonneg _ (by omega), show (((i + j : Nat) : Int) / 2) = (((i + j) / 2 : Nat) : Int) from by omega, w64 (by omega) (by omega)]
theorem cmp_spec {h : H} {x : Ver} {e : Int} {K : Value -> H -> Prop} (k : ∀ h', Ext h h' -> K (.int .i64 (if x.epoch <= e then -1 else 1)) h') : CV PP (.func (.func no_chain_Chain_api_Agg_place_1) #[] #[]) [.agg x.cells.toArray, .int .i64 e] h K := by
  refine CV_func (fun a w => no_chain_Chain_api_Agg_place_1_call a w) ?_
  have : F.xdt x e h fun r h' => K (.int .i64 r) h' := by
    unfold F.xdt
    refine new_of fun n h1 e1 e2 e3 e4 => ?_
    simp only [add_lit, Nat.add_zero]
    rw [ldI_iff (e2.cell (v := .int .i64 x.epoch) rfl)]
    simp only [decide_eq_true_eq, decide_eq_false_iff_not]
    refine ⟨fun g => ?_, fun g => ?_⟩
    · have := k h1 e3; rw [if_pos g] at this; exact this
    · have := k h1 e3; rw [if_neg g] at this; exact this
  have := F.xdt_ok this
  simp only [List.append_toArray, Array.empty_append, Array.append_empty]
  exact this.mono fun r h' ⟨r0, e, q⟩ => by subst e; exact q
theorem bs_loop {s : Sl} {e : Int} {L : List Ver} {Q : Int -> Bool -> H -> Prop} (hr : Rise L) (hL : L.length < 1073741824) : ∀ (m i j : Nat) (h : H), Owns h s tn_chain_version_api_Agg 6 (L.flatMap (·.cells)) -> i <= j -> j <= L.length ->
    (∀ t x, t < i -> L[t]? = some x -> x.epoch <= e) -> (∀ t x, j <= t -> L[t]? = some x -> e < x.epoch) -> j - i < m -> (∀ r h', Ext h h' -> Q (cntM L e) r h') ->
    F.xcd.l1 Q m s e (.func (.func no_chain_Chain_api_Agg_place_1) #[] #[]) (L.length : Int) (i : Int) (j : Int) h
  | 0, i, j, h, _, _, _, _, _, hm, _ => by omega
  | m + 1, i, j, h, ho, hij, hj, hlo, hhi, hm, k => by
    unfold F.xcd.l1
    simp only [decide_eq_true_eq, decide_eq_false_iff_not]
    refine ⟨fun g => ⟨by omega, ?_⟩, fun g => ?_⟩
    · rw [mid_eq (by omega)]
      have hm1 : (i + j) / 2 < L.length := by omega
      obtain ⟨x, hx⟩ : ∃ x, L[(i + j) / 2]? = some x := ⟨_, List.getElem?_eq_getElem hm1⟩
      obtain ⟨b, a1, a2, a3, a4, a5⟩ := Ch.at ho hx
      have hl := Ch.len ho
      refine idxA_of (i := (i + j) / 2) a1 (by omega) rfl ?_
      refine ⟨x, a5, cmp_spec fun h' e1 => ⟨_, rfl, fun g2 => ?_, fun g2 => ?_⟩⟩
      · have hxe : x.epoch <= e := by
          by_cases hh : x.epoch <= e
          · exact hh
          · rw [if_neg hh] at g2; omega
        rw [w64 (by omega) (by omega), show (((i + j) / 2 : Nat) : Int) + 1 = (((i + j) / 2 + 1 : Nat) : Int) from by omega]
        refine bs_loop hr hL m _ j h' (ho.only e1 fun _ _ f => f) (by omega) hj (fun t y ht hy => ?_) hhi (by omega) fun r h2 e2 => k r h2 (e1.trans e2)
        by_cases ht2 : t = (i + j) / 2
        · subst ht2; rw [hx] at hy; cases hy; exact hxe
        · have := hr.lt (by omega) hy hx; omega
      · have hxe : ¬ x.epoch <= e := fun hh => by rw [if_pos hh] at g2; omega
        refine bs_loop hr hL m i _ h' (ho.only e1 fun _ _ f => f) (by omega) (by omega) hlo (fun t y ht hy => ?_) (by omega) fun r h2 e2 => k r h2 (e1.trans e2)
        by_cases ht2 : t = (i + j) / 2
        · subst ht2; rw [hx] at hy; cases hy; omega
        · have := hr.lt (show (i + j) / 2 < t by omega) hx hy; omega
    · have hij2 : i = j := by omega
      subst hij2
      have hc : cntM L e = i := cnt_eq _ L i hj (fun t x ht hx => by simpa using hlo t x ht hx) fun t x ht hx => by simpa using hhi t x ht hx
      rw [hc] at k
      refine ⟨fun g2 => ?_, fun g2 => k _ h (.refl _)⟩
      obtain ⟨x, hx⟩ : ∃ x, L[i]? = some x := ⟨_, List.getElem?_eq_getElem (by omega)⟩
      obtain ⟨b, a1, a2, a3, a4, a5⟩ := Ch.at ho hx
      have hl := Ch.len ho
      refine idxA_of (i := i) a1 (by omega) rfl ?_
      exact ⟨x, a5, cmp_spec fun h' e1 => ⟨_, rfl, k _ h' e1⟩⟩
theorem place_spec {h : H} {p : Nat} {L : List Ver} {B : Option Nat} {e : Int} {Q : Int -> H -> Prop} (c : Ch h p L B) (hr : Rise L) (hL : L.length < 1073741824)
    (k : ∀ h', Ext h h' -> Q ((cntM L e : Int) - 1) h') : F.xbz (some ⟨p, 0, none⟩) e h Q := by
  obtain ⟨s, hb, ho, hB, hne⟩ := c
  have hl := Ch.len ho
  have hc0 : cellH h ⟨p, 0, none⟩ = some s.enc := hb.cell rfl
  have hcl : cntM L e <= L.length := List.countP_le_length
  simp only [F.xbz, nn_some, add_lit, Nat.add_zero, ldL_iff hc0]
  unfold F.xcd
  refine ⟨L.length + 1, ?_⟩
  rw [hl]
  refine bs_loop hr hL _ 0 L.length h ho (by omega) (by omega) (fun t x ht => by omega) (fun t x ht hx => ?_) (by omega) fun r h' e1 => ?_
  · rw [List.getElem?_eq_none (by omega)] at hx; cases hx
  · rw [w64 (by omega) (by omega)]
    exact k h' e1
def atM (L : List Ver) (e : Int) : S_api_Agg × Bool := match (L.filter fun x => decide (x.epoch <= e)).getLast? with | some x => if x.dead then (zA, false) else (x.value, true) | none => (zA, false)
theorem rise_filter {L : List Ver} (hr : Rise L) (e : Int) : L.filter (fun x => decide (x.epoch <= e)) = L.take (cntM L e) := by
  unfold cntM
  induction L with
  | nil => rfl
  | cons y r ih =>
    have hr' := List.pairwise_cons.1 hr
    by_cases hy : y.epoch <= e
    · simp [hy, ih hr'.2]
    · have hno : ∀ x ∈ r, ¬ x.epoch <= e := fun x hx => by have := hr'.1 x hx; omega
      have h1 : r.filter (fun x => decide (x.epoch <= e)) = [] := by simp; intro x hx; have := hno x hx; omega
      have h2 : r.countP (fun x => decide (x.epoch <= e)) = 0 := by rw [List.countP_eq_length_filter, h1]; rfl
      simp [hy, h1, h2]
theorem at_last {L : List Ver} (hr : Rise L) (e : Int) : (L.filter fun x => decide (x.epoch <= e)).getLast? = if cntM L e = 0 then none else L[cntM L e - 1]? := by
  have hcl : cntM L e <= L.length := List.countP_le_length
  rw [rise_filter hr, List.getLast?_eq_getElem?, List.length_take, Nat.min_eq_left hcl]
  split
  · rename_i h0; rw [h0]; simp
  · rw [List.getElem?_take_of_lt (by omega)]
theorem At_spec {h : H} {p : Nat} {L : List Ver} {B : Option Nat} {e : Int} {Q : S_api_Agg -> Bool -> H -> Prop} (c : Ch h p L B) (hr : Rise L) (hL : L.length < 1073741824)
    (k : ∀ h', Ext h h' -> Q (atM L e).1 (atM L e).2 h') : F.xbp (some ⟨p, 0, none⟩) e h Q := by
  unfold F.xbp
  refine new_of fun n0 h0 hn0 b0 e0 s0 => ?_
  have b0' : Blk h0 n0 zA.cells.toArray tn_api_Agg := b0
  refine place_spec (c.ext e0) hr hL fun h1 e1 => ?_
  have e01 := e0.trans e1
  have b1 : Blk h1 n0 zA.cells.toArray tn_api_Agg := e1.block b0' fun f => f
  obtain ⟨s, hb, ho, hB, hne⟩ := c.ext e01
  have hl := Ch.len ho
  have hc0 : cellH h1 ⟨p, 0, none⟩ = some s.enc := hb.cell rfl
  have hcl : cntM L e <= L.length := List.countP_le_length
  have none_ : (atM L e) = (zA, false) -> F.xbp.j1 Q ⟨n0, 0, none⟩ h1 := fun hn => by
    unfold F.xbp.j1
    refine ⟨zA, b1.cells, st_agg b1 fun h2 b2 o2 s2 => ⟨zA, b2.cells, ?_⟩⟩
    have := k h2 (e01.step o2 fun m hm hb => by omega)
    rw [hn] at this; exact this
  unfold atM at none_ k
  rw [at_last hr e] at none_ k
  simp only [F.xbp.j2, nn_some, add_lit, Nat.add_zero, ldL_iff hc0, decide_eq_true_eq, decide_eq_false_iff_not]
  refine ⟨fun g => ?_, fun g => ⟨(fun h => by cases h), fun _ => none_ (by rw [if_pos (by omega)])⟩⟩
  rw [if_neg (by omega)] at none_ k
  obtain ⟨x, hx⟩ : ∃ x, L[cntM L e - 1]? = some x := ⟨_, List.getElem?_eq_getElem (by omega)⟩
  rw [hx] at none_ k
  obtain ⟨b, a1, a2, a3, a4, a5⟩ := Ch.at ho hx
  refine idxA_of (i := cntM L e - 1) a1 (by omega) (by omega) ?_
  simp only [add_lit, Nat.add_zero]
  rw [ldB_iff a4]
  cases hd : x.dead with
  | true => exact ⟨(fun h => by cases h), fun _ => none_ (by simp [hd])⟩
  | false =>
    simp only [hd] at k
    refine ⟨fun _ => ?_, (fun h => by cases h)⟩
    refine idxA_of (i := cntM L e - 1) a1 (by omega) (by omega) ?_
    rw [add_lit]
    refine ⟨x.value, a3, st_agg b1 fun h2 b2 o2 s2 => ⟨_, b2.cells, ?_⟩⟩
    exact k h2 (e01.step o2 fun m hm hb => by omega)
end Go.Proofs.YtoccbnhahaoeiaaGreat.V.C
namespace Go.Proofs.YtoccbnhahaoeiaaGreat.V
open Go
set_option linter.unusedVariables false
set_option linter.unusedSimpArgs false
theorem i64_of {n : Int} (h : (Lit.int .i64 n).wf = true) : -9223372036854775808 <= n ∧ n < 9223372036854775808 := by
  simp [Lit.wf, IntKind.min, IntKind.max, IntKind.bits, IntKind.signed] at h
  omega
end Go.Proofs.YtoccbnhahaoeiaaGreat.V
namespace Go.Proofs.YtoccbnhahaoeiaaGreat.V.C
open Go Go.Proofs.YtoccbnhahaoeiaaGreat.V
set_option linter.unusedVariables false
set_option linter.unusedSimpArgs false
set_option maxRecDepth 20000
def markM (L : List Ver) (S : List Bool) (e : Int) : List Bool := if cntM L e = 0 then S else S.set (cntM L e - 1) true
def keepM : List Ver -> List Bool -> List Ver
  | x :: r, b :: s => if b then x :: keepM r s else keepM r s
  | _, _ => []
def stayM (L : List Ver) (E : List Int) : List Bool := E.foldl (markM L) ((List.replicate L.length false).set (L.length - 1) true)
def oneM : List Ver -> List Ver
  | [x] => if x.dead then [] else [x]
  | R => R
def pruneM (L : List Ver) (E : List Int) : List Ver := oneM (keepM L (stayM L E))
theorem markM_len (L : List Ver) (S : List Bool) (e : Int) : (markM L S e).length = S.length := by unfold markM; split <;> simp
theorem stay_len (L : List Ver) : ∀ (E : List Int) (S : List Bool), (E.foldl (markM L) S).length = S.length
  | [], S => rfl
  | e :: r, S => by rw [List.foldl_cons, stay_len L r, markM_len]
theorem keep_le : ∀ (L : List Ver) (S : List Bool), (keepM L S).length <= L.length
  | [], S => by simp [keepM]
  | x :: r, [] => by simp [keepM]
  | x :: r, b :: s => by unfold keepM; have := keep_le r s; split <;> simp <;> omega
theorem keep_snoc (x : Ver) (b : Bool) : ∀ (L : List Ver) (S : List Bool), L.length = S.length -> keepM (L ++ [x]) (S ++ [b]) = keepM L S ++ (if b then [x] else [])
  | [], [], _ => by cases b <;> simp [keepM]
  | [], _ :: _, h => by simp at h
  | _ :: _, [], h => by simp at h
  | y :: r, c :: s, h => by
    have := keep_snoc x b r s (by simpa using h)
    simp only [List.cons_append, keepM, this]
    split <;> simp
theorem keep_take {L : List Ver} {S : List Bool} (hl : S.length = L.length) {i : Nat} {x : Ver} {b : Bool} (hx : L[i]? = some x) (hb : S[i]? = some b) : keepM (L.take (i + 1)) (S.take (i + 1)) = keepM (L.take i) (S.take i) ++ (if b then [x] else []) := by
  rw [List.take_add_one, List.take_add_one, hx, hb]
  exact keep_snoc x b _ _ (by simp [hl])
theorem mark_loop {p : Nat} {L : List Ver} {B : Option Nat} {held : Sl} {s6 : Sl} {sb : Nat} {E0 : List Int} {Q : Int -> H -> Prop} (hr : Rise L) (hL : L.length < 1073741824) (hE0 : E0.length < 1073741824) (hp6 : s6.ptr = some ⟨sb, 0, none⟩) (hpb : p ≠ sb) (hBb : B ≠ some sb) (hh : E0 ≠ [] -> held.blk ≠ some sb) :
    ∀ (m i : Nat) (h : H) (S : List Bool), Ch h p L B -> Owns h s6 4 1 (S.flatMap cB) -> S.length = L.length -> Reads h held 1 (E0.flatMap cI) -> i <= E0.length -> E0.length - i < m ->
    (∀ h' S', S' = (E0.drop i).foldl (markM L) S -> Ch h' p L B -> Owns h' s6 4 1 (S'.flatMap cB) -> Only (· = sb) h h' -> (nn (some ⟨p, 0, none⟩) fun a22 => ldL h' (a22.add 0) fun y24 => ∃ m, F.xam.l2 Q m (some ⟨p, 0, none⟩) (L.length : Int) s6 ⟨none, 0, 0⟩ y24 (y24.len : Int) 0 h')) ->
    F.xam.l1 Q m (some ⟨p, 0, none⟩) (L.length : Int) s6 held (E0.length : Int) (i : Int) h
  | 0, i, h, S, _, _, _, _, _, hm, _ => by omega
  | m + 1, i, h, S, c, o, hS, rd, hi, hm, k => by
    have hp := c.lt
    unfold F.xam.l1
    simp only [decide_eq_true_eq, decide_eq_false_iff_not]
    refine ⟨fun g => ?_, fun g => ?_⟩
    · have hi2 : i < E0.length := by omega
      obtain ⟨e, he⟩ : ∃ e, E0[i]? = some e := ⟨_, List.getElem?_eq_getElem hi2⟩
      obtain ⟨q, r1, r2, r3⟩ := rd_at cI_len (by omega) rd he
      have hel := rd_len cI_len (by omega) rd
      refine idxR_of (i := i) r1 (by omega) rfl ?_
      rw [ldI_iff r3.one]
      refine place_spec c hr hL fun h1 e1 => ?_
      have hd : E0.drop i = e :: E0.drop (i + 1) := by
        rw [List.drop_eq_getElem_cons hi2]
        congr 1
        obtain ⟨_, h⟩ := List.getElem?_eq_some_iff.1 he; exact h
      rw [hd, List.foldl_cons] at k
      have hw : IntKind.wrap .i64 ((i : Int) + 1) = ((i + 1 : Nat) : Int) := by rw [w64 (by omega) (by omega)]; omega
      rw [hw]
      have hcl : cntM L e <= L.length := List.countP_le_length
      refine ⟨fun g2 => ?_, fun g2 => ?_⟩
      · refine idxA_of (i := cntM L e - 1) hp6 (by rw [own_len cB_len (by omega) o]; omega) (by omega) ?_
        refine own_setAt (f := cB) (k := 1) (x := true) cB_len (o.only e1 fun _ _ f => f) hp6 (by omega) fun h2 f1 f2 f3 => ?_
        have hm2 : markM L S e = S.set (cntM L e - 1) true := by unfold markM; rw [if_neg (by omega)]
        rw [← hm2] at f1
        have f2' : Only (· = sb) h h2 := (e1.only (S := (· = sb))).trans f2 fun n _ e => by simp [Sl.blk, hp6] at e; exact e.symm
        exact mark_loop hr hL hE0 hp6 hpb hBb hh m (i + 1) h2 _ (c.only f2' hpb fun b hb e => hBb (by rw [hb, e])) f1 (by rw [markM_len]; exact hS) (rd.keep f2' fun hne b hb e => hh hne (by rw [hb, e])) (by omega) (by omega)
          fun h' S' q1 q2 q3 q4 => k h' S' q1 q2 q3 (f2'.trans q4 fun _ _ e => e)
      · have hm2 : markM L S e = S := by unfold markM; rw [if_pos (by omega)]
        rw [hm2] at k
        exact mark_loop hr hL hE0 hp6 hpb hBb hh m (i + 1) h1 _ (c.ext e1) (o.only e1 fun _ _ f => f) hS (rd.only e1 fun _ _ f => f) (by omega) (by omega)
          fun h' S' q1 q2 q3 q4 => k h' S' q1 q2 q3 ((e1.only (S := (· = sb))).trans q4 fun _ _ e => e)
    · have hd : E0.drop i = [] := List.drop_eq_nil_of_le (by omega)
      rw [hd] at k
      exact k h S rfl c o (.refl _)
theorem keep_loop {p : Nat} {L : List Ver} {s s6 : Sl} {sb n0 : Nat} {S : List Bool} {Q : Int -> H -> Prop} (hL : L.length < 1073741824) (hS : S.length = L.length) (hp6 : s6.ptr = some ⟨sb, 0, none⟩) (hs : s.blk ≠ some p) :
    ∀ (m i : Nat) (h : H) (x : Sl), Blk h p #[s.enc] tn_chain_Chain_api_Agg -> Owns h s tn_chain_version_api_Agg 6 (L.flatMap (·.cells)) -> Owns h s6 4 1 (S.flatMap cB) -> Owns h x tn_chain_version_api_Agg 6 ((keepM (L.take i) (S.take i)).flatMap (·.cells)) ->
    (∀ b, x.blk = some b -> n0 <= b) -> n0 <= h.size -> p < n0 -> (∀ b, s.blk = some b -> b < n0) -> sb < n0 -> i <= L.length -> L.length - i < m ->
    (∀ h' B', Ch h' p (oneM (keepM L S)) B' -> Only (fun b => b = p ∨ n0 <= b) h h' -> (B' = none ∨ ∃ b, B' = some b ∧ n0 <= b) -> Q ((L.length : Int) - ((oneM (keepM L S)).length : Int)) h') ->
    F.xam.l2 Q m (some ⟨p, 0, none⟩) (L.length : Int) s6 x s (L.length : Int) (i : Int) h
  | 0, i, h, x, _, _, _, _, _, _, _, _, _, _, hm, _ => by omega
  | m + 1, i, h, x, hb, ho, o6, ox, hx, hn0, hp, hs0, hsb, hi, hm, k => by
    unfold F.xam.l2
    have hl := own_len ver_len (by omega) ho
    have hl6 := own_len cB_len (by omega) o6
    simp only [decide_eq_true_eq, decide_eq_false_iff_not]
    refine ⟨fun g => ?_, fun g => ?_⟩
    · have hi2 : i < L.length := by omega
      obtain ⟨y, hy⟩ : ∃ y, L[i]? = some y := ⟨_, List.getElem?_eq_getElem hi2⟩
      obtain ⟨b, hSb⟩ : ∃ b, S[i]? = some b := ⟨_, List.getElem?_eq_getElem (by omega)⟩
      obtain ⟨bb, a1, a2⟩ := own_at ver_len (by omega) ho hy
      refine idxA_of (i := i) a1 (by omega) rfl ⟨y, a2, ?_⟩
      refine new_of fun n h1 e1 e2 e3 e4 => ?_
      refine stH_of e2 (by simp [S_chain_version_api_Agg.cells, S_api_Agg.cells]) fun h2 f1 f2 f3 => ?_
      rw [writeA_all (by simp [S_chain_version_api_Agg.cells, S_api_Agg.cells])] at f1
      have f4 : Ext h h2 := (e3.only (S := fun _ => False)).trans f2 fun m hm e => by omega
      obtain ⟨b6, c1, c2⟩ := own_at cB_len (by omega) (o6.only f4 fun _ _ f => f) hSb
      refine idxA_of (i := i) c1 (by omega) rfl ?_
      rw [ldB_iff c2.one]
      have hw : IntKind.wrap .i64 ((i : Int) + 1) = ((i + 1 : Nat) : Int) := by rw [w64 (by omega) (by omega)]; omega
      rw [hw]
      have hkt := keep_take hS hy hSb
      refine ⟨fun g2 => ?_, fun g2 => ?_⟩
      · subst g2
        refine ⟨y, fun j v hv => by rw [add_lit, Nat.zero_add]; exact f1.cell (by simpa using hv), ?_⟩
        refine newL_of fun n3 h3 g1 g2 g3 g4 => ?_
        have f5 := f4.trans g3
        have hkl : (keepM (L.take i) (S.take i)).length <= L.length := Nat.le_trans (keep_le _ _) (by rw [List.length_take]; omega)
        have hxl := own_len ver_len (by omega) ox
        refine app_of (ys := y.cells) el_Slchain_version_api_Agg (ox.only f5 (fun _ _ f => f)) (blk_reads (by simpa using g2) rfl) (ones_S_chain_version_api_Agg y) (by simp only; omega) fun r h4 r1 r2 r3 r4 => ?_
        have r3' : Only (fun b => n0 <= b) h h4 := (f5.only (S := fun b => n0 <= b)).trans r3 fun b _ e => hx b e
        have hge : h.size <= h4.size := r3'.size
        refine keep_loop (n0 := n0) hL hS hp6 hs m (i + 1) h4 r (r3'.block hb (by omega)) (ho.only r3' fun b hb e => by have := hs0 b hb; omega) (o6.only r3' fun b hb e => by simp [Sl.blk, hp6] at hb; omega) ?_ ?_ (by omega) hp hs0 hsb (by omega) (by omega) ?_
        · rw [hkt]; simpa using r1
        · intro b hb
          rcases r4 with r4 | ⟨b', r4, r5⟩
          · exact hx b (by rw [← r4]; exact hb)
          · rw [r4] at hb; cases hb
            have := f5.size; omega
        · intro h' B' q1 q2 q3
          exact k h' B' q1 ((r3'.mono fun b _ e => .inr e).trans q2 fun _ _ e => e) q3
      · subst g2
        refine keep_loop (n0 := n0) hL hS hp6 hs m (i + 1) h2 x (f4.block hb (fun f => f)) (ho.only f4 fun _ _ f => f) (o6.only f4 fun _ _ f => f) ?_ hx (by have := f4.size; omega) hp hs0 hsb (by omega) (by omega) ?_
        · rw [hkt]; simpa using ox.only f4 fun _ _ f => f
        · intro h' B' q1 q2 q3
          exact k h' B' q1 ((f4.only (S := fun b => b = p ∨ n0 <= b)).trans q2 fun _ _ e => e) q3
    · have hii : i = L.length := by omega
      subst hii
      rw [List.take_length, show L.length = S.length from hS.symm, List.take_length] at ox
      have hxl := own_len ver_len (by omega) ox
      have hkl := keep_le L S
      -- the end: what is laid
      have hend : ∀ (y : Sl) (R : List Ver), Owns h y tn_chain_version_api_Agg 6 (R.flatMap (·.cells)) -> (∀ b, y.blk = some b -> n0 <= b) -> R = (oneM (keepM L S)) -> R.length <= L.length -> F.xam.j3 Q (some ⟨p, 0, none⟩) (L.length : Int) y h := fun y R hy hyb hR hRl => by
        unfold F.xam.j3
        simp only [nn_some, add_lit, Nat.add_zero]
        have hyl := own_len ver_len (by omega) hy
        refine stH_of hb (by simp) fun h4 g1 g2 g3 => ?_
        rw [writeA_all (by simp)] at g1
        rw [hyl, w64 (by omega) (by omega)]
        have hne : y.blk ≠ some p := fun e => by have := hyb p e; omega
        rw [← hR] at k
        refine k h4 y.blk ⟨y, g1, hy.only g2 fun b hb e => hne (by rw [hb, e]), rfl, hne⟩ (g2.mono fun _ _ e => .inl e) ?_
        cases hyy : y.blk with
        | none => exact .inl rfl
        | some b => exact .inr ⟨b, rfl, hyb b hyy⟩
      rw [beq_iff_eq, beq_eq_false_iff_ne]
      unfold F.xam.j4
      refine ⟨fun g2 => ?_, fun g2 => ⟨(fun h => by cases h), fun _ => hend x _ ox hx ?_ hkl⟩⟩
      · have h1 : (keepM L S).length = 1 := by omega
        obtain ⟨y, hy⟩ := List.length_eq_one_iff.1 h1
        obtain ⟨bb, a1, a2⟩ := own_at (i := 0) (x := y) ver_len (by omega) ox (by rw [hy]; rfl)
        refine idxA_of (i := 0) a1 (by omega) rfl ?_
        have hd : cellH h ((⟨bb, 0 * 6, none⟩ : Addr).add 5) = some (.bool y.dead) := a2 5 (.bool y.dead) rfl
        rw [ldB_iff hd]
        refine ⟨fun g3 => hend _ [] (Owns.nil _ _ _) (fun b hb => by simp [Sl.blk] at hb) (by rw [hy]; simp [oneM, g3]) (by simp), fun g3 => hend x _ ox hx (by rw [hy]; simp [oneM, g3]) hkl⟩
      · unfold oneM
        split
        · rename_i y hy; rw [hy] at hxl; simp at hxl; omega
        · rfl
theorem Prune_spec {h : H} {p : Nat} {L : List Ver} {B : Option Nat} {held : Sl} {E : List Int} {Q : Int -> H -> Prop} (c : Ch h p L B) (hr : Rise L) (hL : L.length < 1073741824) (hE : E.length < 1073741824) (rd : Reads h held 1 (E.flatMap cI))
    (hlt : E ≠ [] -> ∀ b, held.blk = some b -> b < h.size)
    (k : ∀ h' B', Ch h' p (pruneM L E) B' -> Only (· = p) h h' -> Kin h.size B B' -> Q ((L.length : Int) - ((pruneM L E).length : Int)) h') : F.xam (some ⟨p, 0, none⟩) held h Q := by
  have hp := c.lt
  obtain ⟨s, hb, ho, hB, hne⟩ := id c
  have hl := own_len ver_len (by omega) ho
  have hel := rd_len cI_len (by omega) rd
  have hc0 : cellH h ⟨p, 0, none⟩ = some s.enc := hb.cell rfl
  simp only [F.xam, nn_some, add_lit, Nat.add_zero, ldL_iff hc0, hl, hel]
  rw [beq_iff_eq, beq_eq_false_iff_ne]
  refine ⟨fun g => ?_, fun g => ?_⟩
  · have hn : L = [] := List.eq_nil_of_length_eq_zero (by omega)
    subst hn
    have hpr : pruneM [] E = [] := by simp [pruneM, keepM, oneM]
    rw [hpr] at k
    exact k h B c (.refl _) (.inl rfl)
  · have hpos : 0 < L.length := by omega
    refine make_of el_Slbool (by omega) (by simp only [maxLen]; omega) fun nb h1 n1 n2 n3 => ?_
    have hblt := c.ltB
    have hg1 := n3.size
    rw [show (Value.bool false).cells = #[.bool false] from rfl, Nat.mul_one, made_one, ← flat_replicate cB false (.bool false) rfl] at n2
    refine idxA_of (i := L.length - 1) rfl (by simp only; omega) (by rw [w64 (by omega) (by omega)]; omega) ?_
    refine own_setAt (f := cB) (k := 1) (x := true) cB_len n2 rfl (by simp; omega) fun h2 f1 f2 f3 => ?_
    have f2' : Ext h h2 := (n3.only (S := fun _ => False)).trans f2 fun n hn e => by simp [Sl.blk] at e; omega
    refine ⟨E.length + 1, ?_⟩
    refine mark_loop hr hL hE rfl (by omega) (fun e => by have := hblt _ e; omega) (fun hne e => by have := hlt hne _ e; omega) _ 0 h2 _ (c.ext f2') f1 (by simp) (rd.only f2' fun _ _ f => f) (by omega) (by omega) fun h3 S' q1 q2 q3 q4 => ?_
    have q5 : Ext h h3 := (f2'.only (S := fun _ => False)).trans q4 fun n hn e => by omega
    have hb3 : Blk h3 p #[s.enc] tn_chain_Chain_api_Agg := q5.block hb (fun f => f)
    simp only [nn_some, add_lit, Nat.add_zero]
    rw [ldL_iff (hb3.cell (i := 0) rfl)]
    refine ⟨L.length + 1, ?_⟩
    rw [hl]
    have hS' : S' = stayM L E := q1
    have hsl : (stayM L E).length = L.length := by unfold stayM; rw [stay_len]; simp
    rw [hS'] at q3
    have hg3 := q5.size
    have hsb3 : nb < h3.size := q3.blk_lt (b := nb) rfl
    refine keep_loop (n0 := h3.size) hL hsl rfl (by rw [hB]; exact hne) _ 0 h3 _ hb3 (ho.only q5 fun _ _ f => f) q3 (by simpa [keepM] using Owns.nil h3 tn_chain_version_api_Agg 6) (fun b hb => by simp [Sl.blk] at hb) (Nat.le_refl _) (by omega) (fun b hb => by have := hblt b (by rw [← hB]; exact hb); omega) hsb3 (by omega) (by omega) ?_
    intro h' B' t1 t2 t3
    refine k h' B' t1 ((q5.only (S := (· = p))).trans t2 fun n hn e => by omega) ?_
    rcases t3 with t3 | ⟨b, t3, t4⟩
    · exact .inr (.inl t3)
    · exact .inr (.inr ⟨b, t3, by omega⟩)
theorem rise_sub {L R : List Ver} (hr : Rise L) (hs : R.Sublist L) : Rise R := List.Pairwise.sublist hs hr
theorem keep_sub : ∀ (L : List Ver) (S : List Bool), (keepM L S).Sublist L
  | [], S => by simp [keepM]
  | x :: r, [] => by simp [keepM]
  | x :: r, b :: s => by
    unfold keepM
    split
    · exact (keep_sub r s).cons_cons x
    · exact (keep_sub r s).cons x
theorem one_sub (R : List Ver) : (oneM R).Sublist R := by
  unfold oneM
  split
  · split <;> simp
  · simp
theorem prune_sub (L : List Ver) (E : List Int) : (pruneM L E).Sublist L := (one_sub _).trans (keep_sub _ _)
theorem mem_keep {x : Ver} : ∀ {L : List Ver} {S : List Bool} {i : Nat}, L[i]? = some x -> S[i]? = some true -> x ∈ keepM L S
  | [], S, i, h, _ => by simp at h
  | y :: r, [], i, _, h => by simp at h
  | y :: r, b :: s, 0, h1, h2 => by simp at h1 h2; subst h1; subst h2; simp [keepM]
  | y :: r, b :: s, i + 1, h1, h2 => by
    have := mem_keep (L := r) (S := s) (i := i) (by simpa using h1) (by simpa using h2)
    unfold keepM
    split
    · exact List.mem_cons_of_mem _ this
    · exact this
theorem mark_mono (L : List Ver) {i : Nat} : ∀ (E : List Int) (S : List Bool), S[i]? = some true -> (E.foldl (markM L) S)[i]? = some true
  | [], S, h => h
  | e :: r, S, h => by
    rw [List.foldl_cons]
    refine mark_mono L r _ ?_
    unfold markM
    split
    · exact h
    · have hi := (List.getElem?_eq_some_iff.1 h).1
      rw [List.getElem?_set]
      split
      · rename_i he; subst he; rw [if_pos hi]
      · exact h
theorem prune_le (L : List Ver) (E : List Int) : (pruneM L E).length <= L.length := (prune_sub L E).length_le
theorem stay_last {L : List Ver} (hn : L ≠ []) (E : List Int) : (stayM L E)[L.length - 1]? = some true := by
  have hpos : 0 < L.length := List.length_pos_iff.2 hn
  exact mark_mono L E _ (by rw [List.getElem?_set, if_pos rfl, if_pos (by simp; omega)])
theorem keep_last {L : List Ver} (hr : Rise L) (hn : L ≠ []) (E : List Int) : (keepM L (stayM L E)).getLast? = some (L.getLast hn) := by
  have hmem : L.getLast hn ∈ keepM L (stayM L E) := mem_keep (last_get hn) (stay_last hn E)
  have hk := keep_sub L (stayM L E)
  have hr2 := rise_sub hr hk
  obtain ⟨y, hy⟩ : ∃ y, (keepM L (stayM L E)).getLast? = some y := ⟨_, List.getLast?_eq_some_getLast (List.ne_nil_of_mem hmem)⟩
  rw [hy]
  obtain ⟨l, hl⟩ := List.getLast?_eq_some_iff.1 hy
  congr 1
  rw [hl] at hmem hr2
  rcases List.mem_append.1 hmem with hm | hm
  · exfalso
    have h1 := (List.pairwise_append.1 hr2).2.2 _ hm y (by simp)
    have hyL : y ∈ L := hk.subset (by rw [hl]; simp)
    have hrr : ∀ z ∈ L, z.epoch <= (L.getLast hn).epoch := fun z hz => by
      obtain ⟨i, hi, rfl⟩ := List.mem_iff_getElem.1 hz
      by_cases he : i = L.length - 1
      · have : L.getLast hn = L[i] := by rw [List.getLast_eq_getElem]; congr 1; exact he.symm
        rw [this]; exact Int.le_refl _
      · have := hr.lt (i := i) (j := L.length - 1) (by omega) (List.getElem?_eq_getElem hi) (last_get hn); omega
    have := hrr y hyL
    omega
  · simp at hm; exact hm.symm
theorem prune_last {L : List Ver} (hr : Rise L) (hn : L ≠ []) (E : List Int) : (pruneM L E = [] ∧ (L.getLast hn).dead = true) ∨ (pruneM L E).getLast? = some (L.getLast hn) := by
  have hk := keep_last hr hn E
  unfold pruneM oneM
  split
  · rename_i x hx
    rw [hx] at hk
    simp at hk
    split
    · rename_i hd; exact .inl ⟨rfl, by rw [← hk]; exact hd⟩
    · exact .inr (by simp [hk])
  · exact .inr hk
end Go.Proofs.YtoccbnhahaoeiaaGreat.V.C
namespace Go.Proofs.YtoccbnhahaoeiaaGreat.V
set_option linter.unusedVariables false
set_option linter.unusedSimpArgs false
structure Pl (α : Type) where
  is_ : Nat
  key : ByteArray
  value : α
abbrev kL (k : ByteArray) : List UInt8 := k.data.toList
theorem kL_inj {a b : ByteArray} (h : kL a = kL b) : a = b := by
  obtain ⟨x⟩ := a
  obtain ⟨y⟩ := b
  congr 1
  exact Array.toList_inj.1 h
def hashL (l : List UInt8) : Nat := l.foldl (fun h c => ((h ^^^ c.toNat) * 1099511628211) % 18446744073709551616) 14695981039346656037
def hashM (k : ByteArray) : Nat := hashL (kL k)
section
variable {α : Type}
def probe (R : List (Pl α)) (key : ByteArray) : Nat -> Nat -> Option (Nat × Bool)
  | 0, _ => none
  | f + 1, i => match R[i]? with
    | none => none
    | some p => if p.is_ = 0 then some (i, false) else if p.is_ = 1 ∧ kL p.key = kL key then some (i, true) else probe R key f ((i + 1) % R.length)
def homeM (R : List (Pl α)) (key : ByteArray) : Nat := hashM key % R.length
def findM (R : List (Pl α)) (key : ByteArray) : Option (Nat × Bool) := if R.length = 0 then some (0, false) else probe R key (R.length + 1) (homeM R key)
def dist (n h i : Nat) : Nat := if h <= i then i - h else i + n - h
theorem dist_lt {n h i : Nat} (hh : h < n) (hi : i < n) : dist n h i < n := by unfold dist; split <;> omega
theorem ring_dist {n h i : Nat} (hh : h < n) (hi : i < n) : (h + dist n h i) % n = i := by
  unfold dist
  split
  · rw [show h + (i - h) = i from by omega, Nat.mod_eq_of_lt hi]
  · rw [show h + (i + n - h) = i + n from by omega, Nat.add_mod_right, Nat.mod_eq_of_lt hi]
theorem ring_val {n h k : Nat} (hh : h < n) (hk : k < n) : (h + k) % n = if h + k < n then h + k else h + k - n := by
  split
  · rename_i g; exact Nat.mod_eq_of_lt g
  · rename_i g
    rw [show h + k = (h + k - n) + n from by omega, Nat.add_mod_right, Nat.mod_eq_of_lt (by omega)]
    omega
theorem dist_ring {n h k : Nat} (hh : h < n) (hk : k < n) : dist n h ((h + k) % n) = k := by
  rw [ring_val hh hk]; unfold dist
  split <;> split <;> omega
theorem ring_lt {n h k : Nat} (hn : 0 < n) : (h + k) % n < n := Nat.mod_lt _ hn
theorem ring_succ {n h k : Nat} : ((h + k) % n + 1) % n = (h + (k + 1)) % n := by
  rw [Nat.add_mod ((h + k) % n), Nat.mod_mod, ← Nat.add_mod, Nat.add_assoc]
def Full (R : List (Pl α)) (i : Nat) : Prop := ∃ p, R[i]? = some p ∧ p.is_ ≠ 0
def Hit (R : List (Pl α)) (key : ByteArray) (i : Nat) : Prop := ∃ p, R[i]? = some p ∧ p.is_ = 1 ∧ kL p.key = kL key
def Empty (R : List (Pl α)) (i : Nat) : Prop := ∃ p, R[i]? = some p ∧ p.is_ = 0
theorem Full.not_empty {R : List (Pl α)} {i : Nat} (h : Full R i) : ¬ Empty R i := fun ⟨q, h1, h2⟩ => by
  obtain ⟨p, h3, h4⟩ := h
  rw [h1] at h3; cases h3; exact h4 h2
theorem full_or_empty {R : List (Pl α)} {i : Nat} (h : i < R.length) : Full R i ∨ Empty R i := by
  by_cases e : R[i].is_ = 0
  · exact .inr ⟨_, List.getElem?_eq_getElem h, e⟩
  · exact .inl ⟨_, List.getElem?_eq_getElem h, e⟩
theorem Empty.lt {R : List (Pl α)} {i : Nat} (h : Empty R i) : i < R.length := by
  obtain ⟨p, h1, _⟩ := h; exact (List.getElem?_eq_some_iff.1 h1).1
theorem Hit.lt {R : List (Pl α)} {key : ByteArray} {i : Nat} (h : Hit R key i) : i < R.length := by
  obtain ⟨p, h1, _⟩ := h; exact (List.getElem?_eq_some_iff.1 h1).1
theorem probe_go {R : List (Pl α)} {key : ByteArray} {h : Nat} (hn : h < R.length) : ∀ (K f : Nat), (∀ k, k < K -> Full R ((h + k) % R.length) ∧ ¬ Hit R key ((h + k) % R.length)) -> ∀ j, j <= K -> probe R key (f + (K - j)) ((h + j) % R.length) = probe R key f ((h + K) % R.length) := by
  intro K f hk j hj
  obtain ⟨d, hd⟩ : ∃ d, K = j + d := ⟨K - j, by omega⟩
  subst hd
  induction d generalizing j with
  | zero => simp
  | succ d ih =>
    rw [show j + (d + 1) - j = d + 1 from by omega, ← Nat.add_assoc f d 1, probe]
    obtain ⟨⟨p, h1, h2⟩, h3⟩ := hk j (by omega)
    rw [h1]
    simp only [h2, if_false]
    rw [if_neg (fun hh => h3 ⟨p, h1, hh.1, hh.2⟩), ring_succ]
    have := ih (j + 1) (fun k hk2 => hk k (by omega)) (by omega)
    rw [show j + 1 + d - (j + 1) = d from by omega, show j + 1 + d = j + (d + 1) from by omega] at this
    exact this
theorem probe_hit {R : List (Pl α)} {key : ByteArray} {h K f : Nat} (hn : h < R.length) (hk : ∀ k, k < K -> Full R ((h + k) % R.length) ∧ ¬ Hit R key ((h + k) % R.length)) (hh : Hit R key ((h + K) % R.length)) (hf : K < f) : probe R key f h = some ((h + K) % R.length, true) := by
  have := probe_go hn K (f - K) hk 0 (by omega)
  rw [show f - K + (K - 0) = f from by omega, Nat.add_zero, Nat.mod_eq_of_lt hn] at this
  rw [this, show f - K = (f - K - 1) + 1 from by omega, probe]
  obtain ⟨p, h1, h2, h3⟩ := hh
  rw [h1]
  simp [h2, h3]
theorem probe_miss {R : List (Pl α)} {key : ByteArray} {h K f : Nat} (hn : h < R.length) (hk : ∀ k, k < K -> Full R ((h + k) % R.length) ∧ ¬ Hit R key ((h + k) % R.length)) (hh : Empty R ((h + K) % R.length)) (hf : K < f) : probe R key f h = some ((h + K) % R.length, false) := by
  have := probe_go hn K (f - K) hk 0 (by omega)
  rw [show f - K + (K - 0) = f from by omega, Nat.add_zero, Nat.mod_eq_of_lt hn] at this
  rw [this, show f - K = (f - K - 1) + 1 from by omega, probe]
  obtain ⟨p, h1, h2⟩ := hh
  rw [h1]
  simp [h2]
theorem least {P : Nat -> Prop} : ∀ m, (∃ k, k < m ∧ P k) -> ∃ k, k < m ∧ P k ∧ ∀ j, j < k -> ¬ P j
  | 0, ⟨k, h, _⟩ => by omega
  | m + 1, ⟨k, h, hp⟩ => by
    by_cases e : ∃ k, k < m ∧ P k
    · obtain ⟨k, h1, h2, h3⟩ := least m e
      exact ⟨k, by omega, h2, h3⟩
    · exact ⟨k, h, hp, fun j hj hpj => e ⟨j, by omega, hpj⟩⟩
def Chain (R : List (Pl α)) (key : ByteArray) (i : Nat) : Prop := ∀ k, k < dist R.length (homeM R key) i -> Full R ((homeM R key + k) % R.length)
theorem home_lt {R : List (Pl α)} {key : ByteArray} (h : 0 < R.length) : homeM R key < R.length := Nat.mod_lt _ h
theorem find_hit {R : List (Pl α)} {key : ByteArray} {i : Nat} (hh : Hit R key i) (hc : Chain R key i) (hu : ∀ j, Hit R key j -> j = i) : findM R key = some (i, true) := by
  have hlt := hh.lt
  have hn : 0 < R.length := by omega
  have hm := home_lt (R := R) (key := key) hn
  unfold findM
  rw [if_neg (by omega)]
  have hr := ring_dist hm hlt
  have hd := dist_lt hm hlt
  rw [probe_hit (K := dist R.length (homeM R key) i) hm (fun k hk => ⟨hc k hk, fun hk2 => ?_⟩) (by rw [hr]; exact hh) (by omega), hr]
  have := hu _ hk2
  have h2 := dist_ring hm (show k < R.length by omega)
  rw [this] at h2; omega
theorem find_miss {R : List (Pl α)} {key : ByteArray} (hn : ∀ j, ¬ Hit R key j) (hr : ∃ i, Empty R i) : ∃ i, findM R key = some (i, false) ∧ Empty R i ∧ Chain R key i := by
  obtain ⟨e, he⟩ := hr
  have hlt := he.lt
  have hm := home_lt (R := R) (key := key) (by omega)
  obtain ⟨K, h1, h2, h3⟩ := least (P := fun k => Empty R ((homeM R key + k) % R.length)) R.length ⟨dist R.length (homeM R key) e, dist_lt hm hlt, by rw [ring_dist hm hlt]; exact he⟩
  have full : ∀ k, k < K -> Full R ((homeM R key + k) % R.length) := fun k hk => (full_or_empty (ring_lt (by omega))).resolve_right (h3 k hk)
  refine ⟨(homeM R key + K) % R.length, ?_, h2, fun k hk => ?_⟩
  · unfold findM
    rw [if_neg (by omega)]
    exact probe_miss hm (fun k hk => ⟨full k hk, hn _⟩) h2 (by omega)
  · rw [dist_ring hm h1] at hk; exact full k hk
theorem find_nil {key : ByteArray} : findM ([] : List (Pl α)) key = some (0, false) := rfl
structure RowOk (R : List (Pl α)) : Prop where
  chain : ∀ (i : Nat) (p : Pl α), R[i]? = some p -> p.is_ = 1 -> Chain R p.key i
  uniq : ∀ (i j : Nat) (p q : Pl α), R[i]? = some p -> R[j]? = some q -> p.is_ = 1 -> q.is_ = 1 -> kL p.key = kL q.key -> i = j
theorem RowOk.hit {R : List (Pl α)} (r : RowOk R) {key : ByteArray} {i : Nat} (h : Hit R key i) : findM R key = some (i, true) := by
  obtain ⟨p, h1, h2, h3⟩ := h
  have hk := kL_inj h3
  refine find_hit ⟨p, h1, h2, h3⟩ (by rw [← hk]; exact r.chain i p h1 h2) fun j ⟨q, g1, g2, g3⟩ => r.uniq j i q p g1 h1 g2 h2 (g3.trans h3.symm)
theorem set_full {R : List (Pl α)} {i j : Nat} {p : Pl α} (h : Full R j) (hp : p.is_ ≠ 0) : Full (R.set i p) j := by
  obtain ⟨q, h1, h2⟩ := h
  by_cases e : i = j
  · subst e; exact ⟨p, by rw [List.getElem?_set, if_pos rfl, if_pos (List.getElem?_eq_some_iff.1 h1).1], hp⟩
  · exact ⟨q, by rw [List.getElem?_set, if_neg e]; exact h1, h2⟩
theorem set_chain {R : List (Pl α)} {i j : Nat} {p : Pl α} {key : ByteArray} (h : Chain R key j) (hp : p.is_ ≠ 0) : Chain (R.set i p) key j := by
  unfold Chain homeM at *
  rw [List.length_set]
  exact fun k hk => set_full (h k hk) hp
theorem set_get {R : List (Pl α)} {i j : Nat} {p q : Pl α} (h : (R.set i p)[j]? = some q) : (i = j ∧ q = p ∧ i < R.length) ∨ (i ≠ j ∧ R[j]? = some q) := by
  rw [List.getElem?_set] at h
  split at h
  · rename_i e
    split at h
    · exact .inl ⟨e, (Option.some.inj h).symm, by assumption⟩
    · cases h
  · rename_i e; exact .inr ⟨e, h⟩
theorem RowOk.put {R : List (Pl α)} (r : RowOk R) {p : Pl α} {i : Nat} (h1 : p.is_ = 1) (hc : Chain R p.key i) (hn : ∀ j, ¬ Hit R p.key j) : RowOk (R.set i p) := by
  refine ⟨fun j q hq hq1 => ?_, fun j k q s hq hs hq1 hs1 he => ?_⟩
  · rcases set_get hq with ⟨rfl, rfl, _⟩ | ⟨_, hq⟩
    · exact set_chain hc (by omega)
    · exact set_chain (r.chain j q hq hq1) (by omega)
  · rcases set_get hq with ⟨rfl, rfl, _⟩ | ⟨_, gq⟩
    · rcases set_get hs with ⟨rfl, _, _⟩ | ⟨_, gs⟩
      · rfl
      · exact absurd ⟨s, gs, hs1, he.symm⟩ (hn k)
    · rcases set_get hs with ⟨rfl, rfl, _⟩ | ⟨_, gs⟩
      · exact absurd ⟨q, gq, hq1, he⟩ (hn j)
      · exact r.uniq j k q s gq gs hq1 hs1 he
theorem RowOk.anew {R : List (Pl α)} (r : RowOk R) {p q : Pl α} {i : Nat} (h0 : R[i]? = some p) (hp : p.is_ = 1) (h1 : q.is_ = 1) (hk : kL q.key = kL p.key) : RowOk (R.set i q) := by
  have hk' := kL_inj hk
  refine ⟨fun j s hs hs1 => ?_, fun j k s t hs ht hs1 ht1 he => ?_⟩
  · rcases set_get hs with ⟨rfl, rfl, _⟩ | ⟨_, hs⟩
    · rw [hk']; exact set_chain (r.chain i p h0 hp) (by omega)
    · exact set_chain (r.chain j s hs hs1) (by omega)
  · rcases set_get hs with ⟨rfl, rfl, _⟩ | ⟨_, gs⟩
    · rcases set_get ht with ⟨rfl, _, _⟩ | ⟨_, gt⟩
      · rfl
      · exact r.uniq i k p t h0 gt hp ht1 (hk.symm.trans he)
    · rcases set_get ht with ⟨rfl, rfl, _⟩ | ⟨_, gt⟩
      · exact r.uniq j i s p gs h0 hs1 hp (he.trans hk)
      · exact r.uniq j k s t gs gt hs1 ht1 he
theorem RowOk.gone {R : List (Pl α)} (r : RowOk R) {q : Pl α} {i : Nat} (h1 : q.is_ ≠ 1) (h0 : q.is_ ≠ 0) : RowOk (R.set i q) := by
  refine ⟨fun j s hs hs1 => ?_, fun j k s t hs ht hs1 ht1 he => ?_⟩
  · rcases set_get hs with ⟨rfl, rfl, _⟩ | ⟨_, hs⟩
    · exact absurd hs1 h1
    · exact set_chain (r.chain j s hs hs1) h0
  · rcases set_get hs with ⟨rfl, rfl, _⟩ | ⟨_, hs⟩
    · exact absurd hs1 h1
    · rcases set_get ht with ⟨rfl, rfl, _⟩ | ⟨_, ht⟩
      · exact absurd ht1 h1
      · exact r.uniq j k s t hs ht hs1 ht1 he
def cntT (R : List (Pl α)) : Nat := R.countP fun p => decide (p.is_ = 1)
theorem cntT_set : ∀ (R : List (Pl α)) (i : Nat) (p q : Pl α), R[i]? = some q -> cntT (R.set i p) + (if q.is_ = 1 then 1 else 0) = cntT R + (if p.is_ = 1 then 1 else 0)
  | [], i, p, q, h => by simp at h
  | x :: r, 0, p, q, h => by
    simp at h; subst h
    simp only [List.set_cons_zero, cntT, List.countP_cons]
    by_cases h1 : x.is_ = 1 <;> by_cases h2 : p.is_ = 1 <;> simp [h1, h2]
  | x :: r, i + 1, p, q, h => by
    have := cntT_set r i p q (by simpa using h)
    simp only [List.set_cons_succ, cntT, List.countP_cons] at *
    omega
theorem room_of {R : List (Pl α)} (h01 : ∀ p ∈ R, p.is_ <= 1) (h : cntT R < R.length) : ∃ i, Empty R i := by
  apply Classical.byContradiction
  intro hn
  have : cntT R = R.length := by
    unfold cntT
    rw [List.countP_eq_length]
    intro p hp
    obtain ⟨i, hi, rfl⟩ := List.mem_iff_getElem.1 hp
    have := h01 _ hp
    have : ¬ R[i].is_ = 0 := fun e => hn ⟨i, _, List.getElem?_eq_getElem hi, e⟩
    simp; omega
  omega
def valOf (R : List (Pl α)) (key : ByteArray) : Option α := (R.find? fun p => decide (p.is_ = 1 ∧ kL p.key = kL key)).map (·.value)
theorem valOf_hit {R : List (Pl α)} (r : RowOk R) {key : ByteArray} {i : Nat} {p : Pl α} (h0 : R[i]? = some p) (h1 : p.is_ = 1) (h2 : kL p.key = kL key) : valOf R key = some p.value := by
  unfold valOf
  cases hf : R.find? fun p => decide (p.is_ = 1 ∧ kL p.key = kL key) with
  | none =>
    rw [List.find?_eq_none] at hf
    have := hf p (List.mem_of_getElem? h0)
    simp [h1, h2] at this
  | some q =>
    have hq : q.is_ = 1 ∧ kL q.key = kL key := by simpa only [decide_eq_true_eq] using List.find?_some hf
    have hm := List.mem_of_find?_eq_some hf
    obtain ⟨j, hj⟩ := List.mem_iff_getElem?.1 hm
    have := r.uniq j i q p hj h0 hq.1 h1 (by rw [hq.2]; exact h2.symm)
    subst this
    rw [h0] at hj; cases hj; rfl
theorem valOf_none {R : List (Pl α)} {key : ByteArray} (h : ∀ j, ¬ Hit R key j) : valOf R key = none := by
  unfold valOf
  rw [Option.map_eq_none_iff, List.find?_eq_none]
  intro p hp
  obtain ⟨j, hj⟩ := List.mem_iff_getElem?.1 hp
  intro hh
  simp only [decide_eq_true_eq] at hh
  exact h j ⟨p, hj, hh.1, hh.2⟩
theorem valOf_some {R : List (Pl α)} {key : ByteArray} {v : α} (h : valOf R key = some v) : ∃ (i : Nat) (p : Pl α), R[i]? = some p ∧ p.is_ = 1 ∧ kL p.key = kL key ∧ p.value = v := by
  unfold valOf at h
  obtain ⟨p, hp, rfl⟩ := Option.map_eq_some_iff.1 h
  have hq : p.is_ = 1 ∧ kL p.key = kL key := by simpa only [decide_eq_true_eq] using List.find?_some hp
  obtain ⟨j, hj⟩ := List.mem_iff_getElem?.1 (List.mem_of_find?_eq_some hp)
  exact ⟨j, p, hj, hq.1, hq.2, rfl⟩
theorem hit_or (R : List (Pl α)) (key : ByteArray) : (∃ i, Hit R key i) ∨ ∀ j, ¬ Hit R key j := by
  by_cases h : ∃ i, Hit R key i
  · exact .inl h
  · exact .inr fun j hj => h ⟨j, hj⟩
theorem valOf_set {R : List (Pl α)} {i : Nat} {p q : Pl α} (r' : RowOk (R.set i q)) (r : RowOk R) (h0 : R[i]? = some p) (key : ByteArray) (hp : ¬ (p.is_ = 1 ∧ kL p.key = kL key)) : valOf (R.set i q) key = if q.is_ = 1 ∧ kL q.key = kL key then some q.value else valOf R key := by
  have hi := (List.getElem?_eq_some_iff.1 h0).1
  have hg : (R.set i q)[i]? = some q := by rw [List.getElem?_set, if_pos rfl, if_pos hi]
  split
  · rename_i h; exact valOf_hit r' hg h.1 h.2
  · rename_i h
    rcases hit_or R key with ⟨j, s, g1, g2, g3⟩ | hn
    · have hij : i ≠ j := fun e => by subst e; rw [h0] at g1; cases g1; exact hp ⟨g2, g3⟩
      rw [valOf_hit r g1 g2 g3, valOf_hit r' (i := j) (by rw [List.getElem?_set, if_neg hij]; exact g1) g2 g3]
    · rw [valOf_none hn, valOf_none]
      intro j ⟨s, g1, g2, g3⟩
      rcases set_get g1 with ⟨rfl, rfl, _⟩ | ⟨_, g1⟩
      · exact h ⟨g2, g3⟩
      · exact hn j ⟨s, g1, g2, g3⟩
end
structure Tb (α : Type) where
  row : List (Pl α)
  elder : List (Pl α)
  moved : Nat
  count : Nat
section
variable {α : Type} (z : α)
def goneP : Pl α := ⟨2, ⟨#[]⟩, z⟩
def emptP : Pl α := ⟨0, ⟨#[]⟩, z⟩
def move1 (T : Tb α) : Option (Tb α) := match T.elder[T.moved]? with
  | none => none
  | some p => if p.is_ = 1 then (match findM T.row p.key with
    | none => none
    | some r => some ⟨T.row.set r.1 p, T.elder.set T.moved (goneP z), T.moved + 1, T.count⟩) else some ⟨T.row, T.elder, T.moved + 1, T.count⟩
def moveN : Nat -> Tb α -> Option (Tb α)
  | 0, T => some T
  | n + 1, T => if T.moved < T.elder.length then (match move1 z T with
    | none => none
    | some T' => moveN n T') else some T
def finT (T : Tb α) : Tb α := if T.moved = T.elder.length then ⟨T.row, [], 0, T.count⟩ else T
def moveM (T : Tb α) (n : Int) : Option (Tb α) := (moveN z n.toNat T).map finT
def leftT (T : Tb α) : Nat := T.elder.length - T.moved
def whereM (T : Tb α) (key : ByteArray) : Option (Option (Bool × Nat)) := match findM T.row key with
  | none => none
  | some (i, true) => some (some (false, i))
  | some (_, false) => match findM T.elder key with
    | none => none
    | some (i, true) => some (some (true, i))
    | some (_, false) => some none
def growT (T : Tb α) : Tb α := ⟨List.replicate (2 * T.row.length) (emptP z), T.row, 0, T.count⟩
def layP (T : Tb α) (key : ByteArray) (v : α) : Option (Tb α) := match findM T.row key with
  | none => none
  | some (i, _) => some ⟨T.row.set i ⟨1, key, v⟩, T.elder, T.moved, T.count + 1⟩
def newP (R : List (Pl α)) (i : Nat) (v : α) : List (Pl α) := match R[i]? with
  | none => R
  | some p => R.set i ⟨p.is_, p.key, v⟩
def putM' (T : Tb α) (key : ByteArray) (v : α) : Option (Tb α) := match whereM T key with
  | none => none
  | some (some (false, i)) => some ⟨newP T.row i v, T.elder, T.moved, T.count⟩
  | some (some (true, i)) => some ⟨T.row, newP T.elder i v, T.moved, T.count⟩
  | some none => if 4 * (T.count + 1) > 3 * T.row.length then (match moveM z T (T.elder.length : Int) with
      | none => none
      | some T2 => layP (growT z T2) key v) else layP T key v
def putM (T : Tb α) (key : ByteArray) (v : α) : Option (Tb α) := match moveM z T 4 with
  | none => none
  | some T1 => putM' z T1 key v
def getM (T : Tb α) (key : ByteArray) : Option α := match valOf T.row key with
  | some v => some v
  | none => valOf T.elder key
end
section
variable {α : Type} {z : α}
structure TOk (T : Tb α) : Prop where
  row : RowOk T.row
  row01 : ∀ p ∈ T.row, p.is_ <= 1
  pos : 2 <= T.row.length
  elder : RowOk T.elder
  eroom : T.elder ≠ [] -> ∃ i, Empty T.elder i
  behind : ∀ (i : Nat) (p : Pl α), i < T.moved -> T.elder[i]? = some p -> p.is_ ≠ 1
  mle : T.moved <= T.elder.length
  apart : ∀ (i j : Nat) (p q : Pl α), T.row[i]? = some p -> T.elder[j]? = some q -> p.is_ = 1 -> q.is_ = 1 -> kL p.key ≠ kL q.key
  cnt : cntT T.row + cntT T.elder = T.count
  load : leftT T + 4 * T.count <= 3 * T.row.length
def Rest (T : Tb α) : Prop := T.elder = [] ∨ T.moved < T.elder.length
theorem TOk.cnt_elder {T : Tb α} (t : TOk T) {i : Nat} {p : Pl α} (h : T.elder[i]? = some p) (h1 : p.is_ = 1) : 1 <= cntT T.elder := by
  unfold cntT
  exact List.countP_pos_iff.2 ⟨p, List.mem_of_getElem? h, by simpa using h1⟩
theorem TOk.room {T : Tb α} (t : TOk T) (h : cntT T.row < T.row.length) : ∃ i, Empty T.row i := room_of t.row01 h
theorem TOk.cnt_row {T : Tb α} (t : TOk T) : cntT T.row < T.row.length := by
  have := t.cnt
  have := t.load
  have := t.pos
  omega
theorem move1_ok {T : Tb α} (t : TOk T) (hm : T.moved < T.elder.length) : ∃ T', move1 z T = some T' ∧ TOk T' ∧ T'.moved = T.moved + 1 ∧ T'.elder.length = T.elder.length ∧ T'.row.length = T.row.length ∧ T'.count = T.count ∧ ∀ key, getM T' key = getM T key := by
  obtain ⟨p, hp⟩ : ∃ p, T.elder[T.moved]? = some p := ⟨_, List.getElem?_eq_getElem hm⟩
  unfold move1
  rw [hp]
  simp only
  have hload := t.load
  by_cases h1 : p.is_ = 1
  · rw [if_pos h1]
    have hno : ∀ j, ¬ Hit T.row p.key j := fun j ⟨q, g1, g2, g3⟩ => t.apart j T.moved q p g1 hp g2 h1 g3
    obtain ⟨i, f1, f2, f3⟩ := find_miss hno (t.room t.cnt_row)
    rw [f1]
    have hi := f2.lt
    obtain ⟨e, he1, he2⟩ := f2
    have r1 := t.row.put h1 f3 hno (i := i)
    have r2 : RowOk (T.elder.set T.moved (goneP z)) := t.elder.gone (by simp [goneP]) (by simp [goneP])
    refine ⟨_, rfl, ⟨r1, fun q hq => ?_, by simpa using t.pos, r2, fun hne => ?_, fun j q hj hq => ?_, by simp; omega, fun a b q s hq hs hq1 hs1 => ?_, ?_, ?_⟩, rfl, by simp, by simp, rfl, fun key => ?_⟩
    · obtain ⟨j, hj⟩ := List.mem_iff_getElem?.1 hq
      rcases set_get hj with ⟨_, rfl, _⟩ | ⟨_, hj⟩
      · omega
      · exact t.row01 q (List.mem_of_getElem? hj)
    · obtain ⟨j, q, g1, g2⟩ := t.eroom (fun e => by rw [e] at hm; simp at hm)
      have : T.moved ≠ j := fun e => by subst e; rw [hp] at g1; cases g1; omega
      exact ⟨j, q, by rw [List.getElem?_set, if_neg this]; exact g1, g2⟩
    · rcases set_get hq with ⟨_, rfl, _⟩ | ⟨hne, hq⟩
      · simp [goneP]
      · exact t.behind j q (by simp at hj; omega) hq
    · rcases set_get hs with ⟨_, rfl, _⟩ | ⟨hne, gs⟩
      · simp [goneP] at hs1
      · rcases set_get hq with ⟨_, rfl, _⟩ | ⟨_, gq⟩
        · exact fun e => hne (t.elder.uniq T.moved b q s hp gs hq1 hs1 e)
        · exact t.apart a b q s gq gs hq1 hs1
    · have c1 := cntT_set T.row i p e he1
      have c2 := cntT_set T.elder T.moved (goneP z) p hp
      have := t.cnt
      rw [if_pos h1, if_neg (by omega)] at c1
      rw [if_pos h1, if_neg (by simp [goneP])] at c2
      show cntT (T.row.set i p) + cntT (T.elder.set T.moved (goneP z)) = T.count
      omega
    · show (T.elder.set T.moved (goneP z)).length - (T.moved + 1) + 4 * T.count <= 3 * (T.row.set i p).length
      unfold leftT at hload
      simp; omega
    · have v1 := valOf_set r1 t.row he1 key (by omega)
      show (match valOf (T.row.set i p) key with | some v => some v | none => valOf (T.elder.set T.moved (goneP z)) key) = getM T key
      unfold getM
      by_cases hk : kL p.key = kL key
      · have hrow : valOf T.row key = none := valOf_none (R := T.row) (fun j hj => hno j (by obtain ⟨q, g1, g2, g3⟩ := hj; exact ⟨q, g1, g2, g3.trans hk.symm⟩))
        have hel : valOf T.elder key = some p.value := valOf_hit t.elder hp h1 hk
        rw [v1, if_pos ⟨h1, hk⟩, hrow, hel]
      · rw [v1, if_neg (fun h => hk h.2), valOf_set r2 t.elder hp key (fun h => hk h.2), if_neg (by simp [goneP])]
  · rw [if_neg h1]
    refine ⟨_, rfl, ⟨t.row, t.row01, t.pos, t.elder, t.eroom, fun j q hj hq => ?_, by show T.moved + 1 <= T.elder.length; omega, t.apart, t.cnt, ?_⟩, rfl, rfl, rfl, rfl, fun key => rfl⟩
    · by_cases e : j = T.moved
      · subst e; rw [hp] at hq; cases hq; exact h1
      · exact t.behind j q (by simp at hj; omega) hq
    · show T.elder.length - (T.moved + 1) + 4 * T.count <= 3 * T.row.length
      unfold leftT at hload
      omega
theorem moveN_ok : ∀ (n : Nat) {T : Tb α}, TOk T -> ∃ T', moveN z n T = some T' ∧ TOk T' ∧ leftT T' = leftT T - n ∧ T'.row.length = T.row.length ∧ T'.count = T.count ∧ ∀ key, getM T' key = getM T key
  | 0, T, t => ⟨T, rfl, t, rfl, rfl, rfl, fun _ => rfl⟩
  | n + 1, T, t => by
    unfold moveN
    by_cases hm : T.moved < T.elder.length
    · rw [if_pos hm]
      obtain ⟨T1, a1, a2, a3, a4, a5, a6, a7⟩ := move1_ok (z := z) t hm
      rw [a1]
      obtain ⟨T2, b1, b2, b3, b4, b5, b6⟩ := moveN_ok n a2
      refine ⟨T2, b1, b2, ?_, by omega, by omega, fun key => (b6 key).trans (a7 key)⟩
      unfold leftT at *; omega
    · rw [if_neg hm]
      refine ⟨T, rfl, t, ?_, rfl, rfl, fun _ => rfl⟩
      unfold leftT; omega
theorem RowOk.nil : RowOk ([] : List (Pl α)) := ⟨fun i p h => by simp at h, fun i j p q h => by simp at h⟩
theorem fin_ok {T : Tb α} (t : TOk T) : TOk (finT T) ∧ Rest (finT T) ∧ leftT (finT T) = leftT T ∧ (finT T).row = T.row ∧ (finT T).count = T.count ∧ ∀ key, getM (finT T) key = getM T key := by
  unfold finT
  by_cases h : T.moved = T.elder.length
  · rw [if_pos h]
    have hno : ∀ key j, ¬ Hit T.elder key j := fun key j ⟨q, g1, g2, g3⟩ => t.behind j q (by rw [h]; exact (List.getElem?_eq_some_iff.1 g1).1) g1 g2
    have hc : cntT T.elder = 0 := by
      unfold cntT
      rw [List.countP_eq_zero]
      intro p hp
      obtain ⟨j, hj⟩ := List.mem_iff_getElem?.1 hp
      have := t.behind j p (by rw [h]; exact (List.getElem?_eq_some_iff.1 hj).1) hj
      simpa using this
    have hload := t.load
    have hcnt := t.cnt
    refine ⟨⟨t.row, t.row01, t.pos, RowOk.nil, fun h => absurd rfl h, fun i p hi => by simp at hi, Nat.le_refl _, fun i j p q _ hq => by simp at hq, by show cntT T.row + cntT [] = _; rw [show cntT ([] : List (Pl α)) = 0 from rfl]; show _ = T.count; omega, ?_⟩, .inl rfl, ?_, rfl, rfl, fun key => ?_⟩
    · show 0 - 0 + 4 * T.count <= 3 * T.row.length
      omega
    · unfold leftT; simp; omega
    · unfold getM
      rw [valOf_none (hno key)]
      rw [valOf_none (R := []) (fun j ⟨q, g1, _⟩ => by simp at g1)]
  · rw [if_neg h]
    have := t.mle
    exact ⟨t, .inr (by omega), rfl, rfl, rfl, fun _ => rfl⟩
theorem move_ok {T : Tb α} (t : TOk T) (n : Int) : ∃ T', moveM z T n = some T' ∧ TOk T' ∧ Rest T' ∧ leftT T' = leftT T - n.toNat ∧ T'.row.length = T.row.length ∧ T'.count = T.count ∧ ∀ key, getM T' key = getM T key := by
  obtain ⟨T1, a1, a2, a3, a4, a5, a6⟩ := moveN_ok (z := z) n.toNat t
  obtain ⟨b1, b2, b3, b4, b5, b6⟩ := fin_ok a2
  refine ⟨finT T1, by unfold moveM; rw [a1]; rfl, b1, b2, by omega, by rw [b4]; exact a4, by omega, fun key => (b6 key).trans (a6 key)⟩
theorem where_ok {T : Tb α} (t : TOk T) (key : ByteArray) : (∃ i, whereM T key = some (some (false, i)) ∧ Hit T.row key i) ∨ (∃ i, whereM T key = some (some (true, i)) ∧ Hit T.elder key i ∧ ∀ j, ¬ Hit T.row key j) ∨ (whereM T key = some none ∧ (∀ j, ¬ Hit T.row key j) ∧ ∀ j, ¬ Hit T.elder key j) := by
  unfold whereM
  rcases hit_or T.row key with ⟨i, hi⟩ | hn
  · rw [t.row.hit hi]; exact .inl ⟨i, rfl, hi⟩
  · obtain ⟨i, f1, _, _⟩ := find_miss hn (t.room t.cnt_row)
    rw [f1]
    simp only
    rcases hit_or T.elder key with ⟨j, hj⟩ | hne
    · rw [t.elder.hit hj]; exact .inr (.inl ⟨j, rfl, hj, hn⟩)
    · by_cases he : T.elder = []
      · rw [he, find_nil]; exact .inr (.inr ⟨rfl, hn, fun j ⟨q, g, _⟩ => by simp at g⟩)
      · obtain ⟨j, g1, _, _⟩ := find_miss hne (t.eroom he)
        rw [g1]; exact .inr (.inr ⟨rfl, hn, hne⟩)
theorem get_row {T : Tb α} (t : TOk T) {key : ByteArray} {i : Nat} {p : Pl α} (h : T.row[i]? = some p) (h1 : p.is_ = 1) (h2 : kL p.key = kL key) : getM T key = some p.value := by
  unfold getM; rw [valOf_hit t.row h h1 h2]
theorem get_elder {T : Tb α} (t : TOk T) {key : ByteArray} {i : Nat} {p : Pl α} (hn : ∀ j, ¬ Hit T.row key j) (h : T.elder[i]? = some p) (h1 : p.is_ = 1) (h2 : kL p.key = kL key) : getM T key = some p.value := by
  unfold getM; rw [valOf_none hn, valOf_hit t.elder h h1 h2]
theorem get_none {T : Tb α} {key : ByteArray} (hn : ∀ j, ¬ Hit T.row key j) (hne : ∀ j, ¬ Hit T.elder key j) : getM T key = none := by
  unfold getM; rw [valOf_none hn, valOf_none hne]
theorem newP_eq {R : List (Pl α)} {i : Nat} {p : Pl α} {v : α} (h : R[i]? = some p) : newP R i v = R.set i ⟨p.is_, p.key, v⟩ := by unfold newP; rw [h]
theorem lay_ok {T : Tb α} (t : TOk T) (hr : Rest T) {key : ByteArray} {v : α} (hn : ∀ j, ¬ Hit T.row key j) (hne : ∀ j, ¬ Hit T.elder key j) (hl : leftT T + 4 * (T.count + 1) <= 3 * T.row.length) :
    ∃ T', layP T key v = some T' ∧ TOk T' ∧ Rest T' ∧ T'.row.length = T.row.length ∧ T'.count = T.count + 1 ∧ leftT T' = leftT T ∧ ∀ k, getM T' k = if kL k = kL key then some v else getM T k := by
  obtain ⟨i, f1, f2, f3⟩ := find_miss hn (t.room t.cnt_row)
  unfold layP
  rw [f1]
  obtain ⟨e, he1, he2⟩ := f2
  have hi := (List.getElem?_eq_some_iff.1 he1).1
  have r1 : RowOk (T.row.set i ⟨1, key, v⟩) := t.row.put rfl f3 hn
  refine ⟨_, rfl, ⟨r1, fun q hq => ?_, by simpa using t.pos, t.elder, t.eroom, t.behind, t.mle, fun a b q s hq hs hq1 hs1 => ?_, ?_, by simpa [leftT] using hl⟩, hr, by simp, rfl, rfl, fun k => ?_⟩
  · obtain ⟨j, hj⟩ := List.mem_iff_getElem?.1 hq
    rcases set_get hj with ⟨_, rfl, _⟩ | ⟨_, hj⟩
    · exact Nat.le_refl _
    · exact t.row01 q (List.mem_of_getElem? hj)
  · rcases set_get hq with ⟨_, rfl, _⟩ | ⟨_, gq⟩
    · exact fun h => hne b ⟨s, hs, hs1, h.symm⟩
    · exact t.apart a b q s gq hs hq1 hs1
  · have c1 := cntT_set T.row i ⟨1, key, v⟩ e he1
    have := t.cnt
    rw [if_neg (by omega), if_pos rfl] at c1
    show cntT (T.row.set i ⟨1, key, v⟩) + cntT T.elder = T.count + 1
    omega
  · have v1 := valOf_set r1 t.row he1 k (by omega)
    show (match valOf (T.row.set i ⟨1, key, v⟩) k with | some v => some v | none => valOf T.elder k) = _
    rw [v1]
    by_cases hk : kL k = kL key
    · rw [if_pos ⟨rfl, hk.symm⟩, if_pos hk]
    · rw [if_neg (fun h => hk h.2.symm), if_neg hk]; rfl
theorem repl_get {n i : Nat} {p q : Pl α} (h : (List.replicate n p)[i]? = some q) : q = p ∧ i < n := by
  rw [List.getElem?_replicate] at h
  split at h
  · exact ⟨(Option.some.inj h).symm, by assumption⟩
  · cases h
theorem grow_ok {T : Tb α} (t : TOk T) (he : T.elder = []) (hf : 3 * T.row.length < 4 * (T.count + 1)) : TOk (growT z T) ∧ (growT z T).row.length = 2 * T.row.length ∧ (growT z T).count = T.count ∧ leftT (growT z T) = T.row.length ∧ (∀ key, getM (growT z T) key = getM T key) ∧ ∀ key j, ¬ Hit (growT z T).row key j := by
  have hno : ∀ key j, ¬ Hit (growT z T).row key j := fun key j ⟨q, g1, g2, _⟩ => by
    obtain ⟨rfl, _⟩ := repl_get g1
    simp [emptP] at g2
  have hcnt := t.cnt
  have hload := t.load
  have hpos := t.pos
  have he0 : cntT T.elder = 0 := by rw [he]; rfl
  refine ⟨⟨⟨fun i p h h1 => ?_, fun i j p q h h2 h1 => ?_⟩, fun p hp => ?_, by show 2 <= (List.replicate _ _).length; simp; omega, t.row, fun _ => t.room t.cnt_row, fun i p hi => by simp [growT] at hi, by simp [growT], fun i j p q h h2 h1 => ?_, ?_, ?_⟩, by simp [growT], rfl, by simp [growT, leftT], fun key => ?_, hno⟩
  · obtain ⟨rfl, _⟩ := repl_get h
    simp [emptP] at h1
  · obtain ⟨rfl, _⟩ := repl_get h
    simp [emptP] at h1
  · have := List.eq_of_mem_replicate hp
    subst this; simp [emptP]
  · obtain ⟨rfl, _⟩ := repl_get h
    simp [emptP] at h1
  · have : cntT (List.replicate (2 * T.row.length) (emptP z)) = 0 := by
      unfold cntT
      rw [List.countP_eq_zero]
      intro p hp
      have := List.eq_of_mem_replicate hp
      subst this; simp [emptP]
    show cntT (List.replicate (2 * T.row.length) (emptP z)) + cntT T.row = T.count
    omega
  · show T.row.length - 0 + 4 * T.count <= 3 * (List.replicate (2 * T.row.length) (emptP z)).length
    simp; omega
  · unfold getM
    rw [valOf_none (hno key), he]
    show valOf T.row key = _
    rw [valOf_none (R := []) (fun j ⟨q, g1, _⟩ => by simp at g1)]
    cases valOf T.row key <;> rfl
theorem put'_ok {T : Tb α} (t : TOk T) (hr : Rest T) (key : ByteArray) (v : α) (hlow : leftT T + 4 * (T.count + 1) <= 3 * T.row.length ∨ (T.elder = [] ∧ 4 * (T.count + 1) > 3 * T.row.length)) :
    ∃ T', putM' z T key v = some T' ∧ TOk T' ∧ Rest T' ∧ (∀ k, getM T' k = if kL k = kL key then some v else getM T k) ∧ T'.count = T.count + (if (getM T key).isSome then 0 else 1) ∧
      ((getM T key = none ∧ 4 * (T.count + 1) > 3 * T.row.length ∧ T'.row.length = 2 * T.row.length ∧ leftT T' = T.row.length) ∨ ((getM T key).isSome = true ∨ 4 * (T.count + 1) <= 3 * T.row.length) ∧ T'.row.length = T.row.length ∧ leftT T' = leftT T) := by
  unfold putM'
  rcases where_ok t key with ⟨i, w, p, h1, h2, h3⟩ | ⟨i, w, ⟨p, h1, h2, h3⟩, hn⟩ | ⟨w, hn, hne⟩
  · rw [w]
    simp only
    rw [newP_eq h1]
    have r1 : RowOk (T.row.set i ⟨p.is_, p.key, v⟩) := t.row.anew h1 h2 h2 rfl
    have hg := get_row t h1 h2 h3
    refine ⟨_, rfl, ⟨r1, fun q hq => ?_, by simpa using t.pos, t.elder, t.eroom, t.behind, t.mle, fun a b q s hq hs hq1 hs1 => ?_, ?_, by simpa [leftT] using t.load⟩, hr, fun k => ?_, by rw [hg]; rfl, .inr ⟨.inl (by rw [hg]; rfl), by simp, rfl⟩⟩
    · obtain ⟨j, hj⟩ := List.mem_iff_getElem?.1 hq
      rcases set_get hj with ⟨_, rfl, _⟩ | ⟨_, hj⟩
      · show p.is_ <= 1; omega
      · exact t.row01 q (List.mem_of_getElem? hj)
    · rcases set_get hq with ⟨_, rfl, _⟩ | ⟨_, gq⟩
      · exact t.apart i b p s h1 hs h2 hs1
      · exact t.apart a b q s gq hs hq1 hs1
    · have c1 := cntT_set T.row i ⟨p.is_, p.key, v⟩ p h1
      have := t.cnt
      show cntT (T.row.set i ⟨p.is_, p.key, v⟩) + cntT T.elder = T.count
      simp only at c1; omega
    · show (match valOf (T.row.set i ⟨p.is_, p.key, v⟩) k with | some v => some v | none => valOf T.elder k) = _
      by_cases hk : kL k = kL key
      · rw [if_pos hk, valOf_hit r1 (i := i) (p := ⟨p.is_, p.key, v⟩) (by rw [List.getElem?_set, if_pos rfl, if_pos (List.getElem?_eq_some_iff.1 h1).1]) h2 (h3.trans hk.symm)]
      · rw [if_neg hk, valOf_set r1 t.row h1 k (fun h => hk (h.2.symm.trans h3)), if_neg (fun h => hk (h.2.symm.trans h3))]; rfl
  · rw [w]
    simp only
    rw [newP_eq h1]
    have r1 : RowOk (T.elder.set i ⟨p.is_, p.key, v⟩) := t.elder.anew h1 h2 h2 rfl
    have hg := get_elder t hn h1 h2 h3
    have hil := (List.getElem?_eq_some_iff.1 h1).1
    refine ⟨_, rfl, ⟨t.row, t.row01, t.pos, r1, fun hne => ?_, fun j q hj hq => ?_, by simpa using t.mle, fun a b q s hq hs hq1 hs1 => ?_, ?_, by simpa [leftT] using t.load⟩, ?_, fun k => ?_, by rw [hg]; rfl, .inr ⟨.inl (by rw [hg]; rfl), rfl, by simp [leftT]⟩⟩
    · obtain ⟨j, q, g1, g2⟩ := t.eroom (fun e => by rw [e] at h1; simp at h1)
      have : i ≠ j := fun e => by subst e; rw [h1] at g1; cases g1; omega
      exact ⟨j, q, by rw [List.getElem?_set, if_neg this]; exact g1, g2⟩
    · rcases set_get hq with ⟨rfl, rfl, _⟩ | ⟨_, gq⟩
      · exact t.behind i p hj h1
      · exact t.behind j q hj gq
    · rcases set_get hs with ⟨_, rfl, _⟩ | ⟨_, gs⟩
      · exact t.apart a i q p hq h1 hq1 h2
      · exact t.apart a b q s hq gs hq1 hs1
    · have c1 := cntT_set T.elder i ⟨p.is_, p.key, v⟩ p h1
      have := t.cnt
      show cntT T.row + cntT (T.elder.set i ⟨p.is_, p.key, v⟩) = T.count
      simp only at c1; omega
    · rcases hr with hr | hr
      · rw [hr] at h1; simp at h1
      · exact .inr (by simpa using hr)
    · show (match valOf T.row k with | some v => some v | none => valOf (T.elder.set i ⟨p.is_, p.key, v⟩) k) = _
      by_cases hk : kL k = kL key
      · rw [if_pos hk, valOf_none (fun j ⟨q, g1, g2, g3⟩ => hn j ⟨q, g1, g2, g3.trans hk⟩), valOf_hit r1 (i := i) (p := ⟨p.is_, p.key, v⟩) (by rw [List.getElem?_set, if_pos rfl, if_pos hil]) h2 (h3.trans hk.symm)]
      · rw [if_neg hk, valOf_set r1 t.elder h1 k (fun h => hk (h.2.symm.trans h3)), if_neg (fun h => hk (h.2.symm.trans h3))]; rfl
  · rw [w]
    have hg := get_none hn hne
    simp only
    by_cases hb : 4 * (T.count + 1) > 3 * T.row.length
    · rw [if_pos hb]
      have he : T.elder = [] := by
        rcases hlow with h | h
        · omega
        · exact h.1
      obtain ⟨T1, m1, m2, m3, m4, m5, m6, m7⟩ := move_ok (z := z) t (T.elder.length : Int)
      rw [m1]
      have he1 : T1.elder = [] := by
        rcases m3 with h | h
        · exact h
        · unfold leftT at m4
          rw [he] at m4
          simp at m4
          omega
      obtain ⟨g1, g2, g3, g4, g5, g6⟩ := grow_ok (z := z) m2 he1 (by omega)
      have hpos := t.pos
      have hld := t.load
      have hel : ∀ j, ¬ Hit (growT z T1).elder key j := fun j hj => by
        obtain ⟨q, a1, a2, a3⟩ := hj
        have : getM T1 key = some q.value := get_row m2 a1 a2 a3
        rw [m7, hg] at this; cases this
      obtain ⟨T2, l1, l2, l3, l4, l5, l6, l7⟩ := lay_ok (v := v) g1 (.inr (by show (growT z T1).moved < T1.row.length; show 0 < T1.row.length; omega)) (g6 key) hel (by rw [g2, g3, g4]; omega)
      simp only
      rw [l1]
      refine ⟨T2, rfl, l2, l3, fun k => ?_, by rw [hg, l5, g3, m6]; rfl, .inl ⟨hg, hb, by rw [l4, g2, m5], by rw [l6, g4, m5]⟩⟩
      rw [l7, g5, m7]
    · rw [if_neg hb]
      have hl : leftT T + 4 * (T.count + 1) <= 3 * T.row.length := by
        rcases hlow with h | h
        · exact h
        · omega
      obtain ⟨T2, l1, l2, l3, l4, l5, l6, l7⟩ := lay_ok (v := v) t hr hn hne hl
      exact ⟨T2, l1, l2, l3, l7, by rw [hg, l5]; rfl, .inr ⟨.inr (by omega), l4, l6⟩⟩
theorem put_ok {T : Tb α} (t : TOk T) (key : ByteArray) (v : α) :
    ∃ T', putM z T key v = some T' ∧ TOk T' ∧ Rest T' ∧ (∀ k, getM T' k = if kL k = kL key then some v else getM T k) ∧ T'.count = T.count + (if (getM T key).isSome then 0 else 1) ∧
      ((getM T key = none ∧ 4 * (T.count + 1) > 3 * T.row.length ∧ T'.row.length = 2 * T.row.length ∧ leftT T' = T.row.length ∧ leftT T < 4) ∨ ((getM T key).isSome = true ∨ 4 * (T.count + 1) <= 3 * T.row.length) ∧ T'.row.length = T.row.length ∧ leftT T' = leftT T - 4) := by
  obtain ⟨T1, m1, m2, m3, m4, m5, m6, m7⟩ := move_ok (z := z) t 4
  have hld := t.load
  have hlow : leftT T1 + 4 * (T1.count + 1) <= 3 * T1.row.length ∨ (T1.elder = [] ∧ 4 * (T1.count + 1) > 3 * T1.row.length) := by
    rw [m5, m6, m4]
    by_cases hb : 4 * (T.count + 1) > 3 * T.row.length
    · refine .inr ⟨?_, hb⟩
      rcases m3 with h | h
      · exact h
      · unfold leftT at m4; unfold leftT at hld; simp at m4; omega
    · refine .inl ?_
      simp; omega
  obtain ⟨T2, p1, p2, p3, p4, p5, p6⟩ := put'_ok (z := z) m2 m3 key v hlow
  unfold putM
  rw [m1]
  refine ⟨T2, p1, p2, p3, fun k => ?_, by rw [p5, m6, m7], ?_⟩
  · rw [p4, m7]
  · rw [m7, m6, m5, m4] at p6
    rcases p6 with ⟨a, b, c, d⟩ | ⟨a, b, c⟩
    · exact .inl ⟨a, b, c, d, by omega⟩
    · exact .inr ⟨a, b, by simpa using c⟩
def newT (z : α) : Tb α := ⟨List.replicate 8 (emptP z), [], 0, 0⟩
theorem new_ok (z : α) : TOk (newT z) ∧ Rest (newT z) ∧ ∀ key, getM (newT z) key = none := by
  have hno : ∀ key j, ¬ Hit (newT z).row key j := fun key j ⟨q, g1, g2, _⟩ => by
    obtain ⟨rfl, _⟩ := repl_get g1
    simp [emptP] at g2
  refine ⟨⟨⟨fun i p h h1 => ?_, fun i j p q h h2 h1 => ?_⟩, fun p hp => ?_, by simp [newT], RowOk.nil, fun h => absurd rfl h, fun i p hi => by simp [newT] at hi, Nat.le_refl _, fun i j p q h h2 => by simp [newT] at h2, ?_, by simp [newT, leftT]⟩, .inl rfl, fun key => get_none (hno key) fun j ⟨q, g1, _⟩ => by simp [newT] at g1⟩
  · obtain ⟨rfl, _⟩ := repl_get h
    simp [emptP] at h1
  · obtain ⟨rfl, _⟩ := repl_get h
    simp [emptP] at h1
  · have := List.eq_of_mem_replicate hp
    subst this; simp [emptP]
  · show cntT (List.replicate 8 (emptP z)) + cntT [] = 0
    rfl
end
section
variable {α : Type} (z : α)
def shiftM : Nat -> List (Pl α) -> Nat -> Nat -> Option (List (Pl α))
  | 0, _, _, _ => none
  | f + 1, R, at_, k => match R[k]? with
    | none => none
    | some p => if p.is_ = 0 then some (R.set at_ (emptP z)) else if dist R.length (homeM R p.key) k >= dist R.length at_ k then shiftM f (R.set at_ p) k ((k + 1) % R.length) else shiftM f R at_ ((k + 1) % R.length)
def dropM (T : Tb α) (key : ByteArray) : Option (Tb α × (α × Bool)) := match moveM z T 4 with
  | none => none
  | some T1 => match findM T1.elder key with
    | none => none
    | some (i, true) => (match T1.elder[i]? with
      | none => none
      | some p => some (⟨T1.row, T1.elder.set i (goneP z), T1.moved, T1.count - 1⟩, (p.value, true)))
    | some (_, false) => match findM T1.row key with
      | none => none
      | some (_, false) => some (T1, (z, false))
      | some (i, true) => match T1.row[i]? with
        | none => none
        | some p => match shiftM z (T1.row.length + 1) T1.row i ((i + 1) % T1.row.length) with
          | none => none
          | some R => some (⟨R, T1.elder, T1.moved, T1.count - 1⟩, (p.value, true))
end
section
variable {α : Type} {z : α}
theorem dist_succ {n k e : Nat} (hk : k < n) (he : e < n) (hne : k ≠ e) : dist n ((k + 1) % n) e + 1 = dist n k e := by
  rw [ring_val hk (show 1 < n by omega)]
  unfold dist
  split <;> split <;> split <;> omega
def Els (R : List (Pl α)) (a : Nat) (q : Pl α) : Prop := ∃ i, i ≠ a ∧ R[i]? = some q ∧ q.is_ = 1
structure Sh (R : List (Pl α)) (a k : Nat) : Prop where
  ha : a < R.length
  hk : k < R.length
  ne : a ≠ k
  uniq : ∀ (i j : Nat) (p q : Pl α), i ≠ a -> j ≠ a -> R[i]? = some p -> R[j]? = some q -> p.is_ = 1 -> q.is_ = 1 -> kL p.key = kL q.key -> i = j
  chain : ∀ (i : Nat) (p : Pl α), i ≠ a -> R[i]? = some p -> p.is_ = 1 -> Chain R p.key i
  full : ∀ i, i < R.length -> i ≠ a -> dist R.length a i < dist R.length a k -> Full R i
  off : ∀ (i : Nat) (p : Pl α), i ≠ a -> R[i]? = some p -> p.is_ = 1 -> dist R.length a i < dist R.length a k -> dist R.length (homeM R p.key) i < dist R.length a i
  stale : ∃ p, R[a]? = some p ∧ p.is_ = 1
  room : ∃ e, Empty R e
  r01 : ∀ p ∈ R, p.is_ <= 1
theorem home_set {R : List (Pl α)} {i : Nat} {p : Pl α} (key : ByteArray) : homeM (R.set i p) key = homeM R key := by unfold homeM; rw [List.length_set]
theorem chain_at {R : List (Pl α)} {key : ByteArray} {i j : Nat} (c : Chain R key i) (hi : i < R.length) (hj : j < R.length) (h : dist R.length (homeM R key) j < dist R.length (homeM R key) i) : Full R j := by
  have := c _ h
  rwa [ring_dist (home_lt (by omega)) hj] at this
theorem dist_meets {n h a i : Nat} (hh : h < n) (ha : a < n) (hi : i < n) (hne : a ≠ i) : dist n h i >= dist n a i ↔ dist n h a < dist n h i := by
  unfold dist
  split <;> split <;> split <;> omega
theorem dist_between {n h a k i : Nat} (hh : h < n) (ha : a < n) (hk : k < n) (hi : i < n) (h1 : dist n h a < dist n h i) (h2 : dist n a k < dist n a i) : dist n h k < dist n h i := by
  revert h1 h2
  unfold dist
  split <;> split <;> split <;> split <;> split <;> omega
theorem dist_zero {n a i : Nat} (ha : a < n) (hi : i < n) (h : dist n a i = 0) : a = i := by
  revert h; unfold dist; split <;> omega
theorem Sh.final {R : List (Pl α)} {a k : Nat} (s : Sh R a k) (hk : Empty R k) : RowOk (R.set a (emptP z)) := by
  have ha := s.ha
  have hkl := s.hk
  refine ⟨fun i p hp h1 => ?_, fun i j p q hp hq h1 h2 he => ?_⟩
  · rcases set_get hp with ⟨_, rfl, _⟩ | ⟨hne, hp⟩
    · simp [emptP] at h1
    · have hi := (List.getElem?_eq_some_iff.1 hp).1
      have c := s.chain i p (Ne.symm hne) hp h1
      have hh := home_lt (R := R) (key := p.key) (by omega)
      unfold Chain
      rw [home_set, List.length_set]
      intro x hx
      have f := c x hx
      obtain ⟨q, q1, q2⟩ := f
      have hxl : x < R.length := by have := dist_lt hh hi; omega
      have hne2 : a ≠ (homeM R p.key + x) % R.length := fun e => by
        have hd : dist R.length (homeM R p.key) a < dist R.length (homeM R p.key) i := by rw [e, dist_ring hh hxl]; exact hx
        by_cases hb : dist R.length a i < dist R.length a k
        · have := s.off i p (Ne.symm hne) hp h1 hb
          have := (dist_meets hh ha hi hne).2 hd
          omega
        · by_cases hki : k = i
          · subst hki
            obtain ⟨q', g1, g2⟩ := hk
            rw [hp] at g1; cases g1; omega
          · have hlt : dist R.length a k < dist R.length a i := by
              rcases Nat.lt_or_ge (dist R.length a k) (dist R.length a i) with h | h
              · exact h
              · exfalso
                have : dist R.length a k = dist R.length a i := by omega
                have e1 := ring_dist ha hkl
                have e2 := ring_dist ha hi
                rw [this, e2] at e1; exact hki e1.symm
            have := dist_between hh ha hkl hi hd hlt
            exact (chain_at c hi hkl this).not_empty hk
      exact ⟨q, by rw [List.getElem?_set, if_neg hne2]; exact q1, q2⟩
  · rcases set_get hp with ⟨_, rfl, _⟩ | ⟨hn1, hp⟩
    · simp [emptP] at h1
    · rcases set_get hq with ⟨_, rfl, _⟩ | ⟨hn2, hq⟩
      · simp [emptP] at h2
      · exact s.uniq i j p q (Ne.symm hn1) (Ne.symm hn2) hp hq h1 h2 he
theorem next_ne {n k e : Nat} (hk : k < n) (h : k ≠ e) (he : e < n) : (k + 1) % n ≠ k := by
  rw [ring_val hk (show 1 < n by omega)]
  split <;> omega
theorem Sh.skip {R : List (Pl α)} {a k : Nat} {p : Pl α} (s : Sh R a k) (hp : R[k]? = some p) (h1 : p.is_ = 1) (hd : dist R.length (homeM R p.key) k < dist R.length a k) : Sh R a ((k + 1) % R.length) := by
  have ha := s.ha
  have hk := s.hk
  obtain ⟨e, he⟩ := s.room
  have hel := he.lt
  obtain ⟨q, hq1, hq2⟩ := s.stale
  have hae : a ≠ e := fun h => by
    subst h; obtain ⟨q', g1, g2⟩ := he
    rw [hq1] at g1; cases g1; omega
  have hke : k ≠ e := fun h => by
    subst h; obtain ⟨q', g1, g2⟩ := he
    rw [hp] at g1; cases g1; omega
  have hnext : (k + 1) % R.length ≠ a := fun h => by
    -- then e lies nowhere
    have hf : dist R.length a e < dist R.length a k ∨ dist R.length a k < dist R.length a e := by
      rcases Nat.lt_trichotomy (dist R.length a e) (dist R.length a k) with g | g | g
      · exact .inl g
      · exfalso
        have e1 := ring_dist ha hk
        have e2 := ring_dist ha hel
        rw [← g, e2] at e1; exact hke e1.symm
      · exact .inr g
    rcases hf with hf | hf
    · exact (s.full e hel (Ne.symm hae) hf).not_empty he
    · have := dist_lt ha hel
      rw [ring_val hk (by omega)] at h
      revert hf this
      unfold dist
      split at h <;> split <;> split <;> omega
  have hdk : ∀ i, i < R.length -> i ≠ a -> dist R.length a i < dist R.length a ((k + 1) % R.length) -> i = k ∨ dist R.length a i < dist R.length a k := fun i hi hia hlt => by
    by_cases hik : i = k
    · exact .inl hik
    · right
      revert hlt
      rw [ring_val hk (by omega)] at hnext ⊢
      unfold dist
      split at hnext <;> split <;> split <;> split <;> omega
  refine ⟨ha, ring_lt (by omega), Ne.symm hnext, s.uniq, s.chain, fun i hi hia hlt => ?_, fun i q hia hq hq1 hlt => ?_, s.stale, s.room, s.r01⟩
  · rcases hdk i hi hia hlt with rfl | h
    · exact ⟨p, hp, by omega⟩
    · exact s.full i hi hia h
  · rcases hdk i (List.getElem?_eq_some_iff.1 hq).1 hia hlt with rfl | h
    · rw [hp] at hq; cases hq; exact hd
    · exact s.off i q hia hq hq1 h
theorem Sh.move {R : List (Pl α)} {a k : Nat} {p : Pl α} (s : Sh R a k) (hp : R[k]? = some p) (h1 : p.is_ = 1) (hd : dist R.length (homeM R p.key) k >= dist R.length a k) : Sh (R.set a p) k ((k + 1) % R.length) ∧ (∀ q, Els (R.set a p) k q ↔ Els R a q) ∧ cntT (R.set a p) = cntT R := by
  have ha := s.ha
  have hk := s.hk
  obtain ⟨e, he⟩ := s.room
  have hel := he.lt
  obtain ⟨q, hq1, hq2⟩ := s.stale
  have hae : a ≠ e := fun h => by
    subst h; obtain ⟨q', g1, g2⟩ := he
    rw [hq1] at g1; cases g1; omega
  have hke : k ≠ e := fun h => by
    subst h; obtain ⟨q', g1, g2⟩ := he
    rw [hp] at g1; cases g1; omega
  have hh := home_lt (R := R) (key := p.key) (by omega)
  have hat : (R.set a p)[a]? = some p := by rw [List.getElem?_set, if_pos rfl, if_pos ha]
  have hkt : (R.set a p)[k]? = some p := by rw [List.getElem?_set, if_neg s.ne]; exact hp
  refine ⟨⟨by simpa using hk, by rw [List.length_set]; exact ring_lt (by omega), Ne.symm (next_ne hk hke hel), ?_, ?_, ?_, ?_, ⟨p, hkt, h1⟩, ⟨e, ?_⟩, ?_⟩, fun x => ⟨fun ⟨i, h2, h3, h4⟩ => ?_, fun ⟨i, h2, h3, h4⟩ => ?_⟩, ?_⟩
  · intro i j x y hi hj hx hy hx1 hy1 hxy
    rcases set_get hx with ⟨gi, gx, _⟩ | ⟨gi, gx⟩
    · rcases set_get hy with ⟨gj, gy, _⟩ | ⟨gj, gy⟩
      · exact gi.symm.trans gj
      · subst gx
        exact absurd (s.uniq k j _ y (Ne.symm s.ne) (Ne.symm gj) hp gy h1 hy1 hxy).symm hj
    · rcases set_get hy with ⟨gj, gy, _⟩ | ⟨gj, gy⟩
      · subst gy
        exact absurd (s.uniq i k x _ (Ne.symm gi) (Ne.symm s.ne) gx hp hx1 h1 hxy) hi
      · exact s.uniq i j x y (Ne.symm gi) (Ne.symm gj) gx gy hx1 hy1 hxy
  · intro i x hi hx hx1
    rcases set_get hx with ⟨rfl, rfl, _⟩ | ⟨gi, hx⟩
    · refine set_chain (fun y hy => ?_) (by omega)
      have c := s.chain k x (Ne.symm s.ne) hp h1
      have := (dist_meets hh ha hk s.ne).1 hd
      exact c y (by omega)
    · exact set_chain (s.chain i x (Ne.symm gi) hx hx1) (by omega)
  · intro i hi hik hlt
    rw [List.length_set] at hi hlt
    exfalso
    revert hlt
    rw [ring_val hk (by omega)]
    unfold dist
    split <;> split <;> split <;> omega
  · intro i x hik hx hx1 hlt
    have hi := (List.getElem?_eq_some_iff.1 hx).1
    rw [List.length_set] at hi hlt
    exfalso
    revert hlt
    rw [ring_val hk (by omega)]
    unfold dist
    split <;> split <;> split <;> omega
  · obtain ⟨q', g1, g2⟩ := he
    exact ⟨q', by rw [List.getElem?_set, if_neg hae]; exact g1, g2⟩
  · intro x hx
    obtain ⟨j, hj⟩ := List.mem_iff_getElem?.1 hx
    rcases set_get hj with ⟨_, rfl, _⟩ | ⟨_, hj⟩
    · omega
    · exact s.r01 x (List.mem_of_getElem? hj)
  · rcases set_get h3 with ⟨rfl, rfl, _⟩ | ⟨gi, h3⟩
    · exact ⟨k, Ne.symm s.ne, hp, h4⟩
    · exact ⟨i, Ne.symm gi, h3, h4⟩
  · by_cases hik : i = k
    · subst hik; rw [hp] at h3; cases h3; exact ⟨a, s.ne, hat, h4⟩
    · exact ⟨i, hik, by rw [List.getElem?_set, if_neg (Ne.symm h2)]; exact h3, h4⟩
  · have := cntT_set R a p q hq1
    rw [if_pos hq2, if_pos h1] at this
    omega
theorem shift_loop : ∀ (f : Nat) (R : List (Pl α)) (a k : Nat), Sh R a k -> (∃ e, Empty R e ∧ dist R.length k e < f) -> ∃ R', shiftM z f R a k = some R' ∧ RowOk R' ∧ (∀ p ∈ R', p.is_ <= 1) ∧ R'.length = R.length ∧ cntT R' + 1 = cntT R ∧ ∀ q : Pl α, (∃ i : Nat, R'[i]? = some q ∧ q.is_ = 1) ↔ Els R a q
  | 0, R, a, k, s, ⟨e, _, h⟩ => by omega
  | f + 1, R, a, k, s, ⟨e, he, hf⟩ => by
    have hk := s.hk
    have ha := s.ha
    have hel := he.lt
    obtain ⟨p, hp⟩ : ∃ p, R[k]? = some p := ⟨_, List.getElem?_eq_getElem hk⟩
    unfold shiftM
    rw [hp]
    simp only
    by_cases h0 : p.is_ = 0
    · rw [if_pos h0]
      obtain ⟨q, hq1, hq2⟩ := s.stale
      refine ⟨_, rfl, s.final ⟨p, hp, h0⟩, fun x hx => ?_, by simp, ?_, fun x => ⟨fun ⟨i, g1, g2⟩ => ?_, fun ⟨i, g0, g1, g2⟩ => ⟨i, by rw [List.getElem?_set, if_neg (Ne.symm g0)]; exact g1, g2⟩⟩⟩
      · obtain ⟨j, hj⟩ := List.mem_iff_getElem?.1 hx
        rcases set_get hj with ⟨_, rfl, _⟩ | ⟨_, hj⟩
        · simp [emptP]
        · exact s.r01 x (List.mem_of_getElem? hj)
      · have := cntT_set R a (emptP z) q hq1
        rw [if_pos hq2, if_neg (by simp [emptP])] at this
        omega
      · rcases set_get g1 with ⟨_, rfl, _⟩ | ⟨gi, g1⟩
        · simp [emptP] at g2
        · exact ⟨i, Ne.symm gi, g1, g2⟩
    · rw [if_neg h0]
      have h1 : p.is_ = 1 := by have := s.r01 p (List.mem_of_getElem? hp); omega
      have hke : k ≠ e := fun h => by
        subst h; obtain ⟨q', g1, g2⟩ := he
        rw [hp] at g1; cases g1; omega
      have hds := dist_succ hk hel hke
      by_cases hd : dist R.length (homeM R p.key) k >= dist R.length a k
      · rw [if_pos hd]
        obtain ⟨s1, s2, s3⟩ := s.move hp h1 hd
        obtain ⟨q, hq1, hq2⟩ := s.stale
        have hae : a ≠ e := fun h => by
          subst h; obtain ⟨q', g1, g2⟩ := he
          rw [hq1] at g1; cases g1; omega
        obtain ⟨R', r1, r2, r3, r4, r5, r6⟩ := shift_loop f (R.set a p) k ((k + 1) % R.length) s1 ⟨e, by
          obtain ⟨q', g1, g2⟩ := he
          exact ⟨q', by rw [List.getElem?_set, if_neg hae]; exact g1, g2⟩, by rw [List.length_set]; omega⟩
        exact ⟨R', r1, r2, r3, by simpa using r4, by omega, fun x => (r6 x).trans (s2 x)⟩
      · rw [if_neg hd]
        exact shift_loop f R a _ (s.skip hp h1 (by omega)) ⟨e, he, by omega⟩
theorem shift_ok {R : List (Pl α)} {i : Nat} {d : Pl α} (r : RowOk R) (h01 : ∀ p ∈ R, p.is_ <= 1) (hroom : ∃ e, Empty R e) (hd : R[i]? = some d) (h1 : d.is_ = 1) :
    ∃ R', shiftM z (R.length + 1) R i ((i + 1) % R.length) = some R' ∧ RowOk R' ∧ (∀ p ∈ R', p.is_ <= 1) ∧ R'.length = R.length ∧ cntT R' + 1 = cntT R ∧ (∀ key, valOf R' key = if kL key = kL d.key then none else valOf R key) ∧
      ∀ q : Pl α, (∃ i : Nat, R'[i]? = some q ∧ q.is_ = 1) -> ∃ i : Nat, R[i]? = some q ∧ q.is_ = 1 := by
  have hi := (List.getElem?_eq_some_iff.1 hd).1
  obtain ⟨e, he⟩ := hroom
  have hel := he.lt
  have hie : i ≠ e := fun h => by
    subst h; obtain ⟨q', g1, g2⟩ := he
    rw [hd] at g1; cases g1; omega
  have hn1 : dist R.length i ((i + 1) % R.length) = 1 := by
    rw [ring_val hi (by omega)]
    unfold dist
    split <;> split <;> omega
  have s : Sh R i ((i + 1) % R.length) := ⟨hi, ring_lt (by omega), Ne.symm (next_ne hi hie hel), fun a b p q _ _ ha hb hp hq h => r.uniq a b p q ha hb hp hq h, fun a p _ hp hp1 => r.chain a p hp hp1, fun a ha hne hlt => by
      have := dist_zero hi ha (by omega)
      exact absurd this.symm hne, fun a p hne hp hp1 hlt => by
      have := dist_zero hi (List.getElem?_eq_some_iff.1 hp).1 (by omega)
      exact absurd this.symm hne, ⟨d, hd, h1⟩, ⟨e, he⟩, h01⟩
  obtain ⟨R', r1, r2, r3, r4, r5, r6⟩ := shift_loop (z := z) (R.length + 1) R i _ s ⟨e, he, by have := dist_lt (ring_lt (h := i) (k := 1) (n := R.length) (by omega)) hel; omega⟩
  refine ⟨R', r1, r2, r3, r4, r5, fun key => ?_, fun q hq => ?_⟩
  · split
    · rename_i hk
      refine valOf_none fun j ⟨q, g1, g2, g3⟩ => ?_
      obtain ⟨a, h2, h3, h4⟩ := (r6 q).1 ⟨j, g1, g2⟩
      exact h2 (r.uniq a i q d h3 hd h4 h1 (g3.trans hk))
    · rename_i hk
      cases hv : valOf R key with
      | none =>
        refine valOf_none fun j ⟨q, g1, g2, g3⟩ => ?_
        obtain ⟨a, h2, h3, h4⟩ := (r6 q).1 ⟨j, g1, g2⟩
        rw [valOf_hit r h3 h4 g3] at hv; cases hv
      | some v =>
        obtain ⟨a, q, g1, g2, g3, g4⟩ := valOf_some hv
        have hai : a ≠ i := fun h => by subst h; rw [hd] at g1; cases g1; exact hk g3.symm
        obtain ⟨b, h2, h3⟩ := (r6 q).2 ⟨a, hai, g1, g2⟩
        rw [valOf_hit r2 h2 h3 g3, g4]
  · obtain ⟨a, _, h3, h4⟩ := (r6 q).1 hq
    exact ⟨a, h3, h4⟩
theorem drop_ok {T : Tb α} (t : TOk T) (key : ByteArray) :
    ∃ T', dropM z T key = some (T', ((getM T key).getD z, (getM T key).isSome)) ∧ TOk T' ∧ Rest T' ∧ (∀ k, getM T' k = if kL k = kL key then none else getM T k) ∧ T'.count = T.count - (if (getM T key).isSome then 1 else 0) ∧ T'.row.length = T.row.length ∧ leftT T' = leftT T - 4 := by
  obtain ⟨T1, m1, m2, m3, m4, m5, m6, m7⟩ := move_ok (z := z) t 4
  unfold dropM
  rw [m1, ← m7, ← m5, ← m6]
  simp only
  have m4' : leftT T1 = leftT T - 4 := by rw [m4]; rfl
  rw [← m4']
  have back : ∀ k, getM T k = getM T1 k := fun k => (m7 k).symm
  simp only [back]
  clear m1 m7 m5 m6 m4 m4' back t
  rcases hit_or T1.elder key with ⟨i, hi⟩ | hne
  · rw [m2.elder.hit hi]
    obtain ⟨p, h1, h2, h3⟩ := hi
    simp only [h1]
    have hil := (List.getElem?_eq_some_iff.1 h1).1
    have hn : ∀ k, kL k = kL key -> ∀ j, ¬ Hit T1.row k j := fun k hk j ⟨q, g1, g2, g3⟩ => m2.apart j i q p g1 h1 g2 h2 (g3.trans (hk.trans h3.symm))
    have hg := get_elder m2 (hn key rfl) h1 h2 h3
    rw [hg]
    have r1 : RowOk (T1.elder.set i (goneP z)) := m2.elder.gone (by simp [goneP]) (by simp [goneP])
    have hc1 := m2.cnt_elder h1 h2
    have hcnt := m2.cnt
    refine ⟨_, rfl, ⟨m2.row, m2.row01, m2.pos, r1, fun hne => ?_, fun j q hj hq => ?_, by simpa using m2.mle, fun a b q s hq hs hq1 hs1 => ?_, ?_, ?_⟩, ?_, fun k => ?_, rfl, rfl, by simp [leftT]⟩
    · obtain ⟨j, q, g1, g2⟩ := m2.eroom (fun e => by rw [e] at h1; simp at h1)
      have : i ≠ j := fun e => by subst e; rw [h1] at g1; cases g1; omega
      exact ⟨j, q, by rw [List.getElem?_set, if_neg this]; exact g1, g2⟩
    · rcases set_get hq with ⟨_, rfl, _⟩ | ⟨_, gq⟩
      · simp [goneP]
      · exact m2.behind j q hj gq
    · rcases set_get hs with ⟨_, rfl, _⟩ | ⟨_, gs⟩
      · simp [goneP] at hs1
      · exact m2.apart a b q s hq gs hq1 hs1
    · have c1 := cntT_set T1.elder i (goneP z) p h1
      rw [if_pos h2, if_neg (by simp [goneP])] at c1
      show cntT T1.row + cntT (T1.elder.set i (goneP z)) = T1.count - 1
      omega
    · have := m2.load
      show (T1.elder.set i (goneP z)).length - T1.moved + 4 * (T1.count - 1) <= 3 * T1.row.length
      unfold leftT at this
      rw [List.length_set]; omega
    · rcases m3 with hr | hr
      · rw [hr] at h1; simp at h1
      · exact .inr (by simpa using hr)
    · show (match valOf T1.row k with | some v => some v | none => valOf (T1.elder.set i (goneP z)) k) = _
      by_cases hk : kL k = kL key
      · have a1 : valOf T1.row k = none := valOf_none (R := T1.row) (hn k hk)
        have a2 : valOf (T1.elder.set i (goneP z)) k = none := valOf_none (R := T1.elder.set i (goneP z)) fun j ⟨q, g1, g2, g3⟩ => by
          rcases set_get g1 with ⟨_, rfl, _⟩ | ⟨gi, g1⟩
          · simp [goneP] at g2
          · exact gi (m2.elder.uniq i j p q h1 g1 h2 g2 (h3.trans (hk.symm.trans g3.symm)))
        rw [if_pos hk, a1, a2]
      · rw [if_neg hk, valOf_set r1 m2.elder h1 k (fun h => hk (h.2.symm.trans h3)), if_neg (by simp [goneP])]; rfl
  · have hfe : ∃ i, findM T1.elder key = some (i, false) := by
      by_cases he : T1.elder = []
      · exact ⟨0, by rw [he]; rfl⟩
      · obtain ⟨j, g1, _, _⟩ := find_miss hne (m2.eroom he)
        exact ⟨j, g1⟩
    obtain ⟨j, hj⟩ := hfe
    rw [hj]
    simp only
    rcases hit_or T1.row key with ⟨i, hi⟩ | hn
    · rw [m2.row.hit hi]
      obtain ⟨p, h1, h2, h3⟩ := hi
      simp only [h1]
      obtain ⟨R', r1, r2, r3, r4, r5, r6, r7⟩ := shift_ok (z := z) m2.row m2.row01 (m2.room m2.cnt_row) h1 h2
      rw [r1]
      have hg := get_row m2 h1 h2 h3
      rw [hg]
      have hcnt := m2.cnt
      have hpos := m2.pos
      refine ⟨_, rfl, ⟨r2, r3, by show 2 <= R'.length; omega, m2.elder, m2.eroom, m2.behind, m2.mle, fun a b q s hq hs hq1 hs1 => ?_, ?_, ?_⟩, m3, fun k => ?_, rfl, r4, rfl⟩
      · obtain ⟨a', ha, hb⟩ := r7 q ⟨a, hq, hq1⟩
        exact m2.apart a' b q s ha hs hb hs1
      · show cntT R' + cntT T1.elder = T1.count - 1
        omega
      · have := m2.load
        show T1.elder.length - T1.moved + 4 * (T1.count - 1) <= 3 * R'.length
        unfold leftT at this
        omega
      · show (match valOf R' k with | some v => some v | none => valOf T1.elder k) = _
        rw [r6]
        by_cases hk : kL k = kL key
        · have a2 : valOf T1.elder k = none := valOf_none (R := T1.elder) fun j ⟨q, g1, g2, g3⟩ => hne j ⟨q, g1, g2, g3.trans hk⟩
          rw [if_pos hk, if_pos (hk.trans h3.symm), a2]
        · rw [if_neg hk, if_neg (fun h => hk (h.trans h3))]; rfl
    · obtain ⟨i, f1, _, _⟩ := find_miss hn (m2.room m2.cnt_row)
      rw [f1]
      have hg := get_none hn hne
      rw [hg]
      refine ⟨T1, rfl, m2, m3, fun k => ?_, by simp, rfl, rfl⟩
      by_cases hk : kL k = kL key
      · rw [if_pos hk]
        exact get_none (fun j ⟨q, g1, g2, g3⟩ => hn j ⟨q, g1, g2, g3.trans hk⟩) (fun j ⟨q, g1, g2, g3⟩ => hne j ⟨q, g1, g2, g3.trans hk⟩)
      · rw [if_neg hk]
end
open Go Go.Proofs
set_option maxRecDepth 100000
def srtRen : Go.Shelf.Ren := ⟨fun | 6 => 122 | 8 => 71 | 9 => 136 | 19 => 109 | 20 => 110 | 21 => 138 | 22 => 139 | 23 => 140 | 24 => 141 | 25 => 142 | 26 => 143 | 27 => 144 | 28 => 145 | 29 => 146 | 36 => 147 | 31 => 128 | 32 => 129 | 37 => 148 | 38 => 149 | 39 => 150 | 41 => 151 | n => n, fun | 27 => 114 | 29 => 9 | 3 => 3 | 32 => 117 | 26 => 114 | 0 => 0 | 44 => 169 | 46 => 121 | 4 => 4 | 36 => 163 | 35 => 162 | 41 => 137 | 5 => 5 | 9 => 9 | 53 => 187 | 57 => 191 | 63 => 196 | 64 => 197 | n => n, fun n => n⟩
theorem srt : SlLaysM.n6 Tryz.prog srtRen := { mixed := by kernel_rfl, f6 := ⟨Tryz.f122.name, by decide, Tryz.func122.trans (congrArg some (by kernel_rfl))⟩, f8 := Tryz.func71.trans (congrArg some (by kernel_rfl)), f9 := ⟨Tryz.f136.name, by decide, Tryz.func136.trans (congrArg some (by kernel_rfl))⟩, f19 := Tryz.func109.trans (congrArg some (by kernel_rfl)), f20 := Tryz.func110.trans (congrArg some (by kernel_rfl)), f21 := ⟨Tryz.f138.name, by decide, Tryz.func138.trans (congrArg some (by kernel_rfl))⟩, f22 := ⟨Tryz.f139.name, by decide, Tryz.func139.trans (congrArg some (by kernel_rfl))⟩, f23 := ⟨Tryz.f140.name, by decide, Tryz.func140.trans (congrArg some (by kernel_rfl))⟩, f24 := ⟨Tryz.f141.name, by decide, Tryz.func141.trans (congrArg some (by kernel_rfl))⟩, f25 := ⟨Tryz.f142.name, by decide, Tryz.func142.trans (congrArg some (by kernel_rfl))⟩, f26 := ⟨Tryz.f143.name, by decide, Tryz.func143.trans (congrArg some (by kernel_rfl))⟩, f27 := ⟨Tryz.f144.name, by decide, Tryz.func144.trans (congrArg some (by kernel_rfl))⟩, f28 := ⟨Tryz.f145.name, by decide, Tryz.func145.trans (congrArg some (by kernel_rfl))⟩, f29 := ⟨Tryz.f146.name, by decide, Tryz.func146.trans (congrArg some (by kernel_rfl))⟩, f31 := Tryz.func128.trans (congrArg some (by kernel_rfl)), f32 := Tryz.func129.trans (congrArg some (by kernel_rfl)), f36 := ⟨Tryz.f147.name, by decide, Tryz.func147.trans (congrArg some (by kernel_rfl))⟩, f37 := ⟨Tryz.f148.name, by decide, Tryz.func148.trans (congrArg some (by kernel_rfl))⟩, f38 := ⟨Tryz.f149.name, by decide, Tryz.func149.trans (congrArg some (by kernel_rfl))⟩, f39 := ⟨Tryz.f150.name, by decide, Tryz.func150.trans (congrArg some (by kernel_rfl))⟩, f41 := ⟨Tryz.f151.name, by decide, Tryz.func151.trans (congrArg some (by kernel_rfl))⟩, t0 := Tryz.underlying0, a0 := Tryz.isAgg0, z0 := Tryz.sizeOf0, v0 := Tryz.zeroValue0, t3 := Tryz.underlying3, a3 := Tryz.isAgg3, z3 := Tryz.sizeOf3, v3 := Tryz.zeroValue3, t4 := Tryz.underlying4, a4 := Tryz.isAgg4, z4 := Tryz.sizeOf4, v4 := Tryz.zeroValue4, t5 := Tryz.underlying5, a5 := Tryz.isAgg5, z5 := Tryz.sizeOf5, v5 := Tryz.zeroValue5, t9 := Tryz.underlying9, a9 := Tryz.isAgg9, z9 := Tryz.sizeOf9, v9 := Tryz.zeroValue9, t26 := Tryz.underlying114, a26 := Tryz.isAgg114, z26 := Tryz.sizeOf114, v26 := Tryz.zeroValue114, t27 := Tryz.underlying114, a27 := Tryz.isAgg114, z27 := Tryz.sizeOf114, v27 := Tryz.zeroValue114, t29 := Tryz.underlying9, a29 := Tryz.isAgg9, z29 := Tryz.sizeOf9, v29 := Tryz.zeroValue9, t32 := Tryz.underlying117, a32 := Tryz.isAgg117, z32 := Tryz.sizeOf117, v32 := Tryz.zeroValue117, t35 := Tryz.underlying162, a35 := Tryz.isAgg162, z35 := Tryz.sizeOf162, v35 := Tryz.zeroValue162, t36 := Tryz.underlying163, a36 := Tryz.isAgg163, z36 := Tryz.sizeOf163, v36 := Tryz.zeroValue163, t41 := Tryz.underlying137, a41 := Tryz.isAgg137, z41 := Tryz.sizeOf137, v41 := Tryz.zeroValue137, t44 := Tryz.underlying169, a44 := Tryz.isAgg169, z44 := Tryz.sizeOf169, v44 := Tryz.zeroValue169, t46 := Tryz.underlying121, a46 := Tryz.isAgg121, z46 := Tryz.sizeOf121, v46 := Tryz.zeroValue121, t53 := Tryz.underlying187, a53 := Tryz.isAgg187, z53 := Tryz.sizeOf187, v53 := Tryz.zeroValue187, t57 := Tryz.underlying191, a57 := Tryz.isAgg191, z57 := Tryz.sizeOf191, v57 := Tryz.zeroValue191, t63 := Tryz.underlying196, a63 := Tryz.isAgg196, z63 := Tryz.sizeOf196, v63 := Tryz.zeroValue196, t64 := Tryz.underlying197, a64 := Tryz.isAgg197, z64 := Tryz.sizeOf197, v64 := Tryz.zeroValue197 }
end Go.Proofs.YtoccbnhahaoeiaaGreat.V
