/- Parts of the proof of StoreWhole; no condition. -/
import Derived.Test.YtjjchpaomgmmdaaGreatQStoreWhole2
namespace Go.Proofs.YtjjchpaomgmmdaaGreat.V
open Go
set_option linter.unusedVariables false
set_option maxRecDepth 100000
def F.xaa.j4 (Q : Bool -> H -> Prop) (C1 : Sl -> Sl -> (Option Addr) -> (Option Addr) -> Int -> H -> Prop) (x1 : Sl) (x2 : Sl) (x7 : Option Addr) (x9 : Option Addr) (x11 : Int) (h : H) : Prop :=
  C1 x1 x2 x7 x9 (IntKind.wrap .i64 (x11 + 1)) h
def F.xaa.j6 (Q : Bool -> H -> Prop) (C1 : Sl -> Sl -> (Option Addr) -> (Option Addr) -> Int -> H -> Prop) (C2 : Sl -> Sl -> (Option Addr) -> (Option Addr) -> Int -> Int -> Int -> H -> Prop) (x1 : Sl) (x2 : Sl) (x7 : Option Addr) (x9 : Option Addr) (x11 : Int) (x14 : Int) (x15 : Int) (h : H) : Prop :=
  idxA x1 x11 16 fun a37 =>
  ldL h ((a37.add 0).add 10) fun y39 =>
  F.xde x7 x15 y39 h fun r42 h41 =>
  C2 x1 x2 x7 x9 x11 (IntKind.wrap .i64 (x14 + r42)) (IntKind.wrap .i64 (x15 + 1)) h41
def F.xaa.j8 (Q : Bool -> H -> Prop) (C1 : Sl -> Sl -> (Option Addr) -> (Option Addr) -> Int -> H -> Prop) (x1 : Sl) (x2 : Sl) (x7 : Option Addr) (x9 : Option Addr) (x11 : Int) (x154 : Bool) (h : H) : Prop :=
  (x154 = true ->
  Q false h) ∧
  (x154 = false ->
  F.xaa.j4 Q C1 x1 x2 x7 x9 x11 h)
def F.xaa.j7 (Q : Bool -> H -> Prop) (C1 : Sl -> Sl -> (Option Addr) -> (Option Addr) -> Int -> H -> Prop) (C2 : Sl -> Sl -> (Option Addr) -> (Option Addr) -> Int -> Int -> Int -> H -> Prop) (x1 : Sl) (x2 : Sl) (x7 : Option Addr) (x9 : Option Addr) (x11 : Int) (x14 : Int) (x15 : Int) (x121 : Bool) (h : H) : Prop :=
  (x121 = true ->
  F.xaa.j6 Q C1 C2 x1 x2 x7 x9 x11 x14 x15 h) ∧
  (x121 = false ->
  idxA x1 x11 16 fun a45 =>
  ldL h ((a45.add 0).add 10) fun y47 =>
  ((decide ((y47.len : Int) < 20)) = true ->
  idxA x1 x11 16 fun a50 =>
  ldL h ((a50.add 0).add 10) fun y52 =>
  F.xay x9 y52 h fun r55 h54 =>
  F.xaa.j8 Q C1 x1 x2 x7 x9 x11 ((x14 != r55)) h54) ∧
  ((decide ((y47.len : Int) < 20)) = false ->
  F.xaa.j8 Q C1 x1 x2 x7 x9 x11 false h))
def F.xaa.l5 (Q : Bool -> H -> Prop) (C1 : Sl -> Sl -> (Option Addr) -> (Option Addr) -> Int -> H -> Prop) : Nat -> Sl -> Sl -> (Option Addr) -> (Option Addr) -> Int -> Int -> Int -> H -> Prop
  | 0, _, _, _, _, _, _, _, _ => False
  | q5 + 1, x1, x2, x7, x9, x11, x14, x15, h =>
    ((decide (x15 < 16)) = true ->
    idxA x1 x11 16 fun a57 =>
    ldL h ((a57.add 0).add 10) fun y59 =>
    F.xaa.j7 Q C1 (F.xaa.l5 Q C1 q5) x1 x2 x7 x9 x11 x14 x15 (decide ((y59.len : Int) < 20)) h) ∧
    ((decide (x15 < 16)) = false ->
    F.xaa.j7 Q C1 (F.xaa.l5 Q C1 q5) x1 x2 x7 x9 x11 x14 x15 false h)
def F.xaa.j10 (Q : Bool -> H -> Prop) (C1 : Sl -> Sl -> (Option Addr) -> (Option Addr) -> Int -> H -> Prop) (x1 : Sl) (x2 : Sl) (x7 : Option Addr) (x9 : Option Addr) (x11 : Int) (x96 : Bool) (h : H) : Prop :=
  (x96 = true ->
  Q false h) ∧
  (x96 = false ->
  F.xaa.j4 Q C1 x1 x2 x7 x9 x11 h)
def F.xaa.j9 (Q : Bool -> H -> Prop) (C1 : Sl -> Sl -> (Option Addr) -> (Option Addr) -> Int -> H -> Prop) (x1 : Sl) (x2 : Sl) (x7 : Option Addr) (x9 : Option Addr) (x11 : Int) (x13 : Int) (x16 : Addr) (h : H) : Prop :=
  ld_S_api_Row h x16 fun y63 =>
  F.xbz x7 x13 y63 h fun r66 h65 =>
  (((r66 != 0)) = true ->
  F.xaa.j10 Q C1 x1 x2 x7 x9 x11 true h65) ∧
  (((r66 != 0)) = false ->
  ld_S_api_Row h65 x16 fun y68 =>
  F.xae x9 x13 y68 h65 fun r71 h70 =>
  F.xaa.j10 Q C1 x1 x2 x7 x9 x11 ((r71 != 0)) h70)
def F.xaa.j3 (Q : Bool -> H -> Prop) (C1 : Sl -> Sl -> (Option Addr) -> (Option Addr) -> Int -> H -> Prop) (x1 : Sl) (x2 : Sl) (x7 : Option Addr) (x9 : Option Addr) (x11 : Int) (h : H) : Prop :=
  idxA x1 x11 16 fun a9 =>
  ld_S_api_Cell h ((a9.add 0).add 2) fun y11 =>
  F.xbh y11 h fun r14 h13 =>
  new h13 (((⟨0, (⟨#[]⟩ : ByteArray), 0⟩ : S_api_Cell) : S_api_Cell).cells.toArray) ty_35 fun a16 h15 =>
  stH h15 a16 r14.cells fun h17 =>
  (10 : Int) ≠ 0 ∧
  idxA x1 x11 16 fun a19 =>
  ldI .i64 h17 ((a19.add 0).add 0) fun y21 =>
  F.xax y21 4 h17 fun r24 h23 =>
  (((r24 == 0)) = true ->
  ld_S_api_Cell h23 a16 fun y26 =>
  ld_S_api_Cell h23 a16 fun y28 =>
  F.xcr x7 (IntKind.wrap .i64 (1 + (IntKind.wrap .i64 (Int.tdiv x11 10)))) y26 h23 fun r31 h30 =>
  Cells h30 a16 y28.cells ∧
  F.xap x9 (IntKind.wrap .i64 (1 + (IntKind.wrap .i64 (Int.tdiv x11 10)))) y28 h30 fun r34 h33 =>
  (((r31 != r34)) = true ->
  Q false h33) ∧
  (((r31 != r34)) = false ->
  F.xaa.j4 Q C1 x1 x2 x7 x9 x11 h33)) ∧
  (((r24 == 0)) = false ->
  (((r24 == 1)) = true ->
  ∃ m, F.xaa.l5 Q C1 m x1 x2 x7 x9 x11 0 0 h23) ∧
  (((r24 == 1)) = false ->
  ld_S_api_Cell h23 a16 fun y72 =>
  idxA x1 x11 16 fun a74 =>
  ldI .i64 h23 (((a74.add 0).add 5).add 1) fun y76 =>
  (F.xbs y76 h23 fun r79 h78 =>
  Cells h78 a16 y72.cells ∧
  new h78 (((⟨(⟨0, (⟨#[]⟩ : ByteArray), 0⟩ : S_api_Cell), (⟨0, 0, 0, 0⟩ : S_api_Agg)⟩ : S_api_Row) : S_api_Row).cells.toArray) ty_49 fun a82 h81 =>
  Cells h81 a16 y72.cells ∧
  stH h81 a82 ((⟨y72, r79⟩ : S_api_Row).cells) fun h84 =>
  F.xaa.j9 Q C1 x1 x2 x7 x9 x11 (IntKind.wrap .i64 (1 + (IntKind.wrap .i64 (Int.tdiv x11 10)))) a82 h84) ∧
  (new h23 (((⟨(⟨0, (⟨#[]⟩ : ByteArray), 0⟩ : S_api_Cell), (⟨0, 0, 0, 0⟩ : S_api_Agg)⟩ : S_api_Row) : S_api_Row).cells.toArray) ty_49 fun a86 h85 =>
  cellH h85 (((a74.add 0).add 5).add 1) = some (.int .i64 y76) ∧
  Cells h85 a16 y72.cells ∧
  F.xbs y76 h85 fun r90 h89 =>
  Cells h89 a16 y72.cells ∧
  stH h89 a86 ((⟨y72, r90⟩ : S_api_Row).cells) fun h92 =>
  F.xaa.j9 Q C1 x1 x2 x7 x9 x11 (IntKind.wrap .i64 (1 + (IntKind.wrap .i64 (Int.tdiv x11 10)))) a86 h92)))
def F.xaa.j16 (Q : Bool -> H -> Prop) (C1 : Sl -> (Option Addr) -> (Option Addr) -> Int -> H -> Prop) (x2 : Sl) (x7 : Option Addr) (x9 : Option Addr) (x19 : Int) (h : H) : Prop :=
  C1 x2 x7 x9 (IntKind.wrap .i64 (x19 + 1)) h
def F.xaa.j17 (Q : Bool -> H -> Prop) (C1 : Sl -> (Option Addr) -> (Option Addr) -> Int -> H -> Prop) (x2 : Sl) (x7 : Option Addr) (x9 : Option Addr) (x19 : Int) (x253 : Bool) (h : H) : Prop :=
  (x253 = true ->
  Q false h) ∧
  (x253 = false ->
  F.xaa.j16 Q C1 x2 x7 x9 x19 h)
def F.xaa.j15 (Q : Bool -> H -> Prop) (C1 : Sl -> (Option Addr) -> (Option Addr) -> Int -> H -> Prop) (x2 : Sl) (x7 : Option Addr) (x9 : Option Addr) (x19 : Int) (h : H) : Prop :=
  idxA x2 x19 16 fun a97 =>
  ld_S_spatelaw10_Step h a97 fun y99 =>
  new h (((⟨(⟨0, 0, (⟨0, (⟨#[]⟩ : ByteArray), 0⟩ : S_api_Cell), (⟨0, 0, 0, 0⟩ : S_api_Agg), (⟨none, 0, 0⟩ : Sl), (⟨none, 0, 0⟩ : Sl), (⟨0, (⟨#[]⟩ : ByteArray), 0⟩ : S_api_Cell), 0⟩ : S_spatelaw7_Step), 0⟩ : S_spatelaw10_Step) : S_spatelaw10_Step).cells.toArray) ty_46 fun a102 h101 =>
  stH h101 a102 y99.cells fun h103 =>
  ldI .i64 h103 ((a102.add 0).add 1) fun y104 =>
  F.xax y104 8 h103 fun r107 h106 =>
  ld_S_api_Cell h106 ((a102.add 0).add 2) fun y108 =>
  F.xbh y108 h106 fun r111 h110 =>
  new h110 (((⟨0, (⟨#[]⟩ : ByteArray), 0⟩ : S_api_Cell) : S_api_Cell).cells.toArray) ty_35 fun a113 h112 =>
  stH h112 a113 r111.cells fun h114 =>
  ld_S_api_Cell h114 a113 fun y116 =>
  ld_S_api_Cell h114 a113 fun y118 =>
  F.xct x7 y116 h114 fun r121 h120 =>
  Cells h120 a113 y118.cells ∧
  F.xcm x9 y118 h120 fun r124 h123 =>
  ((!((r121.Count == r124.Count) && ((r121.Sum == r124.Sum) && ((r121.Min == r124.Min) && ((r121.Max == r124.Max) && true))))) = true ->
  F.xaa.j17 Q C1 x2 x7 x9 x19 true h123) ∧
  ((!((r121.Count == r124.Count) && ((r121.Sum == r124.Sum) && ((r121.Min == r124.Min) && ((r121.Max == r124.Max) && true))))) = false ->
  ld_S_api_Cell h123 a113 fun y126 =>
  ld_S_api_Cell h123 a113 fun y128 =>
  F.xcz x7 y126 r107 h123 fun r131 h130 =>
  Cells h130 a113 y128.cells ∧
  F.xcb x9 y128 r107 h130 fun r134 h133 =>
  ((!((r131.Count == r134.Count) && ((r131.Sum == r134.Sum) && ((r131.Min == r134.Min) && ((r131.Max == r134.Max) && true))))) = true ->
  F.xaa.j17 Q C1 x2 x7 x9 x19 true h133) ∧
  ((!((r131.Count == r134.Count) && ((r131.Sum == r134.Sum) && ((r131.Min == r134.Min) && ((r131.Max == r134.Max) && true))))) = false ->
  ld_S_api_Cell h133 ((a102.add 0).add 2) fun y136 =>
  ld_S_api_Cell h133 ((a102.add 0).add 11) fun y138 =>
  ldI .i64 h133 ((a102.add 0).add 14) fun y140 =>
  ld_S_api_Cell h133 ((a102.add 0).add 2) fun y142 =>
  ld_S_api_Cell h133 ((a102.add 0).add 11) fun y144 =>
  ldI .i64 h133 ((a102.add 0).add 14) fun y146 =>
  F.xbf x7 r107 y136 y138 y140 h133 fun r149 h148 =>
  cellH h148 ((a102.add 0).add 14) = some (.int .i64 y146) ∧
  Cells h148 ((a102.add 0).add 11) y144.cells ∧
  Cells h148 ((a102.add 0).add 2) y142.cells ∧
  F.xaj x9 r107 y142 y144 y146 h148 fun r154 h153 =>
  F.xbo r149 r154 h153 fun r156 h155 =>
  F.xaa.j17 Q C1 x2 x7 x9 x19 (!r156) h155))
def F.xaa.j18 (Q : Bool -> H -> Prop) (C1 : Sl -> (Option Addr) -> (Option Addr) -> Int -> H -> Prop) (x2 : Sl) (x7 : Option Addr) (x9 : Option Addr) (x19 : Int) (x193 : Bool) (h : H) : Prop :=
  (x193 = true ->
  F.xaa.j15 Q C1 x2 x7 x9 x19 h) ∧
  (x193 = false ->
  F.xbc  h fun r159 h158 =>
  Q r159 h158)
def F.xaa.l14 (Q : Bool -> H -> Prop) : Nat -> Sl -> (Option Addr) -> (Option Addr) -> Int -> H -> Prop
  | 0, _, _, _, _, _ => False
  | q14 + 1, x2, x7, x9, x19, h =>
    ((decide (x19 < (x2.len : Int))) = true ->
    F.xaa.j18 Q (F.xaa.l14 Q q14) x2 x7 x9 x19 (decide (x19 < 20)) h) ∧
    ((decide (x19 < (x2.len : Int))) = false ->
    F.xaa.j18 Q (F.xaa.l14 Q q14) x2 x7 x9 x19 false h)
def F.xaa.j13 (Q : Bool -> H -> Prop) (x2 : Sl) (x7 : Option Addr) (x9 : Option Addr) (h : H) : Prop :=
  ∃ m, F.xaa.l14 Q m x2 x7 x9 0 h
def F.xaa.j19 (Q : Bool -> H -> Prop) (x2 : Sl) (x7 : Option Addr) (x9 : Option Addr) (x185 : Bool) (h : H) : Prop :=
  (x185 = true ->
  Q false h) ∧
  (x185 = false ->
  F.xaa.j13 Q x2 x7 x9 h)
def F.xaa.l12 (Q : Bool -> H -> Prop) : Nat -> Sl -> (Option Addr) -> (Option Addr) -> Int -> Int -> H -> Prop
  | 0, _, _, _, _, _, _ => False
  | q12 + 1, x2, x7, x9, x17, x18, h =>
    ((decide (x18 < 16)) = true ->
    F.xcc x7 x18 h fun r96 h95 =>
    (F.xaa.l12 Q q12) x2 x7 x9 (IntKind.wrap .i64 (x17 + r96)) (IntKind.wrap .i64 (x18 + 1)) h95) ∧
    ((decide (x18 < 16)) = false ->
    nn x9 fun a163 =>
    F.xcn (some (a163.add 0)) h fun r166 h165 =>
    (((x17 != r166)) = true ->
    F.xaa.j19 Q x2 x7 x9 true h165) ∧
    (((x17 != r166)) = false ->
    nn x9 fun a168 =>
    F.xbp x7 h165 fun r171 h170 =>
    F.xco (some (a168.add 0)) h170 fun r173 h172 =>
    (((r171 != r173)) = true ->
    F.xaa.j19 Q x2 x7 x9 true h172) ∧
    (((r171 != r173)) = false ->
    F.xbn x7 h172 fun r176 h175 =>
    F.xcj x9 h175 fun r178 h177 =>
    F.xaa.j19 Q x2 x7 x9 ((r176 != r178)) h177)))
def F.xaa.j11 (Q : Bool -> H -> Prop) (C1 : Sl -> Sl -> (Option Addr) -> (Option Addr) -> Int -> H -> Prop) (x1 : Sl) (x2 : Sl) (x7 : Option Addr) (x9 : Option Addr) (x11 : Int) (x55 : Bool) (h : H) : Prop :=
  (x55 = true ->
  F.xaa.j3 Q C1 x1 x2 x7 x9 x11 h) ∧
  (x55 = false ->
  ∃ m, F.xaa.l12 Q m x2 x7 x9 0 0 h)
def F.xaa.l2 (Q : Bool -> H -> Prop) : Nat -> Sl -> Sl -> (Option Addr) -> (Option Addr) -> Int -> H -> Prop
  | 0, _, _, _, _, _, _ => False
  | q2 + 1, x1, x2, x7, x9, x11, h =>
    ((decide (x11 < (x1.len : Int))) = true ->
    F.xaa.j11 Q (F.xaa.l2 Q q2) x1 x2 x7 x9 x11 (decide (x11 < 60)) h) ∧
    ((decide (x11 < (x1.len : Int))) = false ->
    F.xaa.j11 Q (F.xaa.l2 Q q2) x1 x2 x7 x9 x11 false h)
def F.xaa.j1 (Q : Bool -> H -> Prop) (x1 : Sl) (x2 : Sl) (x7 : Option Addr) (x9 : Option Addr) (h : H) : Prop :=
  ∃ m, F.xaa.l2 Q m x1 x2 x7 x9 0 h
def F.xaa.j20 (Q : Bool -> H -> Prop) (x1 : Sl) (x2 : Sl) (x7 : Option Addr) (x9 : Option Addr) (x47 : Bool) (h : H) : Prop :=
  (x47 = true ->
  Q false h) ∧
  (x47 = false ->
  F.xaa.j1 Q x1 x2 x7 x9 h)
def F.xaa (p0 : Int) (p1 : Sl) (p2 : Sl) (h : H) (Q : Bool -> H -> Prop) : Prop :=
  F.xax p0 16 h fun r2 h1 =>
  F.xak (IntKind.wrap .i64 (1 + r2)) 500 h1 fun r4 r5 h3 =>
  F.xas 8000 h3 fun r7 r8 h6 =>
  (((r5 != 0)) = true ->
  F.xaa.j20 Q p1 p2 r4 r7 true h6) ∧
  (((r5 != 0)) = false ->
  (((r8 != 0)) = true ->
  F.xaa.j20 Q p1 p2 r4 r7 true h6) ∧
  (((r8 != 0)) = false ->
  (r4.isNone = true ->
  F.xaa.j20 Q p1 p2 r4 r7 true h6) ∧
  (r4.isNone = false ->
  F.xaa.j20 Q p1 p2 r4 r7 r7.isNone h6)))
theorem F.xaa_ok {p0 : Int} {p1 : Sl} {p2 : Sl} {h : H} {Q : Bool -> H -> Prop} (H : F.xaa p0 p1 p2 h Q) : Fn PP 6 ([(.int .i64 p0), p1.enc, p2.enc] : List Value).toArray h fun r h' => ∃ r0, r = (.bool r0) ∧ Q r0 h' := by
 unfold F.xaa at H;refine fn_of Tryz.func6 Tryz.ntmps6 rfl rfl fun w0 => (tr_sub [(0, (.int .i64 p0)), (1, p1.enc), (2, p2.enc)] ⟨rfl, rfl, rfl, trivial⟩ (tr_seq (tr_region (tq (y_assign rfl) (tr_nil (tr_thenN (tr_seq (tr_region (tq (y_move rfl) (tr_e (e_call Tryz.call13 rfl (F.xax_ok H)) rfl rfl ?_))))))))));rintro _ h1 ⟨r2, rfl, H⟩;refine tq (y_add rfl rfl) (tr_e (e_call Tryz.call8 rfl (F.xak_ok H)) rfl rfl ?_);rintro _ h3 ⟨r4, r5, rfl, H⟩;refine tq (y_move rfl) (tq (y_ext rfl rfl) (tq (y_ext rfl rfl) (tq (y_assign rfl) (tq (y_assign rfl) (tr_nil (tr_thenN (tr_seq (tr_region (tr_e (e_call Tryz.call26 rfl (F.xas_ok H)) rfl rfl ?_)))))))));rintro _ h6 ⟨r7, r8, rfl, H⟩;refine tq (y_move rfl) (tq (y_ext rfl rfl) (tq (y_ext rfl rfl) (tq (y_assign rfl) (tq (y_assign rfl) (tr_nil (tr_thenN ?_))))));refine tr_seq_j (fun L' h => ∃ (x1 : Sl) (x2 : Sl) (x7 : Option Addr) (x9 : Option Addr), L' = [(1, x1.enc), (2, x2.enc), (7, (.pointer x7)), (9, (.pointer x9))] ∧ F.xaa.j1 Q x1 x2 x7 x9 h) ?_ ?_
 ·rintro L' h ⟨x1, x2, x7, x9, rfl, H⟩;unfold F.xaa.j1 at H;refine tr_seq (tr_seq (tr_region (tq (y_assign rfl) (tr_nil (tr_thenN (tr_block ?_))))));obtain ⟨m181, H⟩ := H;refine tr_sub [(1, x1.enc), (2, x2.enc), (7, (.pointer x7)), (9, (.pointer x9)), (11, (.int .i64 0))] ⟨rfl, rfl, rfl, rfl, rfl, trivial⟩ ?_;refine tr_loop_j (fun m L' h => ∃ (x1 : Sl) (x2 : Sl) (x7 : Option Addr) (x9 : Option Addr) (x11 : Int), L' = [(1, x1.enc), (2, x2.enc), (7, (.pointer x7)), (9, (.pointer x9)), (11, (.int .i64 x11))] ∧ F.xaa.l2 Q m x1 x2 x7 x9 x11 h) ?_ ?_ m181 ⟨_, _, _, _, _, rfl, H⟩
  ·rintro L' h ⟨_, _, _, _, _, _, H⟩; exact H
  ·rintro q2 L' h ⟨x1, x2, x7, x9, x11, rfl, H⟩;unfold F.xaa.l2 at H;refine tr_seq_j (fun L' h => ∃ (x1 : Sl) (x2 : Sl) (x7 : Option Addr) (x9 : Option Addr) (x11 : Int), L' = [(1, x1.enc), (2, x2.enc), (7, (.pointer x7)), (9, (.pointer x9)), (11, (.int .i64 x11))] ∧ F.xaa.j3 Q (F.xaa.l2 Q q2) x1 x2 x7 x9 x11 h) ?_ ?_
   ·rintro L' h ⟨x1, x2, x7, x9, x11, rfl, H⟩;unfold F.xaa.j3 at H;refine tr_seq_j (fun L' h => ∃ (x1 : Sl) (x2 : Sl) (x7 : Option Addr) (x9 : Option Addr) (x11 : Int), L' = [(1, x1.enc), (2, x2.enc), (7, (.pointer x7)), (9, (.pointer x9)), (11, (.int .i64 x11))] ∧ F.xaa.j4 Q (F.xaa.l2 Q q2) x1 x2 x7 x9 x11 h) ?_ ?_
    ·rintro L' h ⟨x1, x2, x7, x9, x11, rfl, H⟩;unfold F.xaa.j4 at H;refine tr_region (tq (y_move rfl) (tq (y_add rfl rfl) (tq (y_assign rfl) (tr_nil (tr_thenN ?_)))));exact tr_join [(1, x1.enc), (2, x2.enc), (7, (.pointer x7)), (9, (.pointer x9)), (11, (.int .i64 (IntKind.wrap .i64 (x11 + 1))))] ⟨rfl, rfl, rfl, rfl, rfl, trivial⟩ ⟨_, _, _, _, _, rfl, H⟩
    ·refine tr_block (tr_seq (tr_region (tq (y_move rfl) (tq (y_move rfl) ?_))));obtain ⟨a9, e10, H⟩ := H;refine tq (f_idx (s := x1) Tryz.runUnderlying33 Tryz.sizeOf46 rfl rfl e10) (tq (y_fa (off := 0) Tryz.runUnderlying46 fo_46_0 rfl) (tq (y_fa (off := 2) Tryz.runUnderlying44 fo_44_2 rfl) ?_));obtain ⟨y11, k12, H⟩ := H;refine tr_h (y_ldS Tryz.isAgg35 Tryz.sizeOf35 rfl rfl) k12 rfl rfl (tr_e (e_call Tryz.call15 rfl (F.xbh_ok H)) rfl rfl ?_);rintro _ h13 ⟨r14, rfl, H⟩;refine tr_e (f_alloc (cs := ((⟨0, (⟨#[]⟩ : ByteArray), 0⟩ : S_api_Cell) : S_api_Cell).cells.toArray) Tryz.zeroValue35 rfl H) rfl rfl ?_;rintro _ h15 ⟨a16, rfl, H⟩;refine tr_e (f_store (vs := r14.cells) Tryz.sizeOf35 rfl rfl cellsOfStruct rfl (by intro v hv; exact ones_S_api_Cell _ v hv) H) rfl rfl ?_;rintro _ h17 ⟨rfl, H⟩;refine tr_nil (tr_thenN (tr_seq (tr_region (tq (y_move rfl) ?_))));obtain ⟨e18, H⟩ := H;refine tq (y_quo rfl rfl e18) (tq (y_add rfl rfl) (tq (y_assign rfl) (tr_nil (tr_thenN (tr_seq (tr_region (tq (y_move rfl) (tq (y_move rfl) ?_))))))));obtain ⟨a19, e20, H⟩ := H;refine tq (f_idx (s := x1) Tryz.runUnderlying33 Tryz.sizeOf46 rfl rfl e20) (tq (y_fa (off := 0) Tryz.runUnderlying46 fo_46_0 rfl) (tq (y_fa (off := 0) Tryz.runUnderlying44 fo_44_0 rfl) ?_));obtain ⟨y21, k22, H⟩ := H;refine tr_h (y_ld Tryz.isAgg3 rfl) k22 rfl rfl (tr_e (e_call Tryz.call13 rfl (F.xax_ok H)) rfl rfl ?_);rintro _ h23 ⟨r24, rfl, H⟩;refine tr_nil (tr_thenN (tr_block (tr_seq (tr_region (tq (y_eql rfl rfl) (tq (y_assign rfl) (tr_nil (tr_thenN ?_))))))));refine tr_cond rfl (fun g25 => ?_) (fun g25 => ?_)
     ·replace H := H.1 g25;refine tr_seq (tr_draw mixed [0, 0, 0, 7, 0, 0, 0, 127, 255] (by kernel_rfl) (g_p 0 1 rfl (by kernel_rfl) (y_move rfl) rfl rfl (g_p 1 3 rfl (by kernel_rfl) (y_move rfl) rfl rfl ?_)));obtain ⟨y26, k27, H⟩ := H;refine g_h 2 7 rfl (by kernel_rfl) (y_ldS Tryz.isAgg35 Tryz.sizeOf35 rfl rfl) k27 rfl rfl (g_p 4 23 rfl (by kernel_rfl) (y_move rfl) rfl rfl (g_p 5 55 rfl (by kernel_rfl) (y_move rfl) rfl rfl ?_));obtain ⟨y28, k29, H⟩ := H;refine g_h 6 119 rfl (by kernel_rfl) (y_ldS Tryz.isAgg35 Tryz.sizeOf35 rfl rfl) k29 rfl rfl (g_e 3 127 [(6, fun h => Cells h a16 y28.cells)] (by kernel_rfl) rfl (by kernel_rfl) (e_call Tryz.call25 rfl (F.xcr_ok H)) rfl rfl ?_);rintro _ h30 ⟨r31, rfl, H⟩;obtain ⟨k32, H⟩ := H;refine ⟨And.intro k32 trivial, ?_⟩;refine g_e 7 255 [] (by kernel_rfl) rfl (by kernel_rfl) (e_call Tryz.call27 rfl (F.xap_ok H)) rfl rfl ?_;rintro _ h33 ⟨r34, rfl, H⟩;refine ⟨trivial, ?_⟩;refine g_p 8 511 rfl (by kernel_rfl) (y_neq rfl rfl) rfl rfl (g_d (by kernel_rfl) (tr_thenN ?_));refine tr_cond rfl (fun g35 => ?_) (fun g35 => ?_)
      ·replace H := H.1 g35;refine tr_seq (tr_region (tq (y_assign rfl) (tr_nil (tr_thenN (tr_ret (tr_blockR (tr_blockR (tr_thenR (tr_thenR (tr_blockR (tr_thenR ?_)))))))))));exact tr_ret1 rfl rfl ⟨_, rfl, H⟩
      ·replace H := H.2 g35;refine tr_skip (tr_blockN (tr_blockN (tr_thenN ?_)));exact tr_join [(1, x1.enc), (2, x2.enc), (7, (.pointer x7)), (9, (.pointer x9)), (11, (.int .i64 x11))] ⟨rfl, rfl, rfl, rfl, rfl, trivial⟩ ⟨_, _, _, _, _, rfl, H⟩
     ·replace H := H.2 g25;refine tr_seq (tr_region (tq (y_eql rfl rfl) (tq (y_assign rfl) (tr_nil (tr_thenN ?_)))));refine tr_cond rfl (fun g36 => ?_) (fun g36 => ?_)
      ·replace H := H.1 g36;refine tr_seq (tr_region (tq (y_assign rfl) (tr_nil (tr_thenN (tr_seq (tr_seq (tr_region (tq (y_assign rfl) (tr_nil (tr_thenN (tr_block ?_)))))))))));obtain ⟨m61, H⟩ := H;refine tr_sub [(1, x1.enc), (2, x2.enc), (7, (.pointer x7)), (9, (.pointer x9)), (11, (.int .i64 x11)), (14, (.int .i64 0)), (15, (.int .i64 0))] ⟨rfl, rfl, rfl, rfl, rfl, rfl, rfl, trivial⟩ ?_;refine tr_loop_j (fun m L' h => ∃ (x1 : Sl) (x2 : Sl) (x7 : Option Addr) (x9 : Option Addr) (x11 : Int) (x14 : Int) (x15 : Int), L' = [(1, x1.enc), (2, x2.enc), (7, (.pointer x7)), (9, (.pointer x9)), (11, (.int .i64 x11)), (14, (.int .i64 x14)), (15, (.int .i64 x15))] ∧ F.xaa.l5 Q (F.xaa.l2 Q q2) m x1 x2 x7 x9 x11 x14 x15 h) ?_ ?_ m61 ⟨_, _, _, _, _, _, _, rfl, H⟩
       ·rintro L' h ⟨_, _, _, _, _, _, _, _, H⟩; exact H
       ·rintro q5 L' h ⟨x1, x2, x7, x9, x11, x14, x15, rfl, H⟩;unfold F.xaa.l5 at H;refine tr_seq_j (fun L' h => ∃ (x1 : Sl) (x2 : Sl) (x7 : Option Addr) (x9 : Option Addr) (x11 : Int) (x14 : Int) (x15 : Int), L' = [(1, x1.enc), (2, x2.enc), (7, (.pointer x7)), (9, (.pointer x9)), (11, (.int .i64 x11)), (14, (.int .i64 x14)), (15, (.int .i64 x15))] ∧ F.xaa.j6 Q (F.xaa.l2 Q q2) (F.xaa.l5 Q (F.xaa.l2 Q q2) q5) x1 x2 x7 x9 x11 x14 x15 h) ?_ ?_
        ·rintro L' h ⟨x1, x2, x7, x9, x11, x14, x15, rfl, H⟩;unfold F.xaa.j6 at H;refine tr_seq (tr_block (tr_region (tq (y_move rfl) (tq (y_move rfl) (tq (y_move rfl) (tq (y_move rfl) (tq (y_move rfl) ?_)))))));obtain ⟨a37, e38, H⟩ := H;refine tq (f_idx (s := x1) Tryz.runUnderlying33 Tryz.sizeOf46 rfl rfl e38) (tq (y_fa (off := 0) Tryz.runUnderlying46 fo_46_0 rfl) (tq (y_fa (off := 10) Tryz.runUnderlying44 fo_44_5 rfl) ?_));obtain ⟨y39, k40, H⟩ := H;refine tr_h (y_ld Tryz.isAgg42 rfl) k40 rfl rfl (tr_e (e_call Tryz.call28 rfl (F.xde_ok H)) rfl rfl ?_);rintro _ h41 ⟨r42, rfl, H⟩;refine tq (y_add rfl rfl) (tq (y_assign rfl) (tr_nil (tr_blockN (tr_thenN (tr_region (tq (y_move rfl) (tq (y_add rfl rfl) (tq (y_assign rfl) (tr_nil (tr_thenN ?_))))))))));exact tr_join [(1, x1.enc), (2, x2.enc), (7, (.pointer x7)), (9, (.pointer x9)), (11, (.int .i64 x11)), (14, (.int .i64 (IntKind.wrap .i64 (x14 + r42)))), (15, (.int .i64 (IntKind.wrap .i64 (x15 + 1))))] ⟨rfl, rfl, rfl, rfl, rfl, rfl, rfl, trivial⟩ ⟨_, _, _, _, _, _, _, rfl, H⟩
        ·refine tr_seq_j (fun L' h => ∃ (x1 : Sl) (x2 : Sl) (x7 : Option Addr) (x9 : Option Addr) (x11 : Int) (x14 : Int) (x15 : Int) (x121 : Bool), L' = [(1, x1.enc), (2, x2.enc), (7, (.pointer x7)), (9, (.pointer x9)), (11, (.int .i64 x11)), (14, (.int .i64 x14)), (15, (.int .i64 x15)), (121, (.bool x121))] ∧ F.xaa.j7 Q (F.xaa.l2 Q q2) (F.xaa.l5 Q (F.xaa.l2 Q q2) q5) x1 x2 x7 x9 x11 x14 x15 x121 h) ?_ ?_
         ·rintro L' h ⟨x1, x2, x7, x9, x11, x14, x15, x121, rfl, H⟩;unfold F.xaa.j7 at H;refine tr_cond rfl (fun g43 => ?_) (fun g43 => ?_)
          ·replace H := H.1 g43;refine tr_skip (tr_thenN ?_);exact tr_join [(1, x1.enc), (2, x2.enc), (7, (.pointer x7)), (9, (.pointer x9)), (11, (.int .i64 x11)), (14, (.int .i64 x14)), (15, (.int .i64 x15))] ⟨rfl, rfl, rfl, rfl, rfl, rfl, rfl, trivial⟩ ⟨_, _, _, _, _, _, _, rfl, H⟩
          ·replace H := H.2 g43;refine tr_exit (tr_thenE (tr_thenE (tr_hit (tr_thenN ?_))));refine tr_seq_j (fun L' h => ∃ (x1 : Sl) (x2 : Sl) (x7 : Option Addr) (x9 : Option Addr) (x11 : Int) (x154 : Bool), L' = [(1, x1.enc), (2, x2.enc), (7, (.pointer x7)), (9, (.pointer x9)), (11, (.int .i64 x11)), (154, (.bool x154))] ∧ F.xaa.j8 Q (F.xaa.l2 Q q2) x1 x2 x7 x9 x11 x154 h) ?_ ?_
           ·rintro L' h ⟨x1, x2, x7, x9, x11, x154, rfl, H⟩;unfold F.xaa.j8 at H;refine tr_cond rfl (fun g44 => ?_) (fun g44 => ?_)
            ·replace H := H.1 g44;refine tr_seq (tr_region (tq (y_assign rfl) (tr_nil (tr_thenN (tr_ret (tr_blockR (tr_blockR (tr_thenR (tr_thenR (tr_blockR (tr_thenR ?_)))))))))));exact tr_ret1 rfl rfl ⟨_, rfl, H⟩
            ·replace H := H.2 g44;refine tr_skip (tr_blockN (tr_blockN (tr_thenN ?_)));exact tr_join [(1, x1.enc), (2, x2.enc), (7, (.pointer x7)), (9, (.pointer x9)), (11, (.int .i64 x11))] ⟨rfl, rfl, rfl, rfl, rfl, trivial⟩ ⟨_, _, _, _, _, rfl, H⟩
           ·refine tr_region (tq (y_move rfl) (tq (y_move rfl) ?_));obtain ⟨a45, e46, H⟩ := H;refine tq (f_idx (s := x1) Tryz.runUnderlying33 Tryz.sizeOf46 rfl rfl e46) (tq (y_fa (off := 0) Tryz.runUnderlying46 fo_46_0 rfl) (tq (y_fa (off := 10) Tryz.runUnderlying44 fo_44_5 rfl) ?_));obtain ⟨y47, k48, H⟩ := H;refine tr_h (y_ld Tryz.isAgg42 rfl) k48 rfl rfl (tq (y_len (ts := #[]) Tryz.runUnderlying42 (o := y47.ptr) (n := y47.len) (cap := y47.cap) rfl) (tq (y_lss rfl rfl) (tq (y_move rfl) ?_)));refine tr_split (t := 143) rfl (fun g49 => ?_) (fun g49 => ?_)
            ·replace H := H.1 g49;refine tq (y_move rfl) (tq (y_move rfl) (tq (y_move rfl) (tq (y_move rfl) ?_)));obtain ⟨a50, e51, H⟩ := H;refine tq (f_idx (s := x1) Tryz.runUnderlying33 Tryz.sizeOf46 rfl rfl e51) (tq (y_fa (off := 0) Tryz.runUnderlying46 fo_46_0 rfl) (tq (y_fa (off := 10) Tryz.runUnderlying44 fo_44_5 rfl) ?_));obtain ⟨y52, k53, H⟩ := H;refine tr_h (y_ld Tryz.isAgg42 rfl) k53 rfl rfl (tr_e (e_call Tryz.call29 rfl (F.xay_ok H)) rfl rfl ?_);rintro _ h54 ⟨r55, rfl, H⟩;refine tq (y_neq rfl rfl) (tq (y_pick_t rfl rfl) (tr_nil (tr_thenN ?_)));exact tr_join [(1, x1.enc), (2, x2.enc), (7, (.pointer x7)), (9, (.pointer x9)), (11, (.int .i64 x11)), (154, (.bool ((x14 != r55))))] ⟨rfl, rfl, rfl, rfl, rfl, rfl, trivial⟩ ⟨_, _, _, _, _, _, rfl, H⟩
            ·replace H := H.2 g49;refine ts (ts (ts (ts (ts (ts (ts (ts (ts (ts (tq (y_pick_f rfl rfl) (tr_nil (tr_thenN ?_))))))))))));exact tr_join [(1, x1.enc), (2, x2.enc), (7, (.pointer x7)), (9, (.pointer x9)), (11, (.int .i64 x11)), (154, (.bool false))] ⟨rfl, rfl, rfl, rfl, rfl, rfl, trivial⟩ ⟨_, _, _, _, _, _, rfl, H⟩
         ·refine tr_region (tq (y_move rfl) (tq (y_lss rfl rfl) (tq (y_move rfl) ?_)));refine tr_split (t := 112) rfl (fun g56 => ?_) (fun g56 => ?_)
          ·replace H := H.1 g56;refine tq (y_move rfl) (tq (y_move rfl) ?_);obtain ⟨a57, e58, H⟩ := H;refine tq (f_idx (s := x1) Tryz.runUnderlying33 Tryz.sizeOf46 rfl rfl e58) (tq (y_fa (off := 0) Tryz.runUnderlying46 fo_46_0 rfl) (tq (y_fa (off := 10) Tryz.runUnderlying44 fo_44_5 rfl) ?_));obtain ⟨y59, k60, H⟩ := H;refine tr_h (y_ld Tryz.isAgg42 rfl) k60 rfl rfl (tq (y_len (ts := #[]) Tryz.runUnderlying42 (o := y59.ptr) (n := y59.len) (cap := y59.cap) rfl) (tq (y_lss rfl rfl) (tq (y_pick_t rfl rfl) (tr_nil (tr_thenN ?_)))));exact tr_join [(1, x1.enc), (2, x2.enc), (7, (.pointer x7)), (9, (.pointer x9)), (11, (.int .i64 x11)), (14, (.int .i64 x14)), (15, (.int .i64 x15)), (121, (.bool (decide ((y59.len : Int) < 20))))] ⟨rfl, rfl, rfl, rfl, rfl, rfl, rfl, rfl, trivial⟩ ⟨_, _, _, _, _, _, _, _, rfl, H⟩
          ·replace H := H.2 g56;refine ts (ts (ts (ts (ts (ts (ts (ts (tq (y_pick_f rfl rfl) (tr_nil (tr_thenN ?_))))))))));exact tr_join [(1, x1.enc), (2, x2.enc), (7, (.pointer x7)), (9, (.pointer x9)), (11, (.int .i64 x11)), (14, (.int .i64 x14)), (15, (.int .i64 x15)), (121, (.bool false))] ⟨rfl, rfl, rfl, rfl, rfl, rfl, rfl, rfl, trivial⟩ ⟨_, _, _, _, _, _, _, _, rfl, H⟩
      ·replace H := H.2 g36;refine tr_seq_j (fun L' h => ∃ (x1 : Sl) (x2 : Sl) (x7 : Option Addr) (x9 : Option Addr) (x11 : Int) (x13 : Int) (x16 : Addr), L' = [(1, x1.enc), (2, x2.enc), (7, (.pointer x7)), (9, (.pointer x9)), (11, (.int .i64 x11)), (13, (.int .i64 x13)), (16, (.pointer (some x16)))] ∧ F.xaa.j9 Q (F.xaa.l2 Q q2) x1 x2 x7 x9 x11 x13 x16 h) ?_ ?_
       ·rintro L' h ⟨x1, x2, x7, x9, x11, x13, x16, rfl, H⟩;unfold F.xaa.j9 at H;refine tr_seq_j (fun L' h => ∃ (x1 : Sl) (x2 : Sl) (x7 : Option Addr) (x9 : Option Addr) (x11 : Int) (x96 : Bool), L' = [(1, x1.enc), (2, x2.enc), (7, (.pointer x7)), (9, (.pointer x9)), (11, (.int .i64 x11)), (96, (.bool x96))] ∧ F.xaa.j10 Q (F.xaa.l2 Q q2) x1 x2 x7 x9 x11 x96 h) ?_ ?_
        ·rintro L' h ⟨x1, x2, x7, x9, x11, x96, rfl, H⟩;unfold F.xaa.j10 at H;refine tr_cond rfl (fun g62 => ?_) (fun g62 => ?_)
         ·replace H := H.1 g62;refine tr_seq (tr_region (tq (y_assign rfl) (tr_nil (tr_thenN (tr_ret (tr_blockR (tr_blockR (tr_thenR (tr_thenR (tr_blockR (tr_thenR ?_)))))))))));exact tr_ret1 rfl rfl ⟨_, rfl, H⟩
         ·replace H := H.2 g62;refine tr_skip (tr_blockN (tr_blockN (tr_thenN ?_)));exact tr_join [(1, x1.enc), (2, x2.enc), (7, (.pointer x7)), (9, (.pointer x9)), (11, (.int .i64 x11))] ⟨rfl, rfl, rfl, rfl, rfl, trivial⟩ ⟨_, _, _, _, _, rfl, H⟩
        ·refine tr_region (tq (y_move rfl) (tq (y_move rfl) ?_));obtain ⟨y63, k64, H⟩ := H;refine tr_h (y_ldS Tryz.isAgg49 Tryz.sizeOf49 rfl rfl) k64 rfl rfl (tr_e (e_call Tryz.call14 rfl (F.xbz_ok H)) rfl rfl ?_);rintro _ h65 ⟨r66, rfl, H⟩;refine tq (y_neq rfl rfl) (tq (y_move rfl) ?_);refine tr_split (t := 90) rfl (fun g67 => ?_) (fun g67 => ?_)
         ·replace H := H.1 g67;refine ts (ts (ts (ts (ts (tq (y_pick_t rfl rfl) (tr_nil (tr_thenN ?_)))))));exact tr_join [(1, x1.enc), (2, x2.enc), (7, (.pointer x7)), (9, (.pointer x9)), (11, (.int .i64 x11)), (96, (.bool true))] ⟨rfl, rfl, rfl, rfl, rfl, rfl, trivial⟩ ⟨_, _, _, _, _, _, rfl, H⟩
         ·replace H := H.2 g67;refine tq (y_move rfl) (tq (y_move rfl) ?_);obtain ⟨y68, k69, H⟩ := H;refine tr_h (y_ldS Tryz.isAgg49 Tryz.sizeOf49 rfl rfl) k69 rfl rfl (tr_e (e_call Tryz.call30 rfl (F.xae_ok H)) rfl rfl ?_);rintro _ h70 ⟨r71, rfl, H⟩;refine tq (y_neq rfl rfl) (tq (y_pick_f rfl rfl) (tr_nil (tr_thenN ?_)));exact tr_join [(1, x1.enc), (2, x2.enc), (7, (.pointer x7)), (9, (.pointer x9)), (11, (.int .i64 x11)), (96, (.bool ((r71 != 0))))] ⟨rfl, rfl, rfl, rfl, rfl, rfl, trivial⟩ ⟨_, _, _, _, _, _, rfl, H⟩
       ·refine tr_draw mixed [0, 0, 0, 6, 14, 30, 62, 126, 254, 511, 0, 2047] (by kernel_rfl) ?_;obtain ⟨y72, k73, H⟩ := H;refine g_h 0 1 rfl (by kernel_rfl) (y_ldS Tryz.isAgg35 Tryz.sizeOf35 rfl rfl) k73 rfl rfl (g_p 1 3 rfl (by kernel_rfl) (y_move rfl) rfl rfl (g_p 2 7 rfl (by kernel_rfl) (y_move rfl) rfl rfl ?_));obtain ⟨a74, e75, H⟩ := H;refine g_p 3 15 rfl (by kernel_rfl) (f_idx (s := x1) Tryz.runUnderlying33 Tryz.sizeOf46 rfl rfl e75) rfl rfl (g_p 4 31 rfl (by kernel_rfl) (y_fa (off := 0) Tryz.runUnderlying46 fo_46_0 rfl) rfl rfl (g_p 5 63 rfl (by kernel_rfl) (y_fa (off := 5) Tryz.runUnderlying44 fo_44_3 rfl) rfl rfl (g_p 6 127 rfl (by kernel_rfl) (y_fa (off := 1) Tryz.runUnderlying40 fo_40_1 rfl) rfl rfl ?_)));obtain ⟨y76, k77, H⟩ := H;refine g_h 7 255 rfl (by kernel_rfl) (y_ld Tryz.isAgg2 rfl) k77 rfl rfl ?_;refine g_e2 8 511 10 1279 [(0, fun h => Cells h a16 y72.cells)] [(7, fun h => cellH h (((a74.add 0).add 5).add 1) = some (.int .i64 y76)), (0, fun h => Cells h a16 y72.cells)] (by kernel_rfl) (by kernel_rfl) (by kernel_rfl) (by kernel_rfl) (by kernel_rfl) rfl rfl rfl rfl rfl rfl ?_ ?_
        ·replace H := H.1;refine ⟨_, (e_call Tryz.call16 rfl (F.xbs_ok H)), ?_⟩;rintro _ h78 ⟨r79, rfl, H⟩;obtain ⟨k80, H⟩ := H;refine ⟨And.intro k80 trivial, ?_⟩;refine g_p 9 1023 rfl (by kernel_rfl) (f_build rfl (bd_49_0_1 y72 r79)) rfl rfl (g_e 10 2047 [(0, fun h => Cells h a16 y72.cells)] (by kernel_rfl) rfl (by kernel_rfl) (f_alloc (cs := ((⟨(⟨0, (⟨#[]⟩ : ByteArray), 0⟩ : S_api_Cell), (⟨0, 0, 0, 0⟩ : S_api_Agg)⟩ : S_api_Row) : S_api_Row).cells.toArray) Tryz.zeroValue49 rfl H) rfl rfl ?_);rintro _ h81 ⟨a82, rfl, H⟩;obtain ⟨k83, H⟩ := H;refine ⟨And.intro k83 trivial, ?_⟩;refine g_e 11 4095 [] (by kernel_rfl) rfl (by kernel_rfl) (f_store (vs := (⟨y72, r79⟩ : S_api_Row).cells) Tryz.sizeOf49 rfl rfl cellsOfStruct rfl (by intro v hv; exact ones_S_api_Row _ v hv) H) rfl rfl ?_;rintro _ h84 ⟨rfl, H⟩;refine ⟨trivial, ?_⟩;refine g_d (by kernel_rfl) (tr_thenN ?_);exact tr_join [(1, x1.enc), (2, x2.enc), (7, (.pointer x7)), (9, (.pointer x9)), (11, (.int .i64 x11)), (13, (.int .i64 (IntKind.wrap .i64 (1 + (IntKind.wrap .i64 (Int.tdiv x11 10)))))), (16, (.pointer (some a82)))] ⟨rfl, rfl, rfl, rfl, rfl, rfl, rfl, trivial⟩ ⟨_, _, _, _, _, _, _, rfl, H⟩
        ·replace H := H.2;refine ⟨_, (f_alloc (cs := ((⟨(⟨0, (⟨#[]⟩ : ByteArray), 0⟩ : S_api_Cell), (⟨0, 0, 0, 0⟩ : S_api_Agg)⟩ : S_api_Row) : S_api_Row).cells.toArray) Tryz.zeroValue49 rfl H), ?_⟩;rintro _ h85 ⟨a86, rfl, H⟩;obtain ⟨k87, k88, H⟩ := H;refine ⟨And.intro k87 (And.intro k88 trivial), ?_⟩;refine g_e 8 1535 [(0, fun h => Cells h a16 y72.cells)] (by kernel_rfl) rfl (by kernel_rfl) (e_call Tryz.call16 rfl (F.xbs_ok H)) rfl rfl ?_;rintro _ h89 ⟨r90, rfl, H⟩;obtain ⟨k91, H⟩ := H;refine ⟨And.intro k91 trivial, ?_⟩;refine g_p 9 2047 rfl (by kernel_rfl) (f_build rfl (bd_49_0_1 y72 r90)) rfl rfl (g_e 11 4095 [] (by kernel_rfl) rfl (by kernel_rfl) (f_store (vs := (⟨y72, r90⟩ : S_api_Row).cells) Tryz.sizeOf49 rfl rfl cellsOfStruct rfl (by intro v hv; exact ones_S_api_Row _ v hv) H) rfl rfl ?_);rintro _ h92 ⟨rfl, H⟩;refine ⟨trivial, ?_⟩;refine g_d (by kernel_rfl) (tr_thenN ?_);exact tr_join [(1, x1.enc), (2, x2.enc), (7, (.pointer x7)), (9, (.pointer x9)), (11, (.int .i64 x11)), (13, (.int .i64 (IntKind.wrap .i64 (1 + (IntKind.wrap .i64 (Int.tdiv x11 10)))))), (16, (.pointer (some a86)))] ⟨rfl, rfl, rfl, rfl, rfl, rfl, rfl, trivial⟩ ⟨_, _, _, _, _, _, _, rfl, H⟩
   ·refine tr_seq_j (fun L' h => ∃ (x1 : Sl) (x2 : Sl) (x7 : Option Addr) (x9 : Option Addr) (x11 : Int) (x55 : Bool), L' = [(1, x1.enc), (2, x2.enc), (7, (.pointer x7)), (9, (.pointer x9)), (11, (.int .i64 x11)), (55, (.bool x55))] ∧ F.xaa.j11 Q (F.xaa.l2 Q q2) x1 x2 x7 x9 x11 x55 h) ?_ ?_
    ·rintro L' h ⟨x1, x2, x7, x9, x11, x55, rfl, H⟩;unfold F.xaa.j11 at H;refine tr_cond rfl (fun g93 => ?_) (fun g93 => ?_)
     ·replace H := H.1 g93;refine tr_skip (tr_thenN ?_);exact tr_join [(1, x1.enc), (2, x2.enc), (7, (.pointer x7)), (9, (.pointer x9)), (11, (.int .i64 x11))] ⟨rfl, rfl, rfl, rfl, rfl, trivial⟩ ⟨_, _, _, _, _, rfl, H⟩
     ·replace H := H.2 g93;refine tr_exit (tr_thenE (tr_thenE (tr_hit (tr_thenN (tr_seq (tr_region (tq (y_assign rfl) (tr_nil (tr_thenN (tr_seq (tr_seq (tr_region (tq (y_assign rfl) ?_)))))))))))));refine tr_nil (tr_thenN (tr_block ?_));obtain ⟨m179, H⟩ := H;refine tr_sub [(2, x2.enc), (7, (.pointer x7)), (9, (.pointer x9)), (17, (.int .i64 0)), (18, (.int .i64 0))] ⟨rfl, rfl, rfl, rfl, rfl, trivial⟩ ?_;refine tr_loop_j (fun m L' h => ∃ (x2 : Sl) (x7 : Option Addr) (x9 : Option Addr) (x17 : Int) (x18 : Int), L' = [(2, x2.enc), (7, (.pointer x7)), (9, (.pointer x9)), (17, (.int .i64 x17)), (18, (.int .i64 x18))] ∧ F.xaa.l12 Q m x2 x7 x9 x17 x18 h) ?_ ?_ m179 ⟨_, _, _, _, _, rfl, H⟩
      ·rintro L' h ⟨_, _, _, _, _, _, H⟩; exact H
      ·rintro q12 L' h ⟨x2, x7, x9, x17, x18, rfl, H⟩;unfold F.xaa.l12 at H;refine tr_seq (tr_seq (tr_region (tq (y_move rfl) (tq (y_lss rfl rfl) (tr_nil (tr_thenN ?_))))));refine tr_cond rfl (fun g94 => ?_) (fun g94 => ?_)
       ·replace H := H.1 g94;refine tr_skip (tr_thenN (tr_seq (tr_block (tr_region (tq (y_move rfl) (tq (y_move rfl) (tq (y_move rfl) (tr_e (e_call Tryz.call24 rfl (F.xcc_ok H)) rfl rfl ?_))))))));rintro _ h95 ⟨r96, rfl, H⟩;refine tq (y_add rfl rfl) (tq (y_assign rfl) (tr_nil (tr_blockN (tr_thenN (tr_region (tq (y_move rfl) (tq (y_add rfl rfl) (tq (y_assign rfl) (tr_nil (tr_thenN ?_))))))))));exact tr_join [(2, x2.enc), (7, (.pointer x7)), (9, (.pointer x9)), (17, (.int .i64 (IntKind.wrap .i64 (x17 + r96)))), (18, (.int .i64 (IntKind.wrap .i64 (x18 + 1))))] ⟨rfl, rfl, rfl, rfl, rfl, trivial⟩ ⟨_, _, _, _, _, rfl, H⟩
       ·replace H := H.2 g94;refine tr_exit (tr_thenE (tr_thenE (tr_hit (tr_thenN ?_))));refine tr_seq_j (fun L' h => ∃ (x2 : Sl) (x7 : Option Addr) (x9 : Option Addr), L' = [(2, x2.enc), (7, (.pointer x7)), (9, (.pointer x9))] ∧ F.xaa.j13 Q x2 x7 x9 h) ?_ ?_
        ·rintro L' h ⟨x2, x7, x9, rfl, H⟩;unfold F.xaa.j13 at H;refine tr_seq (tr_seq (tr_region (tq (y_assign rfl) (tr_nil (tr_thenN (tr_block ?_))))));obtain ⟨m161, H⟩ := H;refine tr_sub [(2, x2.enc), (7, (.pointer x7)), (9, (.pointer x9)), (19, (.int .i64 0))] ⟨rfl, rfl, rfl, rfl, trivial⟩ ?_;refine tr_loop_j (fun m L' h => ∃ (x2 : Sl) (x7 : Option Addr) (x9 : Option Addr) (x19 : Int), L' = [(2, x2.enc), (7, (.pointer x7)), (9, (.pointer x9)), (19, (.int .i64 x19))] ∧ F.xaa.l14 Q m x2 x7 x9 x19 h) ?_ ?_ m161 ⟨_, _, _, _, rfl, H⟩
         ·rintro L' h ⟨_, _, _, _, _, H⟩; exact H
         ·rintro q14 L' h ⟨x2, x7, x9, x19, rfl, H⟩;unfold F.xaa.l14 at H;refine tr_seq_j (fun L' h => ∃ (x2 : Sl) (x7 : Option Addr) (x9 : Option Addr) (x19 : Int), L' = [(2, x2.enc), (7, (.pointer x7)), (9, (.pointer x9)), (19, (.int .i64 x19))] ∧ F.xaa.j15 Q (F.xaa.l14 Q q14) x2 x7 x9 x19 h) ?_ ?_
          ·rintro L' h ⟨x2, x7, x9, x19, rfl, H⟩;unfold F.xaa.j15 at H;refine tr_seq_j (fun L' h => ∃ (x2 : Sl) (x7 : Option Addr) (x9 : Option Addr) (x19 : Int), L' = [(2, x2.enc), (7, (.pointer x7)), (9, (.pointer x9)), (19, (.int .i64 x19))] ∧ F.xaa.j16 Q (F.xaa.l14 Q q14) x2 x7 x9 x19 h) ?_ ?_
           ·rintro L' h ⟨x2, x7, x9, x19, rfl, H⟩;unfold F.xaa.j16 at H;refine tr_region (tq (y_move rfl) (tq (y_add rfl rfl) (tq (y_assign rfl) (tr_nil (tr_thenN ?_)))));exact tr_join [(2, x2.enc), (7, (.pointer x7)), (9, (.pointer x9)), (19, (.int .i64 (IntKind.wrap .i64 (x19 + 1))))] ⟨rfl, rfl, rfl, rfl, trivial⟩ ⟨_, _, _, _, rfl, H⟩
           ·refine tr_block (tr_seq (tr_region (tq (y_move rfl) (tq (y_move rfl) ?_))));obtain ⟨a97, e98, H⟩ := H;refine tq (f_idx (s := x2) Tryz.runUnderlying33 Tryz.sizeOf46 rfl rfl e98) ?_;obtain ⟨y99, k100, H⟩ := H;refine tr_h (y_ldS Tryz.isAgg46 Tryz.sizeOf46 rfl rfl) k100 rfl rfl (tr_e (f_alloc (cs := ((⟨(⟨0, 0, (⟨0, (⟨#[]⟩ : ByteArray), 0⟩ : S_api_Cell), (⟨0, 0, 0, 0⟩ : S_api_Agg), (⟨none, 0, 0⟩ : Sl), (⟨none, 0, 0⟩ : Sl), (⟨0, (⟨#[]⟩ : ByteArray), 0⟩ : S_api_Cell), 0⟩ : S_spatelaw7_Step), 0⟩ : S_spatelaw10_Step) : S_spatelaw10_Step).cells.toArray) Tryz.zeroValue46 rfl H) rfl rfl ?_);rintro _ h101 ⟨a102, rfl, H⟩;refine tr_e (f_store (vs := y99.cells) Tryz.sizeOf46 rfl rfl cellsOfStruct rfl (by intro v hv; exact ones_S_spatelaw10_Step _ v hv) H) rfl rfl ?_;rintro _ h103 ⟨rfl, H⟩;refine tr_nil (tr_thenN (tr_seq (tr_region (tq (y_fa (off := 0) Tryz.runUnderlying46 fo_46_0 rfl) (tq (y_fa (off := 1) Tryz.runUnderlying44 fo_44_1 rfl) ?_)))));obtain ⟨y104, k105, H⟩ := H;refine tr_h (y_ld Tryz.isAgg3 rfl) k105 rfl rfl (tr_e (e_call Tryz.call13 rfl (F.xax_ok H)) rfl rfl ?_);rintro _ h106 ⟨r107, rfl, H⟩;refine tq (y_assign rfl) (tr_nil (tr_thenN (tr_seq (tr_region (tq (y_fa (off := 0) Tryz.runUnderlying46 fo_46_0 rfl) (tq (y_fa (off := 2) Tryz.runUnderlying44 fo_44_2 rfl) ?_))))));obtain ⟨y108, k109, H⟩ := H;refine tr_h (y_ldS Tryz.isAgg35 Tryz.sizeOf35 rfl rfl) k109 rfl rfl (tr_e (e_call Tryz.call15 rfl (F.xbh_ok H)) rfl rfl ?_);rintro _ h110 ⟨r111, rfl, H⟩;refine tr_e (f_alloc (cs := ((⟨0, (⟨#[]⟩ : ByteArray), 0⟩ : S_api_Cell) : S_api_Cell).cells.toArray) Tryz.zeroValue35 rfl H) rfl rfl ?_;rintro _ h112 ⟨a113, rfl, H⟩;refine tr_e (f_store (vs := r111.cells) Tryz.sizeOf35 rfl rfl cellsOfStruct rfl (by intro v hv; exact ones_S_api_Cell _ v hv) H) rfl rfl ?_;rintro _ h114 ⟨rfl, H⟩;refine tr_nil (tr_thenN ?_);refine tr_seq_j (fun L' h => ∃ (x2 : Sl) (x7 : Option Addr) (x9 : Option Addr) (x19 : Int) (x253 : Bool), L' = [(2, x2.enc), (7, (.pointer x7)), (9, (.pointer x9)), (19, (.int .i64 x19)), (253, (.bool x253))] ∧ F.xaa.j17 Q (F.xaa.l14 Q q14) x2 x7 x9 x19 x253 h) ?_ ?_
            ·rintro L' h ⟨x2, x7, x9, x19, x253, rfl, H⟩;unfold F.xaa.j17 at H;refine tr_cond rfl (fun g115 => ?_) (fun g115 => ?_)
             ·replace H := H.1 g115;refine tr_seq (tr_region (tq (y_assign rfl) (tr_nil (tr_thenN (tr_ret (tr_blockR (tr_thenR (tr_thenR (tr_blockR (tr_thenR ?_))))))))));exact tr_ret1 rfl rfl ⟨_, rfl, H⟩
             ·replace H := H.2 g115;refine tr_skip (tr_blockN (tr_thenN ?_));exact tr_join [(2, x2.enc), (7, (.pointer x7)), (9, (.pointer x9)), (19, (.int .i64 x19))] ⟨rfl, rfl, rfl, rfl, trivial⟩ ⟨_, _, _, _, rfl, H⟩
            ·refine tr_draw mixed [0, 0, 3, 0, 0, 31, 63, 127, 255, 255, 255, 2047, 255, 255, 255, 32767, 65535, 131071, 262143, 524287, 524287, 524287, 2621439, 6815743, 524287, 17301503, 50855935, 524287, 134742015, 403177471, 1073741823, 524287, 524287, 524287, 8590458879, 25770328063, 524287, 68720001023, 206158954495, 524287, 549756338175, 1649267965951, 4398046511103, 8796093022207, 17592186044415, 35184372088831] (by kernel_rfl) (g_p 0 1 rfl (by kernel_rfl) (y_move rfl) rfl rfl ?_);obtain ⟨y116, k117, H⟩ := H;refine g_h 1 3 rfl (by kernel_rfl) (y_ldS Tryz.isAgg35 Tryz.sizeOf35 rfl rfl) k117 rfl rfl (g_p 3 11 rfl (by kernel_rfl) (y_move rfl) rfl rfl ?_);obtain ⟨y118, k119, H⟩ := H;refine g_h 4 27 rfl (by kernel_rfl) (y_ldS Tryz.isAgg35 Tryz.sizeOf35 rfl rfl) k119 rfl rfl (g_e 2 31 [(4, fun h => Cells h a113 y118.cells)] (by kernel_rfl) rfl (by kernel_rfl) (e_call Tryz.call20 rfl (F.xct_ok H)) rfl rfl ?_);rintro _ h120 ⟨r121, rfl, H⟩;obtain ⟨k122, H⟩ := H;refine ⟨And.intro k122 trivial, ?_⟩;refine g_e 5 63 [] (by kernel_rfl) rfl (by kernel_rfl) (e_call Tryz.call36 rfl (F.xcm_ok H)) rfl rfl ?_;rintro _ h123 ⟨r124, rfl, H⟩;refine ⟨trivial, ?_⟩;refine g_p 6 127 rfl (by kernel_rfl) (st_neq (b := ((r121.Count == r124.Count) && ((r121.Sum == r124.Sum) && ((r121.Min == r124.Min) && ((r121.Max == r124.Max) && true))))) eqg_40 (fun w => eqst_40 r121 r124 9998 w) rfl rfl) rfl rfl (g_p 7 255 rfl (by kernel_rfl) (y_move rfl) rfl rfl ?_);refine g_split (t := 215) rfl (fun g125 => ?_) (fun g125 => ?_)
             ·replace H := H.1 g125;refine g_s 8 511 rfl (by kernel_rfl) rfl rfl (g_s 9 1023 rfl (by kernel_rfl) rfl rfl (g_s 10 2047 rfl (by kernel_rfl) rfl rfl (g_s 11 4095 rfl (by kernel_rfl) rfl rfl (g_s 12 8191 rfl (by kernel_rfl) rfl rfl (g_s 13 16383 rfl (by kernel_rfl) rfl rfl (g_s 14 32767 rfl (by kernel_rfl) rfl rfl (g_s 15 65535 rfl (by kernel_rfl) rfl rfl (g_s 16 131071 rfl (by kernel_rfl) rfl rfl (g_p 17 262143 rfl (by kernel_rfl) (y_pick_t rfl rfl) rfl rfl (g_p 18 524287 rfl (by kernel_rfl) (y_move rfl) rfl rfl (g_s 19 1048575 rfl (by kernel_rfl) rfl rfl (g_s 20 2097151 rfl (by kernel_rfl) rfl rfl (g_s 21 4194303 rfl (by kernel_rfl) rfl rfl ?_)))))))))))));refine g_s 22 8388607 rfl (by kernel_rfl) rfl rfl (g_s 23 16777215 rfl (by kernel_rfl) rfl rfl (g_s 24 33554431 rfl (by kernel_rfl) rfl rfl (g_s 25 67108863 rfl (by kernel_rfl) rfl rfl (g_s 26 134217727 rfl (by kernel_rfl) rfl rfl (g_s 27 268435455 rfl (by kernel_rfl) rfl rfl (g_s 28 536870911 rfl (by kernel_rfl) rfl rfl (g_s 29 1073741823 rfl (by kernel_rfl) rfl rfl (g_s 30 2147483647 rfl (by kernel_rfl) rfl rfl (g_s 31 4294967295 rfl (by kernel_rfl) rfl rfl (g_s 32 8589934591 rfl (by kernel_rfl) rfl rfl (g_s 33 17179869183 rfl (by kernel_rfl) rfl rfl (g_s 34 34359738367 rfl (by kernel_rfl) rfl rfl (g_s 35 68719476735 rfl (by kernel_rfl) rfl rfl ?_)))))))))))));refine g_s 36 137438953471 rfl (by kernel_rfl) rfl rfl (g_s 37 274877906943 rfl (by kernel_rfl) rfl rfl (g_s 38 549755813887 rfl (by kernel_rfl) rfl rfl (g_s 39 1099511627775 rfl (by kernel_rfl) rfl rfl (g_s 40 2199023255551 rfl (by kernel_rfl) rfl rfl (g_s 41 4398046511103 rfl (by kernel_rfl) rfl rfl (g_s 42 8796093022207 rfl (by kernel_rfl) rfl rfl (g_s 43 17592186044415 rfl (by kernel_rfl) rfl rfl (g_s 44 35184372088831 rfl (by kernel_rfl) rfl rfl (g_p 45 70368744177663 rfl (by kernel_rfl) (y_pick_t rfl rfl) rfl rfl (g_d (by kernel_rfl) (tr_thenN ?_)))))))))));exact tr_join [(2, x2.enc), (7, (.pointer x7)), (9, (.pointer x9)), (19, (.int .i64 x19)), (253, (.bool true))] ⟨rfl, rfl, rfl, rfl, rfl, trivial⟩ ⟨_, _, _, _, _, rfl, H⟩
             ·replace H := H.2 g125;refine g_p 8 511 rfl (by kernel_rfl) (y_move rfl) rfl rfl ?_;obtain ⟨y126, k127, H⟩ := H;refine g_h 9 1023 rfl (by kernel_rfl) (y_ldS Tryz.isAgg35 Tryz.sizeOf35 rfl rfl) k127 rfl rfl (g_p 10 2047 rfl (by kernel_rfl) (y_move rfl) rfl rfl (g_p 12 6143 rfl (by kernel_rfl) (y_move rfl) rfl rfl ?_));obtain ⟨y128, k129, H⟩ := H;refine g_h 13 14335 rfl (by kernel_rfl) (y_ldS Tryz.isAgg35 Tryz.sizeOf35 rfl rfl) k129 rfl rfl (g_p 14 30719 rfl (by kernel_rfl) (y_move rfl) rfl rfl (g_e 11 32767 [(13, fun h => Cells h a113 y128.cells)] (by kernel_rfl) rfl (by kernel_rfl) (e_call Tryz.call37 rfl (F.xcz_ok H)) rfl rfl ?_));rintro _ h130 ⟨r131, rfl, H⟩;obtain ⟨k132, H⟩ := H;refine ⟨And.intro k132 trivial, ?_⟩;refine g_e 15 65535 [] (by kernel_rfl) rfl (by kernel_rfl) (e_call Tryz.call38 rfl (F.xcb_ok H)) rfl rfl ?_;rintro _ h133 ⟨r134, rfl, H⟩;refine ⟨trivial, ?_⟩;refine g_p 16 131071 rfl (by kernel_rfl) (st_neq (b := ((r131.Count == r134.Count) && ((r131.Sum == r134.Sum) && ((r131.Min == r134.Min) && ((r131.Max == r134.Max) && true))))) eqg_40 (fun w => eqst_40 r131 r134 9998 w) rfl rfl) rfl rfl (g_p 17 262143 rfl (by kernel_rfl) (y_pick_f rfl rfl) rfl rfl (g_p 18 524287 rfl (by kernel_rfl) (y_move rfl) rfl rfl ?_));refine g_split (t := 226) rfl (fun g135 => ?_) (fun g135 => ?_)
              ·replace H := H.1 g135;refine g_s 19 1048575 rfl (by kernel_rfl) rfl rfl (g_s 20 2097151 rfl (by kernel_rfl) rfl rfl (g_s 21 4194303 rfl (by kernel_rfl) rfl rfl (g_s 22 8388607 rfl (by kernel_rfl) rfl rfl (g_s 23 16777215 rfl (by kernel_rfl) rfl rfl (g_s 24 33554431 rfl (by kernel_rfl) rfl rfl (g_s 25 67108863 rfl (by kernel_rfl) rfl rfl (g_s 26 134217727 rfl (by kernel_rfl) rfl rfl (g_s 27 268435455 rfl (by kernel_rfl) rfl rfl (g_s 28 536870911 rfl (by kernel_rfl) rfl rfl (g_s 29 1073741823 rfl (by kernel_rfl) rfl rfl (g_s 30 2147483647 rfl (by kernel_rfl) rfl rfl (g_s 31 4294967295 rfl (by kernel_rfl) rfl rfl (g_s 32 8589934591 rfl (by kernel_rfl) rfl rfl ?_)))))))))))));refine g_s 33 17179869183 rfl (by kernel_rfl) rfl rfl (g_s 34 34359738367 rfl (by kernel_rfl) rfl rfl (g_s 35 68719476735 rfl (by kernel_rfl) rfl rfl (g_s 36 137438953471 rfl (by kernel_rfl) rfl rfl (g_s 37 274877906943 rfl (by kernel_rfl) rfl rfl (g_s 38 549755813887 rfl (by kernel_rfl) rfl rfl (g_s 39 1099511627775 rfl (by kernel_rfl) rfl rfl (g_s 40 2199023255551 rfl (by kernel_rfl) rfl rfl (g_s 41 4398046511103 rfl (by kernel_rfl) rfl rfl (g_s 42 8796093022207 rfl (by kernel_rfl) rfl rfl (g_s 43 17592186044415 rfl (by kernel_rfl) rfl rfl (g_s 44 35184372088831 rfl (by kernel_rfl) rfl rfl (g_p 45 70368744177663 rfl (by kernel_rfl) (y_pick_t rfl rfl) rfl rfl (g_d (by kernel_rfl) ?_)))))))))))));refine tr_thenN ?_;exact tr_join [(2, x2.enc), (7, (.pointer x7)), (9, (.pointer x9)), (19, (.int .i64 x19)), (253, (.bool true))] ⟨rfl, rfl, rfl, rfl, rfl, trivial⟩ ⟨_, _, _, _, _, rfl, H⟩
              ·replace H := H.2 g135;refine g_p 19 1048575 rfl (by kernel_rfl) (y_move rfl) rfl rfl (g_p 20 2097151 rfl (by kernel_rfl) (y_move rfl) rfl rfl (g_p 21 4194303 rfl (by kernel_rfl) (y_fa (off := 0) Tryz.runUnderlying46 fo_46_0 rfl) rfl rfl (g_p 22 8388607 rfl (by kernel_rfl) (y_fa (off := 2) Tryz.runUnderlying44 fo_44_2 rfl) rfl rfl ?_)));obtain ⟨y136, k137, H⟩ := H;refine g_h 23 16777215 rfl (by kernel_rfl) (y_ldS Tryz.isAgg35 Tryz.sizeOf35 rfl rfl) k137 rfl rfl (g_p 24 33554431 rfl (by kernel_rfl) (y_fa (off := 0) Tryz.runUnderlying46 fo_46_0 rfl) rfl rfl (g_p 25 67108863 rfl (by kernel_rfl) (y_fa (off := 11) Tryz.runUnderlying44 fo_44_6 rfl) rfl rfl ?_));obtain ⟨y138, k139, H⟩ := H;refine g_h 26 134217727 rfl (by kernel_rfl) (y_ldS Tryz.isAgg35 Tryz.sizeOf35 rfl rfl) k139 rfl rfl (g_p 27 268435455 rfl (by kernel_rfl) (y_fa (off := 0) Tryz.runUnderlying46 fo_46_0 rfl) rfl rfl (g_p 28 536870911 rfl (by kernel_rfl) (y_fa (off := 14) Tryz.runUnderlying44 fo_44_7 rfl) rfl rfl ?_));obtain ⟨y140, k141, H⟩ := H;refine g_h 29 1073741823 rfl (by kernel_rfl) (y_ld Tryz.isAgg3 rfl) k141 rfl rfl (g_p 31 3221225471 rfl (by kernel_rfl) (y_move rfl) rfl rfl (g_p 32 7516192767 rfl (by kernel_rfl) (y_move rfl) rfl rfl (g_p 33 16106127359 rfl (by kernel_rfl) (y_fa (off := 0) Tryz.runUnderlying46 fo_46_0 rfl) rfl rfl (g_p 34 33285996543 rfl (by kernel_rfl) (y_fa (off := 2) Tryz.runUnderlying44 fo_44_2 rfl) rfl rfl ?_))));obtain ⟨y142, k143, H⟩ := H;refine g_h 35 67645734911 rfl (by kernel_rfl) (y_ldS Tryz.isAgg35 Tryz.sizeOf35 rfl rfl) k143 rfl rfl (g_p 36 136365211647 rfl (by kernel_rfl) (y_fa (off := 0) Tryz.runUnderlying46 fo_46_0 rfl) rfl rfl (g_p 37 273804165119 rfl (by kernel_rfl) (y_fa (off := 11) Tryz.runUnderlying44 fo_44_6 rfl) rfl rfl ?_));obtain ⟨y144, k145, H⟩ := H;refine g_h 38 548682072063 rfl (by kernel_rfl) (y_ldS Tryz.isAgg35 Tryz.sizeOf35 rfl rfl) k145 rfl rfl (g_p 39 1098437885951 rfl (by kernel_rfl) (y_fa (off := 0) Tryz.runUnderlying46 fo_46_0 rfl) rfl rfl (g_p 40 2197949513727 rfl (by kernel_rfl) (y_fa (off := 14) Tryz.runUnderlying44 fo_44_7 rfl) rfl rfl ?_));obtain ⟨y146, k147, H⟩ := H;refine g_h 41 4396972769279 rfl (by kernel_rfl) (y_ld Tryz.isAgg3 rfl) k147 rfl rfl (g_e 30 4398046511103 [(41, fun h => cellH h ((a102.add 0).add 14) = some (.int .i64 y146)), (38, fun h => Cells h ((a102.add 0).add 11) y144.cells), (35, fun h => Cells h ((a102.add 0).add 2) y142.cells)] (by kernel_rfl) rfl (by kernel_rfl) (e_call Tryz.call18 rfl (F.xbf_ok H)) rfl rfl ?_);rintro _ h148 ⟨r149, rfl, H⟩;obtain ⟨k150, k151, k152, H⟩ := H;refine ⟨And.intro k150 (And.intro k151 (And.intro k152 trivial)), ?_⟩;refine g_e 42 8796093022207 [] (by kernel_rfl) rfl (by kernel_rfl) (e_call Tryz.call39 rfl (F.xaj_ok H)) rfl rfl ?_;rintro _ h153 ⟨r154, rfl, H⟩;refine ⟨trivial, ?_⟩;refine g_e 43 17592186044415 [] (by kernel_rfl) rfl (by kernel_rfl) (e_call Tryz.call19 rfl (F.xbo_ok H)) rfl rfl ?_;rintro _ h155 ⟨r156, rfl, H⟩;refine ⟨trivial, ?_⟩;refine g_p 44 35184372088831 rfl (by kernel_rfl) (y_not rfl) rfl rfl (g_p 45 70368744177663 rfl (by kernel_rfl) (y_pick_f rfl rfl) rfl rfl (g_d (by kernel_rfl) (tr_thenN ?_)));exact tr_join [(2, x2.enc), (7, (.pointer x7)), (9, (.pointer x9)), (19, (.int .i64 x19)), (253, (.bool (!r156)))] ⟨rfl, rfl, rfl, rfl, rfl, trivial⟩ ⟨_, _, _, _, _, rfl, H⟩
          ·refine tr_seq_j (fun L' h => ∃ (x2 : Sl) (x7 : Option Addr) (x9 : Option Addr) (x19 : Int) (x193 : Bool), L' = [(2, x2.enc), (7, (.pointer x7)), (9, (.pointer x9)), (19, (.int .i64 x19)), (193, (.bool x193))] ∧ F.xaa.j18 Q (F.xaa.l14 Q q14) x2 x7 x9 x19 x193 h) ?_ ?_
           ·rintro L' h ⟨x2, x7, x9, x19, x193, rfl, H⟩;unfold F.xaa.j18 at H;refine tr_cond rfl (fun g157 => ?_) (fun g157 => ?_)
            ·replace H := H.1 g157;refine tr_skip (tr_thenN ?_);exact tr_join [(2, x2.enc), (7, (.pointer x7)), (9, (.pointer x9)), (19, (.int .i64 x19))] ⟨rfl, rfl, rfl, rfl, trivial⟩ ⟨_, _, _, _, rfl, H⟩
            ·replace H := H.2 g157;refine tr_exit (tr_thenE (tr_thenE (tr_hit (tr_thenN (tr_seq (tr_region (tr_e (e_call Tryz.call12 rfl (F.xbc_ok H)) rfl rfl ?_)))))));rintro _ h158 ⟨r159, rfl, H⟩;refine tq (y_assign rfl) (tr_nil (tr_thenN (tr_ret ?_)));exact tr_ret1 rfl rfl ⟨_, rfl, H⟩
           ·refine tr_region (tq (y_move rfl) (tq (y_move rfl) (tq (y_len (ts := #[]) Tryz.runUnderlying33 (o := x2.ptr) (n := x2.len) (cap := x2.cap) rfl) (tq (y_lss rfl rfl) (tq (y_move rfl) ?_)))));refine tr_split (t := 190) rfl (fun g160 => ?_) (fun g160 => ?_)
            ·replace H := H.1 g160;refine tq (y_move rfl) (tq (y_lss rfl rfl) (tq (y_pick_t rfl rfl) (tr_nil (tr_thenN ?_))));exact tr_join [(2, x2.enc), (7, (.pointer x7)), (9, (.pointer x9)), (19, (.int .i64 x19)), (193, (.bool (decide (x19 < 20))))] ⟨rfl, rfl, rfl, rfl, rfl, trivial⟩ ⟨_, _, _, _, _, rfl, H⟩
            ·replace H := H.2 g160;refine ts (ts (tq (y_pick_f rfl rfl) (tr_nil (tr_thenN ?_))));exact tr_join [(2, x2.enc), (7, (.pointer x7)), (9, (.pointer x9)), (19, (.int .i64 x19)), (193, (.bool false))] ⟨rfl, rfl, rfl, rfl, rfl, trivial⟩ ⟨_, _, _, _, _, rfl, H⟩
        ·refine tr_seq_j (fun L' h => ∃ (x2 : Sl) (x7 : Option Addr) (x9 : Option Addr) (x185 : Bool), L' = [(2, x2.enc), (7, (.pointer x7)), (9, (.pointer x9)), (185, (.bool x185))] ∧ F.xaa.j19 Q x2 x7 x9 x185 h) ?_ ?_
         ·rintro L' h ⟨x2, x7, x9, x185, rfl, H⟩;unfold F.xaa.j19 at H;refine tr_cond rfl (fun g162 => ?_) (fun g162 => ?_)
          ·replace H := H.1 g162;refine tr_seq (tr_region (tq (y_assign rfl) (tr_nil (tr_thenN (tr_ret (tr_thenR ?_))))));exact tr_ret1 rfl rfl ⟨_, rfl, H⟩
          ·replace H := H.2 g162;refine tr_skip (tr_thenN ?_);exact tr_join [(2, x2.enc), (7, (.pointer x7)), (9, (.pointer x9))] ⟨rfl, rfl, rfl, trivial⟩ ⟨_, _, _, rfl, H⟩
         ·refine tr_draw mixed [0, 0, 2, 6, 14, 31, 63, 127, 255, 127, 639, 1663, 4095, 8191, 16383, 32767, 65535, 131071, 65535, 524287, 1048575, 2097151] (by kernel_rfl) (g_p 0 1 rfl (by kernel_rfl) (y_move rfl) rfl rfl (g_p 1 3 rfl (by kernel_rfl) (y_move rfl) rfl rfl ?_));obtain ⟨a163, e164, H⟩ := H;refine g_p 2 7 rfl (by kernel_rfl) (f_nn rfl e164) rfl rfl (g_p 3 15 rfl (by kernel_rfl) (y_fa (off := 0) Tryz.runUnderlying74 fo_74_0 rfl) rfl rfl (g_e 4 31 [] (by kernel_rfl) rfl (by kernel_rfl) (e_call Tryz.call31 rfl (F.xcn_ok H)) rfl rfl ?_));rintro _ h165 ⟨r166, rfl, H⟩;refine ⟨trivial, ?_⟩;refine g_p 5 63 rfl (by kernel_rfl) (y_neq rfl rfl) rfl rfl (g_p 6 127 rfl (by kernel_rfl) (y_move rfl) rfl rfl ?_);refine g_split (t := 170) rfl (fun g167 => ?_) (fun g167 => ?_)
          ·replace H := H.1 g167;refine g_s 7 255 rfl (by kernel_rfl) rfl rfl (g_s 8 511 rfl (by kernel_rfl) rfl rfl (g_s 9 1023 rfl (by kernel_rfl) rfl rfl (g_s 10 2047 rfl (by kernel_rfl) rfl rfl (g_s 11 4095 rfl (by kernel_rfl) rfl rfl (g_s 12 8191 rfl (by kernel_rfl) rfl rfl (g_s 13 16383 rfl (by kernel_rfl) rfl rfl (g_p 14 32767 rfl (by kernel_rfl) (y_pick_t rfl rfl) rfl rfl (g_p 15 65535 rfl (by kernel_rfl) (y_move rfl) rfl rfl (g_s 16 131071 rfl (by kernel_rfl) rfl rfl (g_s 17 262143 rfl (by kernel_rfl) rfl rfl (g_s 18 524287 rfl (by kernel_rfl) rfl rfl (g_s 19 1048575 rfl (by kernel_rfl) rfl rfl (g_s 20 2097151 rfl (by kernel_rfl) rfl rfl ?_)))))))))))));refine g_p 21 4194303 rfl (by kernel_rfl) (y_pick_t rfl rfl) rfl rfl (g_d (by kernel_rfl) (tr_thenN ?_));exact tr_join [(2, x2.enc), (7, (.pointer x7)), (9, (.pointer x9)), (185, (.bool true))] ⟨rfl, rfl, rfl, rfl, trivial⟩ ⟨_, _, _, _, rfl, H⟩
          ·replace H := H.2 g167;refine g_p 7 255 rfl (by kernel_rfl) (y_move rfl) rfl rfl (g_p 9 767 rfl (by kernel_rfl) (y_move rfl) rfl rfl ?_);obtain ⟨a168, e169, H⟩ := H;refine g_p 10 1791 rfl (by kernel_rfl) (f_nn rfl e169) rfl rfl (g_p 11 3839 rfl (by kernel_rfl) (y_fa (off := 0) Tryz.runUnderlying74 fo_74_0 rfl) rfl rfl (g_e 8 4095 [] (by kernel_rfl) rfl (by kernel_rfl) (e_call Tryz.call32 rfl (F.xbp_ok H)) rfl rfl ?_));rintro _ h170 ⟨r171, rfl, H⟩;refine ⟨trivial, ?_⟩;refine g_e 12 8191 [] (by kernel_rfl) rfl (by kernel_rfl) (e_call Tryz.call33 rfl (F.xco_ok H)) rfl rfl ?_;rintro _ h172 ⟨r173, rfl, H⟩;refine ⟨trivial, ?_⟩;refine g_p 13 16383 rfl (by kernel_rfl) (y_neq rfl rfl) rfl rfl (g_p 14 32767 rfl (by kernel_rfl) (y_pick_f rfl rfl) rfl rfl (g_p 15 65535 rfl (by kernel_rfl) (y_move rfl) rfl rfl ?_));refine g_split (t := 179) rfl (fun g174 => ?_) (fun g174 => ?_)
           ·replace H := H.1 g174;refine g_s 16 131071 rfl (by kernel_rfl) rfl rfl (g_s 17 262143 rfl (by kernel_rfl) rfl rfl (g_s 18 524287 rfl (by kernel_rfl) rfl rfl (g_s 19 1048575 rfl (by kernel_rfl) rfl rfl (g_s 20 2097151 rfl (by kernel_rfl) rfl rfl (g_p 21 4194303 rfl (by kernel_rfl) (y_pick_t rfl rfl) rfl rfl (g_d (by kernel_rfl) (tr_thenN ?_)))))));exact tr_join [(2, x2.enc), (7, (.pointer x7)), (9, (.pointer x9)), (185, (.bool true))] ⟨rfl, rfl, rfl, rfl, trivial⟩ ⟨_, _, _, _, rfl, H⟩
           ·replace H := H.2 g174;refine g_p 16 131071 rfl (by kernel_rfl) (y_move rfl) rfl rfl (g_p 18 393215 rfl (by kernel_rfl) (y_move rfl) rfl rfl (g_e 17 524287 [] (by kernel_rfl) rfl (by kernel_rfl) (e_call Tryz.call34 rfl (F.xbn_ok H)) rfl rfl ?_));rintro _ h175 ⟨r176, rfl, H⟩;refine ⟨trivial, ?_⟩;refine g_e 19 1048575 [] (by kernel_rfl) rfl (by kernel_rfl) (e_call Tryz.call35 rfl (F.xcj_ok H)) rfl rfl ?_;rintro _ h177 ⟨r178, rfl, H⟩;refine ⟨trivial, ?_⟩;refine g_p 20 2097151 rfl (by kernel_rfl) (y_neq rfl rfl) rfl rfl (g_p 21 4194303 rfl (by kernel_rfl) (y_pick_f rfl rfl) rfl rfl (g_d (by kernel_rfl) (tr_thenN ?_)));exact tr_join [(2, x2.enc), (7, (.pointer x7)), (9, (.pointer x9)), (185, (.bool ((r176 != r178))))] ⟨rfl, rfl, rfl, rfl, trivial⟩ ⟨_, _, _, _, rfl, H⟩
    ·refine tr_region (tq (y_move rfl) (tq (y_move rfl) (tq (y_len (ts := #[]) Tryz.runUnderlying33 (o := x1.ptr) (n := x1.len) (cap := x1.cap) rfl) (tq (y_lss rfl rfl) (tq (y_move rfl) ?_)))));refine tr_split (t := 52) rfl (fun g180 => ?_) (fun g180 => ?_)
     ·replace H := H.1 g180;refine tq (y_move rfl) (tq (y_lss rfl rfl) (tq (y_pick_t rfl rfl) (tr_nil (tr_thenN ?_))));exact tr_join [(1, x1.enc), (2, x2.enc), (7, (.pointer x7)), (9, (.pointer x9)), (11, (.int .i64 x11)), (55, (.bool (decide (x11 < 60))))] ⟨rfl, rfl, rfl, rfl, rfl, rfl, trivial⟩ ⟨_, _, _, _, _, _, rfl, H⟩
     ·replace H := H.2 g180;refine ts (ts (tq (y_pick_f rfl rfl) (tr_nil (tr_thenN ?_))));exact tr_join [(1, x1.enc), (2, x2.enc), (7, (.pointer x7)), (9, (.pointer x9)), (11, (.int .i64 x11)), (55, (.bool false))] ⟨rfl, rfl, rfl, rfl, rfl, rfl, trivial⟩ ⟨_, _, _, _, _, _, rfl, H⟩
 ·refine tr_seq_j (fun L' h => ∃ (x1 : Sl) (x2 : Sl) (x7 : Option Addr) (x9 : Option Addr) (x47 : Bool), L' = [(1, x1.enc), (2, x2.enc), (7, (.pointer x7)), (9, (.pointer x9)), (47, (.bool x47))] ∧ F.xaa.j20 Q x1 x2 x7 x9 x47 h) ?_ ?_
  ·rintro L' h ⟨x1, x2, x7, x9, x47, rfl, H⟩;unfold F.xaa.j20 at H;refine tr_cond rfl (fun g182 => ?_) (fun g182 => ?_)
   ·replace H := H.1 g182;refine tr_seq (tr_region (tq (y_assign rfl) (tr_nil (tr_thenN (tr_ret (tr_thenR ?_))))));exact tr_ret1 rfl rfl ⟨_, rfl, H⟩
   ·replace H := H.2 g182;refine tr_skip (tr_thenN ?_);exact tr_join [(1, x1.enc), (2, x2.enc), (7, (.pointer x7)), (9, (.pointer x9))] ⟨rfl, rfl, rfl, rfl, trivial⟩ ⟨_, _, _, _, rfl, H⟩
  ·refine tr_region (tq (y_move rfl) (tq (y_neq rfl rfl) (tq (y_move rfl) ?_)));refine tr_split (t := 36) rfl (fun g183 => ?_) (fun g183 => ?_)
   ·replace H := H.1 g183;refine ts (ts (tq (y_pick_t rfl rfl) (tq (y_move rfl) (ts (ts (tq (y_pick_t rfl rfl) (tq (y_move rfl) (ts (ts (tq (y_pick_t rfl rfl) (tr_nil (tr_thenN ?_))))))))))));exact tr_join [(1, p1.enc), (2, p2.enc), (7, (.pointer r4)), (9, (.pointer r7)), (47, (.bool true))] ⟨rfl, rfl, rfl, rfl, rfl, trivial⟩ ⟨_, _, _, _, _, rfl, H⟩
   ·replace H := H.2 g183;refine tq (y_move rfl) (tq (y_neq rfl rfl) (tq (y_pick_f rfl rfl) (tq (y_move rfl) ?_)));refine tr_split (t := 40) rfl (fun g184 => ?_) (fun g184 => ?_)
    ·replace H := H.1 g184;refine ts (ts (tq (y_pick_t rfl rfl) (tq (y_move rfl) (ts (ts (tq (y_pick_t rfl rfl) (tr_nil (tr_thenN ?_))))))));exact tr_join [(1, p1.enc), (2, p2.enc), (7, (.pointer r4)), (9, (.pointer r7)), (47, (.bool true))] ⟨rfl, rfl, rfl, rfl, rfl, trivial⟩ ⟨_, _, _, _, _, rfl, H⟩
    ·replace H := H.2 g184;refine tq (y_move rfl) (tq (y_pnil_eql Tryz.runUnderlying23 rfl rfl) (tq (y_pick_f rfl rfl) (tq (y_move rfl) ?_)));refine tr_split (t := 44) rfl (fun g185 => ?_) (fun g185 => ?_)
     ·replace H := H.1 g185;refine ts (ts (tq (y_pick_t rfl rfl) (tr_nil (tr_thenN ?_))));exact tr_join [(1, p1.enc), (2, p2.enc), (7, (.pointer r4)), (9, (.pointer r7)), (47, (.bool true))] ⟨rfl, rfl, rfl, rfl, rfl, trivial⟩ ⟨_, _, _, _, _, rfl, H⟩
     ·replace H := H.2 g185;refine tq (y_move rfl) (tq (y_pnil_eql Tryz.runUnderlying64 rfl rfl) (tq (y_pick_f rfl rfl) (tr_nil (tr_thenN ?_))));exact tr_join [(1, p1.enc), (2, p2.enc), (7, (.pointer r4)), (9, (.pointer r7)), (47, (.bool r7.isNone))] ⟨rfl, rfl, rfl, rfl, rfl, trivial⟩ ⟨_, _, _, _, _, rfl, H⟩
set_option linter.unusedSimpArgs false
abbrev Cel := S_api_Cell
theorem cU_one (b : UInt8) : ∀ v ∈ cU b, v.oneCell' = true := one1 rfl
theorem Blk.cells3 {h : H} {n : Nat} {c : Cel} {e : TypeId} (k : Blk h n c.cells.toArray e) : Cells h ⟨n, 0, none⟩ c.cells := fun j v hv => by rw [add_lit, Nat.zero_add]; exact k.cell (by simpa using hv)
def mayC (c : Cel) : Int := if c.View < 0 ∨ c.View > 4 then 23 else if (c.Key.size : Int) > 32 then 21 else if c.Start < -2305843009213693952 ∨ c.Start > 2305843009213693952 then 22 else 0
theorem mayC_spec {h : H} {c : Cel} {Q : Int -> H -> Prop} (k : ∀ h', Ext h h' -> Q (mayC c) h') : F.xat c h Q := by
  unfold F.xat
  refine new_of fun n h1 e1 e2 e3 e4 => ?_
  have k := k h1 e3
  unfold mayC at k
  simp only [F.xat.j1, F.xat.j2, add_lit, Nat.zero_add, ldI_iff (e2.cell (i := 0) (v := .int .i64 c.View) rfl), ldS_iff (e2.cell (i := 1) (v := .string c.Key) rfl), ldI_iff (e2.cell (i := 2) (v := .int .i64 c.Start) rfl), decide_eq_true_eq, decide_eq_false_iff_not]
  have hb : ¬ (c.View < 0 ∨ c.View > 4) -> ((c.Key.size : Int) > 32 -> Q 21 h1) ∧ (¬ (c.Key.size : Int) > 32 -> (c.Start < -2305843009213693952 -> (True -> Q 22 h1) ∧ (true = false -> Q 0 h1)) ∧ (¬ c.Start < -2305843009213693952 -> (c.Start > 2305843009213693952 -> Q 22 h1) ∧ (¬ c.Start > 2305843009213693952 -> Q 0 h1))) := fun g => by
    rw [if_neg g] at k
    refine ⟨fun g1 => by rw [if_pos g1] at k; exact k, fun g1 => ?_⟩
    rw [if_neg g1] at k
    refine ⟨fun g2 => ⟨fun _ => by rw [if_pos (.inl g2)] at k; exact k, fun h => by cases h⟩, fun g2 => ⟨fun g3 => by rw [if_pos (.inr g3)] at k; exact k, fun g3 => by rw [if_neg (by omega)] at k; exact k⟩⟩
  refine ⟨fun g => ⟨fun _ => by rw [if_pos (.inl g)] at k; exact k, fun h => by cases h⟩, fun g => ⟨fun g2 => by rw [if_pos (.inr g2)] at k; exact k, fun g2 => hb (by omega)⟩⟩
def escL : List UInt8 -> List UInt8
  | [] => []
  | b :: r => if b = 0 then 0 :: 255 :: escL r else b :: escL r
theorem escL_snoc (b : UInt8) : ∀ l, escL (l ++ [b]) = escL l ++ (if b = 0 then [0, 255] else [b])
  | [] => by by_cases h : b = 0 <;> simp [escL, h]
  | x :: r => by simp only [List.cons_append, escL, escL_snoc b r]; split <;> simp
theorem escL_len : ∀ l : List UInt8, (escL l).length <= 2 * l.length
  | [] => by simp [escL]
  | b :: r => by have := escL_len r; simp only [escL]; split <;> simp <;> omega
def beT (u : Nat) : Nat -> List UInt8
  | 0 => []
  | j + 1 => UInt8.ofNat (u / 2 ^ (8 * j)) :: beT u j
theorem beT_len (u : Nat) : ∀ j, (beT u j).length = j
  | 0 => rfl
  | j + 1 => by simp [beT, beT_len u j]
def upU (n : Int) : Nat := (IntKind.wrap .u64 (IntKind.wrap .u64 n + 9223372036854775808)).toNat
def keyL (c : Cel) : List UInt8 := UInt8.ofNat c.View.toNat :: (escL c.Key.data.toList ++ [0, 1] ++ beT (upU c.Start) 8)
theorem wrap_u64 (n : Int) : IntKind.wrap .u64 n = n % 18446744073709551616 := by
  unfold IntKind.wrap; simp [IntKind.bits, IntKind.signed]
theorem wrap_u8 (n : Int) : IntKind.wrap .u8 n = n % 256 := by
  unfold IntKind.wrap; simp [IntKind.bits, IntKind.signed]
theorem upU_eq (n : Int) : ((upU n : Nat) : Int) = IntKind.wrap .u64 (IntKind.wrap .u64 n + 9223372036854775808) := by
  unfold upU
  rw [Int.toNat_of_nonneg]
  rw [wrap_u64]; omega
theorem fdiv_pow (u i : Nat) : Int.fdiv (u : Int) (2 ^ i : Int) = ((u / 2 ^ i : Nat) : Int) := by
  have e : (2 ^ i : Int) = ((2 ^ i : Nat) : Int) := by simp
  rw [e, Int.ofNat_fdiv]
theorem u8_of (n : Nat) : ((UInt8.ofNat n).toNat : Int) = IntKind.wrap .u8 (n : Int) := by
  rw [wrap_u8]; simp
theorem key_tail {h0 : H} {u : Nat} {Q : ByteArray -> Int -> H -> Prop} {L0 : List UInt8} (hL0 : L0.length <= 1000) (k : ∀ h', Ext h0 h' -> Q ⟨(L0 ++ beT u 8).toArray⟩ 0 h') :
    ∀ (j m : Nat) (h : H) (s : Sl) (L : List UInt8), j <= 8 -> j < m -> Ext h0 h -> Owns h s 5 1 (L.flatMap cU) -> Mine h0 s -> L ++ beT u j = L0 ++ beT u 8 -> F.xar.l2 Q m s (u : Int) (8 * (j : Int) - 8) h
  | j, 0, h, s, L, _, hm, _, _, _, _ => by omega
  | j, m + 1, h, s, L, hj, hm, e0, ow, mi, hL => by
    unfold F.xar.l2
    simp only [decide_eq_true_eq, decide_eq_false_iff_not]
    have hlen : L.length + j = L0.length + 8 := by have := congrArg List.length hL; simpa [beT_len] using this
    refine ⟨fun g => ⟨g, ?_⟩, fun g => ?_⟩
    · obtain ⟨i, rfl⟩ : ∃ i, j = i + 1 := ⟨j - 1, by omega⟩
      have hb : IntKind.wrap .u8 (Int.fdiv (u : Int) (2 ^ (min (8 * ((i + 1 : Nat) : Int) - 8).toNat (IntKind.bits .u64)) : Int)) = ((UInt8.ofNat (u / 2 ^ (8 * i))).toNat : Int) := by
        rw [u8_of, show (8 * ((i + 1 : Nat) : Int) - 8).toNat = 8 * i from by omega, show min (8 * i) (IntKind.bits .u64) = 8 * i from by simp [IntKind.bits]; omega]
        rw [fdiv_pow]
      rw [hb]
      refine push_mine (f := cU) (UInt8.ofNat (u / 2 ^ (8 * i))) e0 mi cU_len (by omega) el_Sluint8 ow cU_one (by omega) fun r h1 q1 q2 q3 q4 q5 => ?_
      rw [w64 (by omega) (by omega), show 8 * ((i + 1 : Nat) : Int) - 8 - 8 = 8 * (i : Int) - 8 from by omega]
      refine key_tail hL0 k i m h1 r _ (by omega) (by omega) q2 q1 q3 ?_
      rw [← hL]; simp [beT]
    · have : j = 0 := by omega
      subst this
      refine cvtT_of (l := L) el_Sluint8.slice Tryz.underlying5 Tryz.underlying9 ow.reads ?_
      have : L = L0 ++ beT u 8 := by simpa [beT] using hL
      rw [this]; exact k h e0
theorem key_loop {h0 : H} {c : Cel} {n : Nat} {Q : ByteArray -> Int -> H -> Prop} {pre : UInt8} (hk : c.Key.size <= 32) (k : ∀ h', Ext h0 h' -> Q ⟨(pre :: (escL c.Key.data.toList ++ [0, 1] ++ beT (upU c.Start) 8)).toArray⟩ 0 h') (hn : h0.size <= n) :
    ∀ (m i : Nat) (h : H) (s : Sl), i <= c.Key.size -> c.Key.size - i < m -> Ext h0 h -> Blk h n c.cells.toArray tn_api_Cell -> n < h.size -> Owns h s 5 1 ((pre :: escL (c.Key.data.toList.take i)).flatMap cU) -> Mine h0 s -> s.blk ≠ some n ->
    F.xar.l1 Q m ⟨n, 0, none⟩ s (c.Key.size : Int) (i : Int) h
  | 0, i, h, s, _, hm, _, _, _, _, _, _ => by omega
  | m + 1, i, h, s, hi, hm, e0, bl, hnl, ow, mi, hne => by
    unfold F.xar.l1
    simp only [decide_eq_true_eq, decide_eq_false_iff_not, add_lit, Nat.zero_add]
    have hel := escL_len (c.Key.data.toList.take i)
    rw [List.length_take, ← size_data] at hel
    refine ⟨fun g => ?_, fun g => ?_⟩
    · rw [ldS_iff (bl.cell (i := 1) (v := .string c.Key) rfl)]
      obtain ⟨b, hb⟩ : ∃ b, c.Key.data.toList[i]? = some b := ⟨_, List.getElem?_eq_getElem (by rw [← size_data]; omega)⟩
      refine idxS_of hb rfl ?_
      have htk : escL (c.Key.data.toList.take (i + 1)) = escL (c.Key.data.toList.take i) ++ (if b = 0 then [0, 255] else [b]) := by rw [List.take_add_one, hb]; exact escL_snoc b _
      refine push_mine (f := cU) b e0 mi cU_len (by omega) el_Sluint8 ow cU_one (by simp; omega) fun r h1 q1 q2 q3 q4 q5 => ?_
      have bl1 : Blk h1 n c.cells.toArray tn_api_Cell := q4.block bl hne
      have hg1 := q4.size
      have hne1 : r.blk ≠ some n := by
        rcases q5 with q5 | ⟨x, q5, q6⟩
        · rw [q5]; exact hne
        · rw [q5]; intro e; cases e; omega
      rw [ldS_iff (bl1.cell (i := 1) (v := .string c.Key) rfl)]
      refine idxS_of hb rfl ?_
      have hw : IntKind.wrap .i64 ((i : Int) + 1) = ((i + 1 : Nat) : Int) := by rw [w64 (by omega) (by omega)]; omega
      rw [hw, beq_iff_eq, beq_eq_false_iff_ne]
      have hb0 : (b.toNat : Int) = 0 ↔ b = 0 := by
        constructor
        · intro h; exact UInt8.toNat_inj.1 (by simpa using (by omega : b.toNat = 0))
        · intro h; subst h; rfl
      rw [hb0, Ne, hb0]
      refine ⟨fun g2 => ?_, fun g2 => ?_⟩
      · refine push_mine (f := cU) 255 q2 q3 cU_len (by omega) el_Sluint8 q1 cU_one (by simp; omega) fun r2 h2 p1 p2 p3 p4 p5 => ?_
        have hne2 : r2.blk ≠ some n := by
          rcases p5 with p5 | ⟨x, p5, p6⟩
          · rw [p5]; exact hne1
          · rw [p5]; intro e; cases e; omega
        refine key_loop hk k hn m (i + 1) h2 r2 (by omega) (by omega) p2 (p4.block bl1 hne1) (by have := p4.size; omega) ?_ p3 hne2
        rw [htk, if_pos g2]; subst g2; simpa using p1
      · refine key_loop hk k hn m (i + 1) h1 r (by omega) (by omega) q2 bl1 (by omega) ?_ q3 hne1
        rw [htk, if_neg g2]; simpa using q1
    · have hii : i = c.Key.size := by omega
      subst hii
      refine newL_of fun x h1 e1 e2 e3 e4 => ?_
      refine app_mine (f := cU) (M := [0, 1]) (e0.trans e3) mi cU_len (by omega) el_Sluint8 (ow.ext e3) (blk_reads (show Blk h1 x (([0, 1] : List UInt8).flatMap cU).toArray 5 from e2) rfl) cU_one (by simp; omega) fun r h2 q1 q2 q3 q4 q5 => ?_
      have bl1 : Blk h2 n c.cells.toArray tn_api_Cell := q4.block (e3.block bl (fun f => f)) hne
      rw [ldI_iff (bl1.cell (i := 2) (v := .int .i64 c.Start) rfl), ← upU_eq]
      refine ⟨9, ?_⟩
      have ht : c.Key.data.toList.take c.Key.size = c.Key.data.toList := List.take_of_length_le (by rw [← size_data]; omega)
      rw [ht] at q1
      have hl2 := escL_len c.Key.data.toList
      rw [← size_data] at hl2
      refine key_tail (L0 := pre :: (escL c.Key.data.toList ++ [0, 1])) (by simp; omega) (by simpa using k) 8 9 h2 r _ (by omega) (by omega) q2 q1 q3 (by simp)
theorem Key_spec {h : H} {c : Cel} {Q : ByteArray -> Int -> H -> Prop} (k0 : mayC c ≠ 0 -> ∀ h', Ext h h' -> Q ⟨#[]⟩ (mayC c) h') (k1 : mayC c = 0 -> ∀ h', Ext h h' -> Q ⟨(keyL c).toArray⟩ 0 h') : F.xar c h Q := by
  unfold F.xar
  refine new_of fun n h1 e1 e2 e3 e4 => ?_
  refine ⟨c, e2.cells3, mayC_spec fun h2 f1 => ?_⟩
  have e5 := e3.trans f1
  have bl : Blk h2 n c.cells.toArray tn_api_Cell := f1.block e2 (fun f => f)
  refine ⟨fun g => k0 (by simpa using g) h2 e5, fun g => ?_⟩
  have hm : mayC c = 0 := by simpa using g
  simp only [add_lit, Nat.zero_add]
  rw [ldI_iff (bl.cell (i := 0) (v := .int .i64 c.View) rfl)]
  have hv : 0 <= c.View ∧ c.View <= 4 ∧ c.Key.size <= 32 := by
    unfold mayC at hm
    split at hm
    · omega
    · split at hm
      · omega
      · omega
  have hw : IntKind.wrap .u8 c.View = ((UInt8.ofNat c.View.toNat).toNat : Int) := by rw [u8_of, Int.toNat_of_nonneg hv.1]
  rw [hw]
  refine newL_of fun x h3 g1 g2 g3 g4 => ?_
  have bl3 : Blk h3 n c.cells.toArray tn_api_Cell := g3.block bl (fun f => f)
  rw [ldS_iff (bl3.cell (i := 1) (v := .string c.Key) rfl)]
  have hs := e5.size
  have hs3 := e3.size
  have hf1 := f1.size
  refine ⟨c.Key.size + 1, ?_⟩
  refine key_loop (h0 := h) (pre := UInt8.ofNat c.View.toNat) hv.2.2 (fun h' e => k1 hm h' e) (by omega) _ 0 h3 _ (by omega) (by omega) (e5.trans g3) bl3 (by omega) (show Owns h3 ⟨some ⟨x, 0, none⟩, 1, 1⟩ 5 1 [.int .u8 ((UInt8.ofNat c.View.toNat).toNat : Int)] from blk_owns (m := 1) g2 rfl (by simp [maxLen])) (fun b hb => by simp [Sl.blk] at hb; omega) (by simp [Sl.blk]; omega)
def unesc : List UInt8 -> Except Int (List UInt8 × List UInt8)
  | [] => .error 11
  | b :: r => if b ≠ 0 then (match unesc r with | .ok p => .ok (b :: p.1, p.2) | .error e => .error e) else
    match r with
    | [] => .error 11
    | x :: r' => if x = 1 then .ok ([], r') else if x ≠ 255 then .error 12 else (match unesc r' with | .ok p => .ok (0 :: p.1, p.2) | .error e => .error e)
def beV : Nat -> List UInt8 -> Nat
  | u, [] => u
  | u, b :: r => beV (u * 256 + b.toNat) r
def zeroC : Cel := ⟨0, ⟨#[]⟩, 0⟩
def startOf (u : Nat) : Int := IntKind.wrap .i64 (IntKind.wrap .u64 ((u : Int) - 9223372036854775808))
def finC (v : UInt8) (key t : List UInt8) : Cel × Int :=
  if t.length < 8 then (zeroC, 11) else if t.length > 8 then (zeroC, 13) else
  if mayC ⟨(v.toNat : Int), ⟨key.toArray⟩, startOf (beV 0 t)⟩ ≠ 0 then (zeroC, mayC ⟨(v.toNat : Int), ⟨key.toArray⟩, startOf (beV 0 t)⟩) else (⟨(v.toNat : Int), ⟨key.toArray⟩, startOf (beV 0 t)⟩, 0)
def cellM : List UInt8 -> Cel × Int
  | [] => (zeroC, 11)
  | v :: r => match unesc r with
    | .error e => (zeroC, e)
    | .ok p => finC v p.1 p.2
theorem unesc_ne {b : UInt8} {r : List UInt8} (h : b ≠ 0) : unesc (b :: r) = (match unesc r with | .ok p => .ok (b :: p.1, p.2) | .error e => .error e) := by
  rw [unesc.eq_def]; simp only [if_pos h]
theorem cellM_cons (v : UInt8) (r : List UInt8) : cellM (v :: r) = (match unesc r with | .error e => (zeroC, e) | .ok p => finC v p.1 p.2) := rfl
theorem or_byte {u : Nat} {b : UInt8} (hu : u < 72057594037927936) : bitsOf .or .u64 (IntKind.wrap .u64 ((u : Int) * (2 ^ (min (8 : Int).toNat (IntKind.bits .u64)) : Int))) (IntKind.wrap .u64 (b.toNat : Int)) = ((u * 256 + b.toNat : Nat) : Int) := by
  have hb : b.toNat < 256 := b.toNat_lt
  have e1 : IntKind.wrap .u64 ((u : Int) * (2 ^ (min (8 : Int).toNat (IntKind.bits .u64)) : Int)) = ((u * 256 : Nat) : Int) := by
    rw [show (2 ^ (min (8 : Int).toNat (IntKind.bits .u64)) : Int) = 256 from by simp [IntKind.bits], wrap_u64]; omega
  have e2 : IntKind.wrap .u64 (b.toNat : Int) = ((b.toNat : Nat) : Int) := by rw [wrap_u64]; omega
  rw [e1, e2]
  simp only [bitsOf]
  rw [BitVec.ofInt_natCast, BitVec.ofInt_natCast, BitVec.toNat_or, BitVec.toNat_ofNat, BitVec.toNat_ofNat, wrap_u64]
  have e3 : u * 256 % 2 ^ (IntKind.bits .u64) = u * 256 := Nat.mod_eq_of_lt (by simp [IntKind.bits]; omega)
  have e4 : b.toNat % 2 ^ (IntKind.bits .u64) = b.toNat := Nat.mod_eq_of_lt (by simp [IntKind.bits]; omega)
  rw [e3, e4]
  have e5 : u * 256 ||| b.toNat = u * 256 + b.toNat := by
    have := Nat.two_pow_add_eq_or_of_lt (i := 8) hb u
    rw [show (2 : Nat) ^ 8 * u = u * 256 from by omega] at this
    exact this.symm
  rw [e5]; omega
theorem st_cell {h : H} {n : Nat} {c d : Cel} {K : H -> Prop} (b : Blk h n c.cells.toArray tn_api_Cell) (k : ∀ h', Blk h' n d.cells.toArray tn_api_Cell -> Only (· = n) h h' -> h'.size = h.size -> K h') : stH h ⟨n, 0, none⟩ d.cells K :=
  stH_of b (by simp [S_api_Cell.cells]) fun h' q1 q2 q3 => k h' (by rw [writeA_all (by simp [S_api_Cell.cells])] at q1; exact q1) q2 q3
theorem st_key {h : H} {n : Nat} {c : Cel} {s : ByteArray} {K : H -> Prop} (b : Blk h n c.cells.toArray tn_api_Cell) (k : ∀ h', Blk h' n (⟨c.View, s, c.Start⟩ : Cel).cells.toArray tn_api_Cell -> Only (· = n) h h' -> h'.size = h.size -> K h') : stH h ⟨n, 1, none⟩ [.string s] K :=
  stH_of b (by simp [S_api_Cell.cells]) fun h' q1 q2 q3 => k h' (by
    have : writeA (S_api_Cell.cells c).toArray 1 [.string s] = (⟨c.View, s, c.Start⟩ : Cel).cells.toArray := by simp [writeA, S_api_Cell.cells]
    rw [this] at q1; exact q1) q2 q3
theorem st_start {h : H} {n : Nat} {c : Cel} {u : Int} {K : H -> Prop} (b : Blk h n c.cells.toArray tn_api_Cell) (k : ∀ h', Blk h' n (⟨c.View, c.Key, u⟩ : Cel).cells.toArray tn_api_Cell -> Only (· = n) h h' -> h'.size = h.size -> K h') : stH h ⟨n, 2, none⟩ [.int .i64 u] K :=
  stH_of b (by simp [S_api_Cell.cells]) fun h' q1 q2 q3 => k h' (by
    have : writeA (S_api_Cell.cells c).toArray 2 [.int .i64 u] = (⟨c.View, c.Key, u⟩ : Cel).cells.toArray := by simp [writeA, S_api_Cell.cells]
    rw [this] at q1; exact q1) q2 q3
theorem told_err {h0 h : H} {n : Nat} {c : Cel} {e : Int} {Q : Cel -> Int -> H -> Prop} (k : ∀ h', Ext h0 h' -> Q zeroC e h') (e0 : Ext h0 h) (hn : h0.size <= n) (b : Blk h n c.cells.toArray tn_api_Cell) :
    stH h ⟨n, 0, none⟩ ((⟨0, (⟨#[]⟩ : ByteArray), 0⟩ : S_api_Cell).cells) fun h13 => ld_S_api_Cell h13 ⟨n, 0, none⟩ fun y14 => Q y14 e h13 :=
  st_cell b fun h' q1 q2 q3 => ⟨zeroC, q1.cells3, k h' (e0.step q2 fun m hm e => by omega)⟩
theorem cell_tail {h0 : H} {str : ByteArray} {n2 n4 : Nat} {Q : Cel -> Int -> H -> Prop} {v : UInt8} {key : List UInt8} (hs : str.size < 1000000000000000000) (hn2 : h0.size <= n2) (hn4 : h0.size <= n4) (hne : n2 ≠ n4) {U : Nat}
    (k : ∀ h', Ext h0 h' -> Q (if mayC ⟨(v.toNat : Int), ⟨key.toArray⟩, startOf U⟩ ≠ 0 then (zeroC, mayC ⟨(v.toNat : Int), ⟨key.toArray⟩, startOf U⟩) else (⟨(v.toNat : Int), ⟨key.toArray⟩, startOf U⟩, 0)).1 (if mayC ⟨(v.toNat : Int), ⟨key.toArray⟩, startOf U⟩ ≠ 0 then (zeroC, mayC ⟨(v.toNat : Int), ⟨key.toArray⟩, startOf U⟩) else ((⟨(v.toNat : Int), ⟨key.toArray⟩, startOf U⟩ : Cel), 0)).2 h') :
    ∀ (m i u : Nat) (h : H) (s : Sl) (c2 : Cel), Ext h0 h -> i <= str.size -> str.size <= i + 8 -> u < 256 ^ (i + 8 - str.size) -> beV u (str.data.toList.drop i) = U -> str.size - i < m -> Blk h n2 c2.cells.toArray tn_api_Cell -> Blk h n4 (⟨(v.toNat : Int), ⟨#[]⟩, 0⟩ : Cel).cells.toArray tn_api_Cell -> Reads h s 1 (key.flatMap cU) ->
    F.xaq.l2 Q m str ⟨n2, 0, none⟩ ⟨n4, 0, none⟩ (i : Int) s (u : Int) h
  | 0, i, u, h, s, c2, _, _, _, _, _, hm, _, _, _ => by omega
  | m + 1, i, u, h, s, c2, e0, hi, hi8, hu, hU, hm, b2, b4, rd => by
    unfold F.xaq.l2
    simp only [decide_eq_true_eq, decide_eq_false_iff_not]
    refine ⟨fun g => ⟨by omega, ?_⟩, fun g => ?_⟩
    · obtain ⟨b, hb⟩ : ∃ b, str.data.toList[i]? = some b := ⟨_, List.getElem?_eq_getElem (by rw [← size_data]; omega)⟩
      refine idxS_of hb rfl ?_
      have hd : str.data.toList.drop i = b :: str.data.toList.drop (i + 1) := by
        obtain ⟨hh, rfl⟩ := List.getElem?_eq_some_iff.1 hb
        exact List.drop_eq_getElem_cons hh
      rw [hd, beV] at hU
      have hp : 256 ^ (i + 8 - str.size) <= 256 ^ 7 := Nat.pow_le_pow_right (by omega) (by omega)
      rw [or_byte (by have : (256 : Nat) ^ 7 = 72057594037927936 := by decide
                      omega), show IntKind.wrap .i64 ((i : Int) + 1) = ((i + 1 : Nat) : Int) from by rw [w64 (by omega) (by omega)]; omega]
      have hbl := b.toNat_lt
      refine cell_tail hs hn2 hn4 hne k m (i + 1) _ h s c2 e0 (by omega) (by omega) ?_ hU (by omega) b2 b4 rd
      rw [show i + 1 + 8 - str.size = (i + 8 - str.size) + 1 from by omega, Nat.pow_succ]
      have : (u + 1) * 256 <= 256 ^ (i + 8 - str.size) * 256 := Nat.mul_le_mul_right _ hu
      omega
    · have hii : i = str.size := by omega
      subst hii
      have hd : str.data.toList.drop str.size = [] := List.drop_eq_nil_of_le (by rw [← size_data]; omega)
      rw [hd, beV] at hU
      subst hU
      refine cvtT_of (l := key) el_Sluint8.slice Tryz.underlying5 Tryz.underlying9 rd ?_
      simp only [add_lit, Nat.zero_add]
      refine st_key b4 fun h1 p1 p2 p3 => st_start p1 fun h2 p4 p5 p6 => ?_
      have e2 : Ext h0 h2 := (e0.step p2 fun m hm e => by omega).step p5 fun m hm e => by omega
      have b22 : Blk h2 n2 c2.cells.toArray tn_api_Cell := p5.block (p2.block b2 hne) hne
      refine ⟨_, p4.cells3, mayC_spec fun h3 f1 => ?_⟩
      have b23 : Blk h3 n2 c2.cells.toArray tn_api_Cell := f1.block b22 (fun f => f)
      have e3 := e2.trans f1
      refine ⟨fun g2 => ?_, fun g2 => ?_⟩
      · have g2 : mayC ⟨(v.toNat : Int), ⟨key.toArray⟩, startOf u⟩ ≠ 0 := by simpa [startOf] using g2
        simp only [if_pos g2] at k
        exact told_err k e3 hn2 b23
      · have g2 : ¬ mayC ⟨(v.toNat : Int), ⟨key.toArray⟩, startOf u⟩ ≠ 0 := by simpa [startOf] using g2
        simp only [if_neg g2] at k
        refine ⟨_, Blk.cells3 (c := ⟨(v.toNat : Int), ⟨key.toArray⟩, startOf u⟩) (f1.block p4 (fun f => f)), ?_⟩
        exact st_cell b23 fun h4 q1 q2 q3 => ⟨_, q1.cells3, k h4 (e3.step q2 fun m hm e => by omega)⟩
theorem cell_loop {h0 : H} {str : ByteArray} {n2 n4 : Nat} {Q : Cel -> Int -> H -> Prop} {v : UInt8} (hs : str.size < 140737488355328) (hn2 : h0.size <= n2) (hn4 : h0.size <= n4) (hne : n2 ≠ n4) :
    ∀ (m i : Nat) (h : H) (s : Sl) (acc : List UInt8), (∀ h', Ext h0 h' -> Q (match unesc (str.data.toList.drop i) with | .error e => (zeroC, e) | .ok p => finC v (acc ++ p.1) p.2).1 (match unesc (str.data.toList.drop i) with | .error e => (zeroC, e) | .ok p => finC v (acc ++ p.1) p.2).2 h') ->
    Ext h0 h -> i <= str.size -> acc.length <= i -> str.size - i < m -> Blk h n2 zeroC.cells.toArray tn_api_Cell -> Blk h n4 (⟨(v.toNat : Int), ⟨#[]⟩, 0⟩ : Cel).cells.toArray tn_api_Cell -> Owns h s 5 1 (acc.flatMap cU) -> Mine h0 s -> s.blk ≠ some n2 -> s.blk ≠ some n4 -> n2 < h.size -> n4 < h.size ->
    F.xaq.l1 Q m str ⟨n2, 0, none⟩ ⟨n4, 0, none⟩ (i : Int) s h
  | 0, i, h, s, acc, _, _, _, _, hm, _, _, _, _, _, _, _, _ => by omega
  | m + 1, i, h, s, acc, k, e0, hi, hacc, hm, b2, b4, ow, mi, hne2, hne4, hl2, hl4 => by
    unfold F.xaq.l1
    rw [beq_iff_eq, beq_eq_false_iff_ne]
    refine ⟨fun g => ?_, fun g => ?_⟩
    · have hd : str.data.toList.drop i = [] := List.drop_eq_nil_of_le (by rw [← size_data]; omega)
      rw [hd] at k
      exact told_err k e0 hn2 b2
    · obtain ⟨b, hb⟩ : ∃ b, str.data.toList[i]? = some b := ⟨_, List.getElem?_eq_getElem (by rw [← size_data]; omega)⟩
      have hd : str.data.toList.drop i = b :: str.data.toList.drop (i + 1) := by
        obtain ⟨hh, rfl⟩ := List.getElem?_eq_some_iff.1 hb
        exact List.drop_eq_getElem_cons hh
      have hb0 : (b.toNat : Int) = 0 ↔ b = 0 := by
        constructor
        · intro h; exact UInt8.toNat_inj.1 (by simpa using (by omega : b.toNat = 0))
        · intro h; subst h; rfl
      rw [hd] at k
      refine idxS_of hb rfl ?_
      rw [bne_iff_ne, bne_eq_false_iff_eq, Ne, hb0]
      refine ⟨fun g1 => idxS_of hb rfl ?_, fun g1 => ?_⟩
      · refine push_mine (f := cU) b e0 mi cU_len (by omega) el_Sluint8 ow cU_one (by omega) fun r h1 q1 q2 q3 q4 q5 => ?_
        have hrr : ∀ x, x < h.size -> s.blk ≠ some x -> r.blk ≠ some x := fun x hx hsx => by
          rcases q5 with q5 | ⟨y, q5, q6⟩
          · rw [q5]; exact hsx
          · rw [q5]; intro e; cases e; omega
        rw [show IntKind.wrap .i64 ((i : Int) + 1) = ((i + 1 : Nat) : Int) from by rw [w64 (by omega) (by omega)]; omega]
        refine cell_loop hs hn2 hn4 hne m (i + 1) h1 r (acc ++ [b]) (fun h' e => ?_) q2 (by omega) (by simp; omega) (by omega) (q4.block b2 hne2) (q4.block b4 hne4) q1 q3 (hrr n2 hl2 hne2) (hrr n4 hl4 hne4) (by have := q4.size; omega) (by have := q4.size; omega)
        have k := k h' e
        rw [unesc_ne g1] at k
        cases hu : unesc (str.data.toList.drop (i + 1)) with
        | error x => rw [hu] at k; exact k
        | ok p => rw [hu] at k; simpa using k
      · have g1 : b = 0 := Classical.not_not.1 (by simpa using g1)
        subst g1
        rw [w64 (n := (i : Int) + 1) (by omega) (by omega), w64 (n := (i : Int) + 2) (by omega) (by omega), beq_iff_eq, beq_eq_false_iff_ne]
        refine ⟨fun g2 => ?_, fun g2 => ?_⟩
        · have hd1 : str.data.toList.drop (i + 1) = [] := List.drop_eq_nil_of_le (by rw [← size_data]; omega)
          rw [hd1] at k
          exact told_err k e0 hn2 b2
        · obtain ⟨x, hx⟩ : ∃ b, str.data.toList[i + 1]? = some b := ⟨_, List.getElem?_eq_getElem (by rw [← size_data]; omega)⟩
          have hd1 : str.data.toList.drop (i + 1) = x :: str.data.toList.drop (i + 2) := by
            obtain ⟨hh, rfl⟩ := List.getElem?_eq_some_iff.1 hx
            exact List.drop_eq_getElem_cons hh
          have hx1 : (x.toNat : Int) = 1 ↔ x = 1 := by
            constructor
            · intro h; exact UInt8.toNat_inj.1 (by simpa using (by omega : x.toNat = 1))
            · intro h; subst h; rfl
          have hx2 : (x.toNat : Int) = 255 ↔ x = 255 := by
            constructor
            · intro h; exact UInt8.toNat_inj.1 (by simpa using (by omega : x.toNat = 255))
            · intro h; subst h; rfl
          rw [hd1] at k
          have hun : unesc (0 :: x :: str.data.toList.drop (i + 2)) = if x = 1 then .ok ([], str.data.toList.drop (i + 2)) else if x ≠ 255 then .error 12 else (match unesc (str.data.toList.drop (i + 2)) with | .ok p => .ok (0 :: p.1, p.2) | .error e => .error e) := by
            rw [unesc]; simp
          rw [hun] at k
          have hlen : (str.data.toList.drop (i + 2)).length = str.size - (i + 2) := by rw [List.length_drop, ← size_data]
          refine idxS_of hx (by rw [w64 (by omega) (by omega)]; omega) ?_
          rw [beq_iff_eq, beq_eq_false_iff_ne, Ne, hx1]
          refine ⟨fun g3 => ?_, fun g3 => ?_⟩
          · rw [if_pos g3] at k
            simp only [List.append_nil] at k
            unfold finC at k
            rw [hlen] at k
            rw [w64 (by omega) (by omega)]
            simp only [decide_eq_true_eq, decide_eq_false_iff_not]
            refine ⟨fun g4 => ?_, fun g4 => ⟨fun g5 => ?_, fun g5 => ⟨str.size + 1, ?_⟩⟩⟩
            · rw [if_pos (by omega)] at k; exact told_err k e0 hn2 b2
            · rw [if_neg (by omega), if_pos (by omega)] at k; exact told_err k e0 hn2 b2
            · rw [if_neg (by omega), if_neg (by omega)] at k
              rw [show (i : Int) + 2 = ((i + 2 : Nat) : Int) from by omega]
              exact cell_tail (by omega) hn2 hn4 hne k (str.size + 1) (i + 2) 0 h s zeroC e0 (by omega) (by omega) (Nat.pos_of_ne_zero (by exact Nat.pos_iff_ne_zero.1 (Nat.pow_pos (by omega)))) rfl (by omega) b2 b4 ow.reads
          · rw [if_neg g3] at k
            refine idxS_of hx (by rw [w64 (by omega) (by omega)]; omega) ?_
            rw [bne_iff_ne, bne_eq_false_iff_eq, Ne, hx2]
            refine ⟨fun g4 => ?_, fun g4 => ?_⟩
            · rw [if_pos g4] at k; exact told_err k e0 hn2 b2
            · have g4 : x = 255 := Classical.not_not.1 (by simpa using g4)
              rw [if_neg (by simpa using g4)] at k
              refine push_mine (f := cU) 0 e0 mi cU_len (by omega) el_Sluint8 ow cU_one (by omega) fun r h1 q1 q2 q3 q4 q5 => ?_
              have hrr : ∀ x, x < h.size -> s.blk ≠ some x -> r.blk ≠ some x := fun x hx hsx => by
                rcases q5 with q5 | ⟨y, q5, q6⟩
                · rw [q5]; exact hsx
                · rw [q5]; intro e; cases e; omega
              rw [show (i : Int) + 2 = ((i + 2 : Nat) : Int) from by omega]
              refine cell_loop hs hn2 hn4 hne m (i + 2) h1 r (acc ++ [0]) (fun h' e => ?_) q2 (by omega) (by simp; omega) (by omega) (q4.block b2 hne2) (q4.block b4 hne4) q1 q3 (hrr n2 hl2 hne2) (hrr n4 hl4 hne4) (by have := q4.size; omega) (by have := q4.size; omega)
              have k := k h' e
              cases hu : unesc (str.data.toList.drop (i + 2)) with
              | error x => rw [hu] at k; exact k
              | ok p => rw [hu] at k; simpa using k
theorem Cell_spec {h : H} {str : ByteArray} {Q : Cel -> Int -> H -> Prop} (hs : str.size < 140737488355328) (k : ∀ h', Ext h h' -> Q (cellM str.data.toList).1 (cellM str.data.toList).2 h') : F.xaq str h Q := by
  unfold F.xaq
  refine new_of fun n h1 e1 e2 e3 e4 => ?_
  have hs1 := e3.size
  rw [beq_iff_eq, beq_eq_false_iff_ne, toList_data, toList_data]
  refine ⟨fun g => ?_, fun g => ?_⟩
  · have g : str.data.toList = [] := g
    rw [g] at k
    exact told_err k e3 (by omega) (c := zeroC) e2
  · obtain ⟨v, r, hv⟩ : ∃ v r, str.data.toList = v :: r := by
      cases hh : str.data.toList with
      | nil => exact absurd hh g
      | cons v r => exact ⟨v, r, rfl⟩
    have hsz : 0 < str.size := by rw [size_data, hv]; simp
    refine idxS_of (i := 0) (b := v) (by rw [hv]; rfl) rfl ?_
    refine new_of fun n4 h2 f1 f2 f3 f4 => ?_
    have hs2 := f3.size
    refine st_cell (c := zeroC) (d := ⟨IntKind.wrap .i64 (v.toNat : Int), ⟨#[]⟩, 0⟩) f2 fun h3 q1 q2 q3 => ?_
    have hbl := v.toNat_lt
    rw [w64 (by omega) (by omega)] at q1
    refine ⟨str.size + 1, ?_⟩
    refine cell_loop (v := v) hs (n2 := n) (n4 := n4) (h0 := h) (by omega) (by omega) (by omega) _ 1 h3 _ [] (fun h' e => ?_) ((e3.trans f3).step q2 fun m hm e => by omega) (by omega) (by simp) (by omega) (q2.block (f3.block e2 (fun f => f)) (by omega)) q1 (Owns.nil _ _ _) (Mine.nil _ _ _) (by simp [Sl.blk]) (by simp [Sl.blk]) (by omega) (by omega)
    have k := k h' e
    rw [hv, cellM_cons] at k
    rw [show str.data.toList.drop 1 = r from by rw [hv]; rfl]
    cases hu : unesc r with
    | error x => rw [hu] at k; exact k
    | ok p => rw [hu] at k; simpa using k
theorem cmpB_eq : ∀ (a b : List UInt8), Lib.compareBytes a b = if a = b then 0 else if Op.bytesLess a b then -1 else 1
  | [], [] => rfl
  | [], _ :: _ => rfl
  | _ :: _, [] => rfl
  | a :: ra, b :: rb => by
    rw [Lib.compareBytes, cmpB_eq ra rb, Op.bytesLess]
    by_cases h1 : a < b
    · have : a ≠ b := fun e => by subst e; exact absurd h1 (by simp)
      simp [h1, this]
    · by_cases h2 : b < a
      · have : a ≠ b := fun e => by subst e; exact absurd h2 (by simp)
        simp [h1, h2, this]
      · have : a = b := UInt8.le_antisymm (UInt8.not_lt.1 h2) (UInt8.not_lt.1 h1)
        subst this
        simp
def cmpI (x y : Int) : Int := if x < y then -1 else if x > y then 1 else 0
def cmpC (a b : Cel) : Int := if cmpI a.View b.View ≠ 0 then cmpI a.View b.View else if cmpM a.Key b.Key ≠ 0 then cmpM a.Key b.Key else cmpI a.Start b.Start
theorem cmpInt_spec {x y : Int} {h : H} {Q : Int -> H -> Prop} (k : Q (cmpI x y) h) : F.xbd x y h Q := by
  unfold F.xbd F.xbe
  unfold cmpI at k
  simp only [bne_self_eq_false, Bool.false_eq_true, false_implies, true_implies, true_and, decide_eq_true_eq, decide_eq_false_iff_not]
  by_cases h1 : x < y
  · simp only [h1, if_true] at k; exact ⟨fun _ => k, fun g => absurd h1 g⟩
  · simp only [h1, if_false] at k
    by_cases h2 : x > y
    · simp only [h2, if_true] at k; exact ⟨fun g => absurd g h1, fun _ => ⟨fun _ => k, fun g => absurd h2 g⟩⟩
    · simp only [h2, if_false] at k; exact ⟨fun g => absurd g h1, fun _ => ⟨fun g => absurd g h2, fun _ => k⟩⟩
theorem cmpInt64_spec {x y : Int} {h : H} {Q : Int -> H -> Prop} (k : Q (cmpI x y) h) : F.xda x y h Q := by
  unfold F.xda F.xcp
  unfold cmpI at k
  simp only [bne_self_eq_false, Bool.false_eq_true, false_implies, true_implies, true_and, decide_eq_true_eq, decide_eq_false_iff_not]
  by_cases h1 : x < y
  · simp only [h1, if_true] at k; exact ⟨fun _ => k, fun g => absurd h1 g⟩
  · simp only [h1, if_false] at k
    by_cases h2 : x > y
    · simp only [h2, if_true] at k; exact ⟨fun g => absurd g h1, fun _ => ⟨fun _ => k, fun g => absurd h2 g⟩⟩
    · simp only [h2, if_false] at k; exact ⟨fun g => absurd g h1, fun _ => ⟨fun g => absurd g h2, fun _ => k⟩⟩
theorem or3_spec {n : Nat} {a b c : Int} {h : H} {Q : Int -> H -> Prop} (bl : Blk h n #[.int .i64 a, .int .i64 b, .int .i64 c] 3) (k : Q (if a ≠ 0 then a else if b ≠ 0 then b else c) h) : F.xao ⟨some ⟨n, 0, none⟩, 3, 3⟩ h Q := by
  unfold F.xao
  refine ⟨4, ?_⟩
  have c0 : cellH h ⟨n, 0, none⟩ = some (.int .i64 a) := bl.cell rfl
  have c1 : cellH h ⟨n, 1, none⟩ = some (.int .i64 b) := bl.cell rfl
  have c2 : cellH h ⟨n, 2, none⟩ = some (.int .i64 c) := bl.cell rfl
  unfold F.xao.l1
  refine ⟨fun _ => ?_, fun g => by simp at g⟩
  refine idxA_of (i := 0) rfl (by simp) rfl ?_
  rw [Nat.zero_mul, ldI_iff c0, bne_iff_ne, bne_eq_false_iff_eq]
  refine ⟨fun g => by rw [if_pos g] at k; exact k, fun g => ?_⟩
  rw [if_neg (by simpa using g)] at k
  rw [show IntKind.wrap .i64 (0 + 1) = ((1 : Nat) : Int) from by decide]
  unfold F.xao.l1
  refine ⟨fun _ => ?_, fun g => by simp at g⟩
  refine idxA_of (i := 1) rfl (by simp) rfl ?_
  rw [Nat.one_mul, ldI_iff c1, bne_iff_ne, bne_eq_false_iff_eq]
  refine ⟨fun g => by rw [if_pos g] at k; exact k, fun g => ?_⟩
  rw [if_neg (by simpa using g)] at k
  rw [show IntKind.wrap .i64 (((1 : Nat) : Int) + 1) = ((2 : Nat) : Int) from by decide]
  unfold F.xao.l1
  refine ⟨fun _ => ?_, fun g => by simp at g⟩
  refine idxA_of (i := 2) rfl (by simp) rfl ?_
  rw [show 2 * 1 = 2 from rfl, ldI_iff c2, bne_iff_ne, bne_eq_false_iff_eq]
  refine ⟨fun g => k, fun g => ?_⟩
  rw [show IntKind.wrap .i64 (((2 : Nat) : Int) + 1) = ((3 : Nat) : Int) from by decide]
  unfold F.xao.l1
  refine ⟨fun g => by simp at g, fun _ => ?_⟩
  rw [g] at k; exact k
theorem Compare_spec {a b : Cel} {h : H} {Q : Int -> H -> Prop} (k : ∀ h', Ext h h' -> Q (cmpC a b) h') : F.xcd a b h Q := by
  unfold F.xcd
  refine new_of fun n h1 e1 e2 e3 e4 => new_of fun m h3 f1 f2 f3 f4 => ?_
  have b1 : Blk h3 n a.cells.toArray tn_api_Cell := f3.block e2 (fun f => f)
  have b2 : Blk h3 m b.cells.toArray tn_api_Cell := f2
  have a0 : cellH h3 ⟨n, 0, none⟩ = some (.int .i64 a.View) := b1.cell rfl
  have a1 : cellH h3 ⟨n, 1, none⟩ = some (.string a.Key) := b1.cell rfl
  have a2 : cellH h3 ⟨n, 2, none⟩ = some (.int .i64 a.Start) := b1.cell rfl
  have c0 : cellH h3 ⟨m, 0, none⟩ = some (.int .i64 b.View) := b2.cell rfl
  have c1 : cellH h3 ⟨m, 1, none⟩ = some (.string b.Key) := b2.cell rfl
  have c2 : cellH h3 ⟨m, 2, none⟩ = some (.int .i64 b.Start) := b2.cell rfl
  simp only [add_lit, Nat.zero_add, ldI_iff a0, ldI_iff c0, ldS_iff a1, ldS_iff c1, ldI_iff a2, ldI_iff c2]
  refine cmpInt_spec ⟨c2, a2, c1, a1, ?_⟩
  unfold F.xdj F.xdg
  refine ⟨c2, a2, cmpInt64_spec ?_⟩
  refine newL_of fun q h5 g1 g2 g3 g4 => ?_
  exact or3_spec g2 (k h5 ((e3.trans f3).trans g3))
theorem cmpC_self (a : Cel) : cmpC a a = 0 := by
  unfold cmpC cmpI cmpM
  rw [cmpB_eq]; simp
theorem cB_zero {x y : List UInt8} : Lib.compareBytes x y = 0 ↔ x = y := by
  rw [cmpB_eq]
  split
  · rename_i h; simp [h]
  · rename_i h; split <;> simp [h]
theorem u8_tri (a b : UInt8) : a < b ∨ a = b ∨ b < a := by
  by_cases h1 : a < b
  · exact .inl h1
  · by_cases h2 : b < a
    · exact .inr (.inr h2)
    · exact .inr (.inl (UInt8.le_antisymm (UInt8.not_lt.1 h2) (UInt8.not_lt.1 h1)))
theorem u8_asym {a b : UInt8} (h : a < b) : ¬ b < a := fun h2 => by
  rw [UInt8.lt_iff_toNat_lt] at h h2; omega
theorem u8_irr (a : UInt8) : ¬ a < a := fun h => by
  rw [UInt8.lt_iff_toNat_lt] at h; omega
theorem cB_anti : ∀ (x y : List UInt8), Lib.compareBytes x y = - Lib.compareBytes y x
  | [], [] => rfl
  | [], _ :: _ => rfl
  | _ :: _, [] => rfl
  | a :: x, b :: y => by
    have ih := cB_anti x y
    simp only [Lib.compareBytes]
    rcases u8_tri a b with h | h | h
    · simp [h, u8_asym h]
    · subst h; simp [u8_irr, ih]
    · simp [h, u8_asym h]
theorem cB_range (x y : List UInt8) : Lib.compareBytes x y = -1 ∨ Lib.compareBytes x y = 0 ∨ Lib.compareBytes x y = 1 := by
  rw [cmpB_eq]; split
  · simp
  · split <;> simp
theorem cB_trans : ∀ (x y z : List UInt8), Lib.compareBytes x y = -1 -> Lib.compareBytes y z = -1 -> Lib.compareBytes x z = -1
  | [], [], z, h, _ => by simp [Lib.compareBytes] at h
  | [], b :: y, [], _, h => by simp [Lib.compareBytes] at h
  | [], b :: y, c :: z, _, _ => rfl
  | a :: x, [], z, h, _ => by simp [Lib.compareBytes] at h
  | a :: x, b :: y, [], _, h => by simp [Lib.compareBytes] at h
  | a :: x, b :: y, c :: z, h1, h2 => by
    simp only [Lib.compareBytes] at h1 h2 ⊢
    rcases u8_tri a b with g | g | g
    · rcases u8_tri b c with g2 | g2 | g2
      · have : a < c := by rw [UInt8.lt_iff_toNat_lt] at *; omega
        simp [this]
      · subst g2; simp [g]
      · simp [g2, u8_asym g2] at h2
    · subst g
      simp only [u8_irr, if_false] at h1
      rcases u8_tri a c with g2 | g2 | g2
      · simp [g2]
      · subst g2
        simp only [u8_irr, if_false] at h2 ⊢
        exact cB_trans x y z h1 h2
      · simp [g2, u8_asym g2] at h2
    · simp [g, u8_asym g] at h1
theorem cI_anti (x y : Int) : cmpI x y = - cmpI y x := by
  unfold cmpI
  rcases Int.lt_trichotomy x y with h | h | h
  · rw [if_pos h, if_neg (by omega), if_pos (by omega)]
  · subst h; simp
  · rw [if_neg (by omega), if_pos (by omega), if_pos (by omega)]; rfl
theorem cI_zero {x y : Int} : cmpI x y = 0 ↔ x = y := by
  unfold cmpI
  split
  · constructor <;> intro <;> omega
  · split
    · constructor <;> intro <;> omega
    · constructor <;> intro <;> omega
theorem cI_range (x y : Int) : cmpI x y = -1 ∨ cmpI x y = 0 ∨ cmpI x y = 1 := by
  unfold cmpI; split
  · simp
  · split <;> simp
theorem cI_lt {x y : Int} : cmpI x y = -1 ↔ x < y := by
  unfold cmpI
  split
  · constructor <;> intro <;> omega
  · split
    · constructor <;> intro <;> omega
    · constructor <;> intro <;> omega
theorem cC_anti (a b : Cel) : cmpC a b = - cmpC b a := by
  unfold cmpC cmpM
  rw [cI_anti a.View b.View, cB_anti a.Key.data.toList b.Key.data.toList, cI_anti a.Start b.Start]
  split <;> split <;> simp_all <;> omega
theorem cC_range (a b : Cel) : cmpC a b = -1 ∨ cmpC a b = 0 ∨ cmpC a b = 1 := by
  unfold cmpC cmpM
  split
  · exact cI_range _ _
  · split
    · exact cB_range _ _
    · exact cI_range _ _
theorem key_ext {a b : ByteArray} (h : a.data.toList = b.data.toList) : a = b := by
  obtain ⟨x⟩ := a
  obtain ⟨y⟩ := b
  congr 1
  exact Array.toList_inj.1 h
theorem cC_zero {a b : Cel} : cmpC a b = 0 ↔ a = b := by
  constructor
  · intro h
    unfold cmpC cmpM at h
    split at h
    · rename_i g; exact absurd h g
    · rename_i g
      split at h
      · rename_i g2; exact absurd h g2
      · rename_i g2
        have h1 := cI_zero.1 (Classical.not_not.1 g)
        have h2 := key_ext (cB_zero.1 (Classical.not_not.1 g2))
        have h3 := cI_zero.1 h
        obtain ⟨v, k, s⟩ := a
        obtain ⟨v', k', s'⟩ := b
        simp only at h1 h2 h3
        rw [h1, h2, h3]
  · rintro rfl; exact cmpC_self a
theorem cC_lt {a b : Cel} : cmpC a b = -1 ↔ cmpI a.View b.View = -1 ∨ (a.View = b.View ∧ (Lib.compareBytes a.Key.data.toList b.Key.data.toList = -1 ∨ (a.Key.data.toList = b.Key.data.toList ∧ a.Start < b.Start))) := by
  unfold cmpC cmpM
  have r1 := cI_range a.View b.View
  have r2 := cB_range a.Key.data.toList b.Key.data.toList
  have z1 := cI_zero (x := a.View) (y := b.View)
  have z2 := cB_zero (x := a.Key.data.toList) (y := b.Key.data.toList)
  have l3 := cI_lt (x := a.Start) (y := b.Start)
  by_cases h1 : cmpI a.View b.View = 0
  · rw [if_neg (by simp [h1])]
    have e1 := z1.1 h1
    by_cases h2 : Lib.compareBytes a.Key.data.toList b.Key.data.toList = 0
    · rw [if_neg (by simp [h2])]
      have e2 := z2.1 h2
      rw [l3]
      constructor
      · intro h; exact .inr ⟨e1, .inr ⟨e2, h⟩⟩
      · intro h
        rcases h with h | ⟨_, h | h⟩
        · omega
        · omega
        · exact h.2
    · rw [if_pos h2]
      constructor
      · intro h; exact .inr ⟨e1, .inl h⟩
      · intro h
        rcases h with h | ⟨_, h | h⟩
        · omega
        · exact h
        · exact absurd (z2.2 h.1) h2
  · rw [if_pos h1]
    constructor
    · intro h; exact .inl h
    · intro h
      rcases h with h | h
      · exact h
      · exact absurd (z1.2 h.1) h1
theorem cC_trans {a b c : Cel} (h1 : cmpC a b = -1) (h2 : cmpC b c = -1) : cmpC a c = -1 := by
  rw [cC_lt] at *
  rcases h1 with h1 | ⟨e1, h1⟩
  · rw [cI_lt] at h1
    rcases h2 with h2 | ⟨e2, _⟩
    · rw [cI_lt] at h2; exact .inl (cI_lt.2 (by omega))
    · exact .inl (cI_lt.2 (by omega))
  · rcases h2 with h2 | ⟨e2, h2⟩
    · rw [cI_lt] at h2; exact .inl (cI_lt.2 (by omega))
    · refine .inr ⟨by omega, ?_⟩
      rcases h1 with h1 | ⟨k1, h1⟩
      · rcases h2 with h2 | ⟨k2, h2⟩
        · exact .inl (cB_trans _ _ _ h1 h2)
        · rw [← k2]; exact .inl h1
      · rcases h2 with h2 | ⟨k2, h2⟩
        · rw [k1]; exact .inl h2
        · exact .inr ⟨k1.trans k2, by omega⟩
theorem cC_le_trans {a b c : Cel} (h1 : cmpC a b <= 0) (h2 : cmpC b c <= 0) : cmpC a c <= 0 := by
  rcases cC_range a b with r1 | r1 | r1
  · rcases cC_range b c with r2 | r2 | r2
    · rw [cC_trans r1 r2]; omega
    · rw [← cC_zero.1 r2, r1]; omega
    · omega
  · rw [cC_zero.1 r1]; exact h2
  · omega
theorem esc_cmp : ∀ (k1 k2 t1 t2 : List UInt8), Lib.compareBytes (escL k1 ++ 0 :: 1 :: t1) (escL k2 ++ 0 :: 1 :: t2) = if Lib.compareBytes k1 k2 ≠ 0 then Lib.compareBytes k1 k2 else Lib.compareBytes t1 t2
  | [], [], t1, t2 => by simp [escL, Lib.compareBytes, u8_irr]
  | [], b :: k2, t1, t2 => by
    simp only [escL]
    by_cases hb : b = 0
    · subst hb; simp [Lib.compareBytes, u8_irr, show (1 : UInt8) < 255 from by decide]
    · have : (0 : UInt8) < b := by
        rcases u8_tri 0 b with h | h | h
        · exact h
        · exact absurd h.symm hb
        · rw [UInt8.lt_iff_toNat_lt] at h; simp at h
      simp [hb, Lib.compareBytes, this]
  | a :: k1, [], t1, t2 => by
    simp only [escL]
    by_cases hb : a = 0
    · subst hb; simp [Lib.compareBytes, u8_irr, show (1 : UInt8) < 255 from by decide, show ¬ (255 : UInt8) < 1 from by decide]
    · have : (0 : UInt8) < a := by
        rcases u8_tri 0 a with h | h | h
        · exact h
        · exact absurd h.symm hb
        · rw [UInt8.lt_iff_toNat_lt] at h; simp at h
      simp [hb, Lib.compareBytes, this, u8_asym this]
  | a :: k1, b :: k2, t1, t2 => by
    have ih := esc_cmp k1 k2 t1 t2
    have pos : ∀ x : UInt8, x ≠ 0 -> (0 : UInt8) < x := fun x hx => by
      rcases u8_tri 0 x with h | h | h
      · exact h
      · exact absurd h.symm hx
      · rw [UInt8.lt_iff_toNat_lt] at h; simp at h
    rcases u8_tri a b with h | h | h
    · have hb0 : b ≠ 0 := fun e => by subst e; rw [UInt8.lt_iff_toNat_lt] at h; simp at h
      by_cases ha : a = 0
      · subst ha; simp [escL, hb0, Lib.compareBytes, h]
      · simp [escL, hb0, ha, Lib.compareBytes, h]
    · subst h
      by_cases ha : a = 0
      · subst ha; simp [escL, Lib.compareBytes, u8_irr, ih]
      · simp [escL, ha, Lib.compareBytes, u8_irr, ih]
    · have ha0 : a ≠ 0 := fun e => by subst e; rw [UInt8.lt_iff_toNat_lt] at h; simp at h
      by_cases hb : b = 0
      · subst hb; simp [escL, ha0, Lib.compareBytes, h, u8_asym h]
      · simp [escL, ha0, hb, Lib.compareBytes, h, u8_asym h]
def cmpN (u v : Nat) : Int := if u < v then -1 else if v < u then 1 else 0
theorem be_cmp : ∀ (j u v : Nat), Lib.compareBytes (beT u j) (beT v j) = cmpN (u % 2 ^ (8 * j)) (v % 2 ^ (8 * j))
  | 0, u, v => by simp [beT, Lib.compareBytes, cmpN, Nat.mod_one]
  | j + 1, u, v => by
    have ih := be_cmp j u v
    simp only [beT, Lib.compareBytes, ih]
    have e : 2 ^ (8 * (j + 1)) = 2 ^ (8 * j) * 256 := by rw [show 8 * (j + 1) = 8 * j + 8 from by omega, Nat.pow_add]
    have hu : u % 2 ^ (8 * (j + 1)) = u % 2 ^ (8 * j) + 2 ^ (8 * j) * (u / 2 ^ (8 * j) % 256) := by rw [e, Nat.mod_mul]
    have hv : v % 2 ^ (8 * (j + 1)) = v % 2 ^ (8 * j) + 2 ^ (8 * j) * (v / 2 ^ (8 * j) % 256) := by rw [e, Nat.mod_mul]
    rw [hu, hv]
    have pu := Nat.mod_lt u (Nat.two_pow_pos (8 * j))
    have pv := Nat.mod_lt v (Nat.two_pow_pos (8 * j))
    simp only [UInt8.lt_iff_toNat_lt, UInt8.toNat_ofNat']
    have e8 : (2 : Nat) ^ 8 = 256 := by decide
    rw [e8]
    generalize u / 2 ^ (8 * j) % 256 = x at *
    generalize v / 2 ^ (8 * j) % 256 = y at *
    generalize u % 2 ^ (8 * j) = p at *
    generalize v % 2 ^ (8 * j) = q at *
    generalize 2 ^ (8 * j) = B at *
    unfold cmpN
    rcases Nat.lt_trichotomy x y with h | h | h
    · have : B * (x + 1) <= B * y := Nat.mul_le_mul_left _ h
      rw [Nat.mul_add, Nat.mul_one] at this
      rw [if_pos h, if_pos (by omega)]
    · subst h
      rw [if_neg (by omega), if_neg (by omega)]
      by_cases h1 : p < q
      · rw [if_pos h1, if_pos (by omega)]
      · rw [if_neg h1, if_neg (show ¬ (p + B * x < q + B * x) by omega)]
        by_cases h2 : q < p
        · rw [if_pos h2, if_pos (by omega)]
        · rw [if_neg h2, if_neg (by omega)]
    · have : B * (y + 1) <= B * x := Nat.mul_le_mul_left _ h
      rw [Nat.mul_add, Nat.mul_one] at this
      rw [if_neg (by omega), if_pos h, if_neg (by omega), if_pos (by omega)]
abbrev I64n (n : Int) : Prop := -9223372036854775808 <= n ∧ n < 9223372036854775808
theorem upU_val {n : Int} (h : I64n n) : (upU n : Int) = n + 9223372036854775808 := by
  rw [upU_eq, wrap_u64, wrap_u64]; omega
theorem may_view {c : Cel} (h : mayC c = 0) : 0 <= c.View ∧ c.View <= 4 ∧ c.Key.size <= 32 := by
  unfold mayC at h
  split at h
  · omega
  · split at h
    · omega
    · omega
theorem key_cmp {a b : Cel} (ha : mayC a = 0) (hb : mayC b = 0) (ia : I64n a.Start) (ib : I64n b.Start) : Lib.compareBytes (keyL a) (keyL b) = cmpC a b := by
  obtain ⟨a1, a2, a3⟩ := may_view ha
  obtain ⟨b1, b2, b3⟩ := may_view hb
  unfold keyL cmpC cmpM
  simp only [Lib.compareBytes, List.append_assoc, List.cons_append, List.nil_append]
  rw [esc_cmp, be_cmp]
  have ua := upU_val ia
  have ub := upU_val ib
  have e8 : (2 : Nat) ^ (8 * 8) = 18446744073709551616 := by decide
  rw [e8, Nat.mod_eq_of_lt (by omega), Nat.mod_eq_of_lt (by omega)]
  have hN : cmpN (upU a.Start) (upU b.Start) = cmpI a.Start b.Start := by
    unfold cmpN cmpI
    by_cases h1 : a.Start < b.Start
    · rw [if_pos h1, if_pos (by omega)]
    · rw [if_neg h1, if_neg (by omega)]
      by_cases h2 : a.Start > b.Start
      · rw [if_pos h2, if_pos (by omega)]
      · rw [if_neg h2, if_neg (by omega)]
  rw [hN]
  have va : (UInt8.ofNat a.View.toNat).toNat = a.View.toNat := by rw [UInt8.toNat_ofNat']; omega
  have vb : (UInt8.ofNat b.View.toNat).toNat = b.View.toNat := by rw [UInt8.toNat_ofNat']; omega
  simp only [UInt8.lt_iff_toNat_lt, va, vb]
  unfold cmpI
  rcases Int.lt_trichotomy a.View b.View with h | h | h
  · rw [if_pos (by omega), if_pos (by rw [if_pos h]; omega), if_pos h]
  · rw [h, if_neg (by omega), if_neg (by omega)]; simp
  · rw [if_neg (by omega), if_pos (by omega), if_pos (by rw [if_neg (by omega), if_pos (by omega)]; omega), if_neg (by omega), if_pos (by omega)]
theorem unesc_esc : ∀ (k t : List UInt8), unesc (escL k ++ 0 :: 1 :: t) = .ok (k, t)
  | [], t => by
    show unesc (0 :: 1 :: t) = _
    rw [unesc.eq_def]; simp
  | b :: k, t => by
    have ih := unesc_esc k t
    by_cases hb : b = 0
    · subst hb
      simp only [escL, if_true, List.cons_append]
      rw [unesc.eq_def]
      simp [ih]
    · simp only [escL, if_neg hb, List.cons_append]
      rw [unesc_ne hb, ih]
theorem beV_beT : ∀ (j u w : Nat), beV w (beT u j) = w * 2 ^ (8 * j) + u % 2 ^ (8 * j)
  | 0, u, w => by simp [beT, beV, Nat.mod_one]
  | j + 1, u, w => by
    rw [beT, beV, beV_beT j, UInt8.toNat_ofNat']
    have e : 2 ^ (8 * (j + 1)) = 2 ^ (8 * j) * 256 := by rw [show 8 * (j + 1) = 8 * j + 8 from by omega, Nat.pow_add]
    have hu : u % 2 ^ (8 * (j + 1)) = u % 2 ^ (8 * j) + 2 ^ (8 * j) * (u / 2 ^ (8 * j) % 256) := by rw [e, Nat.mod_mul]
    have e8 : (2 : Nat) ^ 8 = 256 := by decide
    rw [hu, e, e8, Nat.add_mul, Nat.mul_comm (u / 2 ^ (8 * j) % 256), Nat.mul_assoc w 256, Nat.mul_comm 256 (2 ^ (8 * j))]
    omega
theorem cell_back {c : Cel} (h : mayC c = 0) (i : I64n c.Start) : cellM (keyL c) = (c, 0) := by
  obtain ⟨a1, a2, a3⟩ := may_view h
  have u := upU_val i
  unfold keyL
  rw [cellM_cons]
  simp only [List.append_assoc, List.cons_append, List.nil_append]
  rw [unesc_esc]
  simp only [finC, beT_len]
  rw [if_neg (by omega), if_neg (by omega), beV_beT]
  have e8 : (2 : Nat) ^ (8 * 8) = 18446744073709551616 := by decide
  have hs : startOf (0 * 2 ^ (8 * 8) + upU c.Start % 2 ^ (8 * 8)) = c.Start := by
    rw [e8, Nat.mod_eq_of_lt (by omega)]
    unfold startOf
    rw [wrap_u64, Nat.zero_mul, Nat.zero_add, u]
    unfold IntKind.wrap
    simp [IntKind.bits, IntKind.signed]
    omega
  rw [hs]
  have hv : (((UInt8.ofNat c.View.toNat).toNat : Nat) : Int) = c.View := by rw [UInt8.toNat_ofNat']; omega
  rw [hv]
  have hc : (⟨c.View, ⟨c.Key.data.toList.toArray⟩, c.Start⟩ : Cel) = c := by
    obtain ⟨v, ⟨k⟩, s⟩ := c
    simp
  rw [hc, if_neg (by simpa using h)]
section
variable {h0 h : H} {n m q : Nat} {a b c : Cel} {Q : Bool -> H -> Prop}
end
end Go.Proofs.YtjjchpaomgmmdaaGreat.V
namespace Go.Proofs.YtjjchpaomgmmdaaGreat.V.M
open Go Go.Proofs.YtjjchpaomgmmdaaGreat.V
set_option linter.unusedVariables false
set_option linter.unusedSimpArgs false
section
variable {α : Type} (le : α -> α -> Bool)
def mAll (Ls : List (List α)) : List α := Ls.foldr (fun l m => List.merge l m le) []
variable {le}
theorem merge_nil (m : List α) : List.merge [] m le = m := by simp [List.merge]
theorem merge_nil' (l : List α) : List.merge l [] le = l := by cases l <;> simp [List.merge]
theorem merge_cons (x y : α) (l m : List α) : List.merge (x :: l) (y :: m) le = if le x y then x :: List.merge l (y :: m) le else y :: List.merge (x :: l) m le := by
  rw [List.merge]
theorem mAll_head : ∀ {Ls : List (List α)} {y : α} {r : List α}, mAll le Ls = y :: r -> ∃ (j : Nat) (t : List α), Ls[j]? = some (y :: t)
  | [], y, r, h => by simp [mAll] at h
  | l :: Ls, y, r, h => by
    have hm : List.merge l (mAll le Ls) le = y :: r := h
    cases l with
    | nil =>
      rw [merge_nil] at hm
      obtain ⟨j, t, hj⟩ := mAll_head hm
      exact ⟨j + 1, t, by simpa using hj⟩
    | cons a l =>
      cases hq : mAll le Ls with
      | nil =>
        rw [hq, merge_nil'] at hm
        cases hm
        exact ⟨0, _, rfl⟩
      | cons b m =>
        rw [hq, merge_cons] at hm
        split at hm
        · cases hm; exact ⟨0, _, rfl⟩
        · cases hm
          obtain ⟨j, t, hj⟩ := mAll_head hq
          exact ⟨j + 1, t, by simpa using hj⟩
theorem mAll_none : ∀ {Ls : List (List α)}, (∀ l ∈ Ls, l = []) -> mAll le Ls = []
  | [], _ => rfl
  | l :: Ls, h => by
    have h1 := h l (by simp)
    subst h1
    show List.merge [] (mAll le Ls) le = []
    rw [mAll_none fun l hl => h l (by simp [hl])]
    exact merge_nil _
theorem mAll_pick : ∀ {Ls : List (List α)} {k : Nat} {x : α} {t : List α}, Ls[k]? = some (x :: t) -> (∀ (j : Nat) y s, j < k -> Ls[j]? = some (y :: s) -> le y x = false) -> (∀ (j : Nat) y s, k < j -> Ls[j]? = some (y :: s) -> le x y = true) ->
    mAll le Ls = x :: mAll le (Ls.set k t)
  | [], k, x, t, h, _, _ => by simp at h
  | l :: Ls, 0, x, t, h, _, h2 => by
    simp at h
    subst h
    show List.merge (x :: t) (mAll le Ls) le = x :: List.merge t (mAll le Ls) le
    cases hq : mAll le Ls with
    | nil => rw [merge_nil', merge_nil']
    | cons y r =>
      obtain ⟨j, s, hj⟩ := mAll_head hq
      rw [merge_cons, if_pos (h2 (j + 1) y s (by omega) (by simpa using hj))]
  | l :: Ls, k + 1, x, t, h, h1, h2 => by
    have ih := mAll_pick (Ls := Ls) (k := k) (x := x) (t := t) (by simpa using h) (fun j y s hj hy => h1 (j + 1) y s (by omega) (by simpa using hy)) (fun j y s hj hy => h2 (j + 1) y s (by omega) (by simpa using hy))
    show List.merge l (mAll le Ls) le = x :: List.merge l (mAll le (Ls.set k t)) le
    rw [ih]
    cases l with
    | nil => rw [merge_nil, merge_nil]
    | cons y s =>
      rw [merge_cons, if_neg (by rw [h1 0 y s (by omega) rfl]; simp)]
theorem mAll_len : ∀ {Ls : List (List α)}, (mAll le Ls).length = (Ls.map List.length).sum
  | [] => rfl
  | l :: Ls => by
    show (List.merge l (mAll le Ls) le).length = _
    rw [List.length_merge, mAll_len]; simp
end
section
variable {α : Type} [Inhabited α]
abbrev g (A : List α) (i : Nat) : α := A.getD i default
def swp (A : List α) (i j : Nat) : List α := (A.set i (g A j)).set j (g A i)
theorem swp_len (A : List α) (i j : Nat) : (swp A i j).length = A.length := by simp [swp]
theorem g_set {A : List α} {i j : Nat} {x : α} (h : i < A.length) : g (A.set i x) j = if i = j then x else g A j := by
  simp only [g, List.getD_eq_getElem?_getD, List.getElem?_set]
  by_cases e : i = j
  · subst e; simp [h]
  · simp [e]
theorem g_swp {A : List α} {i j k : Nat} (hi : i < A.length) (hj : j < A.length) : g (swp A i j) k = if k = j then g A i else if k = i then g A j else g A k := by
  unfold swp
  rw [g_set (by simpa using hj), g_set hi]
  by_cases e : j = k
  · subst e; simp
  · rw [if_neg e, if_neg (show ¬ k = j from fun h => e h.symm)]
    by_cases e2 : i = k
    · rw [if_pos e2, if_pos e2.symm]
    · rw [if_neg e2, if_neg (show ¬ k = i from fun h => e2 h.symm)]
theorem swp_perm {A : List α} {i j : Nat} (hi : i < A.length) (hj : j < A.length) : (swp A i j).Perm A := by
  have e1 : g A j = A[j] := by simp [g, List.getD_eq_getElem?_getD, hj]
  have e2 : g A i = A[i] := by simp [g, List.getD_eq_getElem?_getD, hi]
  unfold swp
  rw [e1, e2]
  exact List.set_set_perm hi hj
variable (lt : α -> α -> Bool)
def dn : Nat -> List α -> Nat -> Nat -> List α × Nat
  | 0, A, n, i => (A, i)
  | m + 1, A, n, i =>
    if n <= 2 * i + 1 then (A, i)
    else if lt (g A (if 2 * i + 2 < n ∧ lt (g A (2 * i + 2)) (g A (2 * i + 1)) = true then 2 * i + 2 else 2 * i + 1)) (g A i) = true then
      dn m (swp A i (if 2 * i + 2 < n ∧ lt (g A (2 * i + 2)) (g A (2 * i + 1)) = true then 2 * i + 2 else 2 * i + 1)) n (if 2 * i + 2 < n ∧ lt (g A (2 * i + 2)) (g A (2 * i + 1)) = true then 2 * i + 2 else 2 * i + 1)
    else (A, i)
def HP (A : List α) (n s : Nat) : Prop := ∀ c, 0 < c -> c < n -> s <= (c - 1) / 2 -> lt (g A c) (g A ((c - 1) / 2)) = false
structure Ord : Prop where
  asym : ∀ a b, lt a b = true -> lt b a = false
  trans : ∀ a b c, lt b a = false -> lt c b = false -> lt c a = false
variable {lt}
theorem dn_law (o : Ord lt) : ∀ (m : Nat) (A : List α) (n i s : Nat), n <= A.length -> i < n -> s <= i -> n - i <= m ->
    (∀ c, 0 < c -> c < n -> s <= (c - 1) / 2 -> (c - 1) / 2 ≠ i -> lt (g A c) (g A ((c - 1) / 2)) = false) ->
    (∀ c, 0 < c -> c < n -> (c - 1) / 2 = i -> 0 < i -> s <= (i - 1) / 2 -> lt (g A c) (g A ((i - 1) / 2)) = false) ->
    HP lt (dn lt m A n i).1 n s ∧ (dn lt m A n i).1.Perm A ∧ (dn lt m A n i).1.length = A.length ∧ ∀ k, n <= k -> g (dn lt m A n i).1 k = g A k
  | 0, A, n, i, s, hn, hi, hs, hm, h1, h2 => by omega
  | m + 1, A, n, i, s, hn, hi, hs, hm, h1, h2 => by
    unfold dn
    by_cases hl : n <= 2 * i + 1
    · rw [if_pos hl]
      exact ⟨fun c c0 cn cs => h1 c c0 cn cs (by omega), .refl _, rfl, fun _ _ => rfl⟩
    · rw [if_neg hl]
      generalize hj : (if 2 * i + 2 < n ∧ lt (g A (2 * i + 2)) (g A (2 * i + 1)) = true then 2 * i + 2 else 2 * i + 1) = j
      have hj2 : (j = 2 * i + 1 ∨ j = 2 * i + 2) ∧ j < n ∧ (∀ c, (c = 2 * i + 1 ∨ c = 2 * i + 2) -> c < n -> lt (g A c) (g A j) = false) := by
        have irr : ∀ a, lt a a = false := fun a => by
          cases h : lt a a with
          | false => rfl
          | true => have := o.asym a a h; rw [h] at this; cases this
        split at hj
        · rename_i h
          subst hj
          refine ⟨.inr rfl, h.1, fun c hc hcn => ?_⟩
          rcases hc with rfl | rfl
          · exact o.asym _ _ h.2
          · exact irr _
        · rename_i h
          subst hj
          refine ⟨.inl rfl, by omega, fun c hc hcn => ?_⟩
          rcases hc with rfl | rfl
          · exact irr _
          · cases h2 : lt (g A (2 * i + 2)) (g A (2 * i + 1)) with
            | false => rfl
            | true => exact absurd ⟨hcn, h2⟩ h
      obtain ⟨ja, jb, jc⟩ := hj2
      have jp : (j - 1) / 2 = i := by omega
      by_cases ht : lt (g A j) (g A i) = true
      · rw [if_pos ht]
        have hiA : i < A.length := by omega
        have hjA : j < A.length := by omega
        have gs : ∀ k, g (swp A i j) k = if k = j then g A i else if k = i then g A j else g A k := fun k => g_swp hiA hjA
        obtain ⟨r1, r2, r3, r4⟩ := dn_law o m (swp A i j) n j s (by rw [swp_len]; exact hn) jb (by omega) (by omega) (fun c c0 cn cs cp => by
          rw [gs, gs, if_neg (fun h => by subst h; omega : ¬ (c - 1) / 2 = j)]
          by_cases e1 : c = j
          · subst e1
            rw [if_pos rfl, if_pos jp]
            exact o.asym _ _ ht
          · rw [if_neg e1]
            by_cases e2 : c = i
            · subst e2
              rw [if_pos rfl, if_neg (by omega)]
              exact h2 j (by omega) jb jp c0 cs
            · rw [if_neg e2]
              by_cases e3 : (c - 1) / 2 = i
              · rw [if_pos e3]
                exact jc c (by omega) cn
              · rw [if_neg e3]
                exact h1 c c0 cn cs e3) (fun c c0 cn cp j0 js => by
          rw [gs, gs, if_neg (by omega), if_neg (by omega), jp, if_neg (by omega), if_pos rfl, ← cp]
          exact h1 c c0 cn (by omega) (by omega))
        exact ⟨r1, r2.trans (swp_perm hiA hjA), by rw [r3, swp_len], fun k hk => by rw [r4 k hk, gs, if_neg (by omega), if_neg (by omega)]⟩
      · rw [if_neg ht]
        have ht' : lt (g A j) (g A i) = false := by simpa using ht
        refine ⟨fun c c0 cn cs => ?_, .refl _, rfl, fun _ _ => rfl⟩
        by_cases e : (c - 1) / 2 = i
        · rw [e]
          exact o.trans _ _ _ ht' (jc c (by omega) cn)
        · exact h1 c c0 cn cs e
theorem hp_root (o : Ord lt) {A : List α} {n : Nat} (h : HP lt A n 0) : ∀ c, c < n -> lt (g A c) (g A 0) = false := by
  intro c
  induction c using Nat.strongRecOn with
  | _ c ih =>
    intro hc
    by_cases h0 : c = 0
    · subst h0
      cases h : lt (g A 0) (g A 0) with
      | false => rfl
      | true => have := o.asym _ _ h; rw [h] at this; cases this
    · exact o.trans _ _ _ (ih ((c - 1) / 2) (by omega) (by omega)) (h c (by omega) hc (by omega))
end
abbrev Rw8 := S_api_Row
abbrev cW (x : Rw8) : List Value := x.cells
theorem cW_len (x : Rw8) : (cW x).length = 7 := rfl
abbrev cF (x : S_merge_front) : List Value := x.cells
theorem cF_len (x : S_merge_front) : (cF x).length = 2 := rfl
structure Fr where
  f : S_merge_front
  R : List Rw8
instance : Inhabited S_api_Row := ⟨⟨⟨0, ⟨#[]⟩, 0⟩, ⟨0, 0, 0, 0⟩⟩⟩
instance : Inhabited Fr := ⟨⟨⟨⟨none, 0, 0⟩, 0⟩, []⟩⟩
def hdF (a : Fr) : Rw8 := a.R.headD default
def or2 (a b : Int) : Int := if a ≠ 0 then a else b
def ltF (a b : Fr) : Bool := decide (or2 (cmpC (hdF a).Cell (hdF b).Cell) (cmpI a.f.list b.f.list) < 0)
theorem cmpI_val (a b : Int) : (a < b ∧ cmpI a b = -1) ∨ (a = b ∧ cmpI a b = 0) ∨ (b < a ∧ cmpI a b = 1) := by
  unfold cmpI
  by_cases h1 : a < b
  · simp [h1]
  · by_cases h2 : b < a
    · right; right; simp [h1, h2]
    · right; left; simp [h1, h2]; omega
theorem ltF_iff {a b : Fr} : ltF a b = true ↔ cmpC (hdF a).Cell (hdF b).Cell = -1 ∨ (cmpC (hdF a).Cell (hdF b).Cell = 0 ∧ a.f.list < b.f.list) := by
  unfold ltF or2
  rw [decide_eq_true_eq]
  have h1 := cC_range (hdF a).Cell (hdF b).Cell
  have h2 := cmpI_val a.f.list b.f.list
  split
  · omega
  · omega
theorem ltF_ord : Ord ltF where
  asym a b h := by
    cases hb : ltF b a with
    | false => rfl
    | true =>
      rw [ltF_iff] at h hb
      have := cC_anti (hdF a).Cell (hdF b).Cell
      omega
  trans a b c h1 h2 := by
    cases hc : ltF c a with
    | false => rfl
    | true =>
      have n1 : ¬ ltF b a = true := by rw [h1]; simp
      have n2 : ¬ ltF c b = true := by rw [h2]; simp
      rw [ltF_iff] at n1 n2 hc
      have ra := cC_range (hdF b).Cell (hdF a).Cell
      have rb := cC_range (hdF c).Cell (hdF b).Cell
      have a1 := cC_anti (hdF b).Cell (hdF a).Cell
      have a2 := cC_anti (hdF c).Cell (hdF b).Cell
      have a3 := cC_anti (hdF c).Cell (hdF a).Cell
      have l1 : cmpC (hdF a).Cell (hdF b).Cell <= 0 := by omega
      have l2 : cmpC (hdF b).Cell (hdF c).Cell <= 0 := by omega
      have l3 := cC_le_trans l1 l2
      rcases hc with hc | ⟨hc, hl⟩
      · omega
      · have e1 : (hdF c).Cell = (hdF a).Cell := cC_zero.1 hc
        rw [e1] at rb a2 l2 n2
        by_cases hz : cmpC (hdF b).Cell (hdF a).Cell = 0
        · omega
        · omega
theorem add0 (a : Addr) : a.add 0 = a := by unfold Addr.add; simp
theorem Cells.pre {h : H} {a : Addr} {x y : List Value} (c : Cells h a (x ++ y)) : Cells h a x := fun i v hv => c i v (by rw [List.getElem?_append_left (List.getElem?_eq_some_iff.1 hv).1]; exact hv)
section
variable {h0 hk h h' : H} {n : Nat} {s : Sl} {G : List Fr}
theorem or2_spec {n : Nat} {a b : Int} {Q : Int -> H -> Prop} (bl : Blk h n #[.int .i64 a, .int .i64 b] 3) (k : Q (or2 a b) h) : F.xao ⟨some ⟨n, 0, none⟩, 2, 2⟩ h Q := by
  unfold F.xao
  unfold or2 at k
  refine ⟨3, ?_⟩
  have c0 : cellH h ⟨n, 0, none⟩ = some (.int .i64 a) := bl.cell rfl
  have c1 : cellH h ⟨n, 1, none⟩ = some (.int .i64 b) := bl.cell rfl
  unfold F.xao.l1
  refine ⟨fun _ => ?_, fun g => by simp at g⟩
  refine idxA_of (i := 0) rfl (by simp) rfl ?_
  rw [Nat.zero_mul, ldI_iff c0, bne_iff_ne, bne_eq_false_iff_eq]
  refine ⟨fun g => by rw [if_pos g] at k; exact k, fun g => ?_⟩
  rw [if_neg (by simpa using g)] at k
  rw [show IntKind.wrap .i64 (0 + 1) = ((1 : Nat) : Int) from by decide]
  unfold F.xao.l1
  refine ⟨fun _ => ?_, fun g => by simp at g⟩
  refine idxA_of (i := 1) rfl (by simp) rfl ?_
  rw [Nat.one_mul, ldI_iff c1, bne_iff_ne, bne_eq_false_iff_eq]
  refine ⟨fun g => k, fun g => ?_⟩
  rw [show IntKind.wrap .i64 (((1 : Nat) : Int) + 1) = ((2 : Nat) : Int) from by decide]
  unfold F.xao.l1
  refine ⟨fun g => by simp at g, fun _ => ?_⟩
  rw [g] at k; exact k
structure Keep (hk h : H) : Prop where
  w : ∀ {r : Sl} {e : TypeId} {k : Nat} {cs : List Value}, Owns hk r e k cs -> e ≠ tn_merge_front -> e ≠ tn_merge_fronts -> Owns h r e k cs
theorem Keep.refl (h : H) : Keep h h := ⟨fun w _ _ => w⟩
theorem own_ne {h : H} {s : Sl} {n : Nat} {cs : List Value} {k : Nat} {c : Array Value} {e e' : TypeId} (w : Owns h s e k cs) (b : Blk h n c e') (he : e ≠ e') : s.blk ≠ some n := fun hb => by
  obtain ⟨_, ⟨q1, q2, q3⟩ | ⟨b', c', q1, q2, _⟩⟩ := w
  · simp [Sl.blk, q1] at hb
  · simp [Sl.blk, q1] at hb
    subst hb
    unfold Blk at q2 b
    rw [q2] at b; cases b; exact he rfl
theorem Keep.ext {hk h h' : H} (k : Keep hk h) (e : Ext h h') : Keep hk h' := ⟨fun w h1 h2 => (k.w w h1 h2).ext e⟩
theorem Keep.blk {hk h h' : H} {n : Nat} {c : Array Value} {e' : TypeId} (k : Keep hk h) (o : Only (· = n) h h') (b : Blk h n c e') (he : e' = tn_merge_front ∨ e' = tn_merge_fronts) : Keep hk h' := ⟨fun w h1 h2 =>
  (k.w w h1 h2).only o fun y hy hf => own_ne (k.w w h1 h2) b (fun e => by rcases he with he | he; exact h1 (e.trans he); exact h2 (e.trans he)) (by rw [hy, hf])⟩
theorem Keep.own {hk h h' : H} {s : Sl} {m : Nat} {ds : List Value} (k : Keep hk h) (o : Only (fun b => s.blk = some b) h h') (ws : Owns h s tn_merge_front m ds) : Keep hk h' := ⟨fun w h1 h2 =>
  (k.w w h1 h2).only o fun y hy hf => by
    obtain ⟨_, ⟨q1, q2, q3⟩ | ⟨b', c', q1, q2, _⟩⟩ := ws
    · simp [Sl.blk, q1] at hf
    · simp [Sl.blk, q1] at hf
      subst hf
      exact own_ne (k.w w h1 h2) q2 h1 hy⟩
structure FS (h0 hk h : H) (n : Nat) (s : Sl) (G : List Fr) : Prop where
  var : Blk h n #[s.enc] tn_merge_fronts
  own : Owns h s tn_merge_front 2 ((G.map (·.f)).flatMap cF)
  mine : Mine h0 s
  lo : h0.size <= n
  ext : Ext h0 h
  rows : ∀ f ∈ G, f.R ≠ [] -> Reads h0 f.f.rows 7 (f.R.flatMap cW)
  kp : Keep hk h
theorem g_mem {i : Nat} (hi : i < G.length) : G[i]? = some (g G i) := by simp [g, List.getD_eq_getElem?_getD, hi]
theorem FS.at (v : FS h0 hk h n s G) {i : Nat} (hi : i < G.length) {K : Addr -> Prop} (k : ∀ a, Cells h a (cF (g G i).f) -> K a) : idxA s (i : Int) 2 K := by
  obtain ⟨b, p1, p2⟩ := own_at cF_len (by omega) v.own (i := i) (x := (g G i).f) (by rw [List.getElem?_map, g_mem hi]; rfl)
  have hl := own_len cF_len (by omega) v.own
  rw [List.length_map] at hl
  exact idxA_of (i := i) p1 (by rw [hl]; exact hi) rfl (k _ p2)
theorem FS.e (v : FS h0 hk h n s G) (e : Ext h h') : FS h0 hk h' n s G := ⟨e.block v.var (fun f => f), v.own.ext e, v.mine, v.lo, v.ext.trans e, v.rows, v.kp.ext e⟩
theorem hd_cell (v : FS h0 hk h n s G) {i : Nat} (hi : i < G.length) (hne : (g G i).R ≠ []) {K : Cel -> Prop} (k : K (hdF (g G i)).Cell) : idxA (g G i).f.rows 0 7 fun a => ld_S_api_Cell h (a.add 0) K := by
  have rd := v.rows _ (List.mem_of_getElem? (g_mem hi)) hne
  obtain ⟨x, t, hx⟩ : ∃ x t, (g G i).R = x :: t := by
    cases hR : (g G i).R with
    | nil => exact absurd hR hne
    | cons x t => exact ⟨x, t, rfl⟩
  have rd' := rd.only v.ext fun _ _ f => f
  rw [hx] at rd'
  obtain ⟨p, p1, p2, p3⟩ := rd_at cW_len (by omega) rd' (i := 0) (x := x) rfl
  have hl := rd_len cW_len (by omega) rd'
  refine idxR_of (i := 0) p1 (by rw [hl]; simp) rfl ?_
  rw [add0]
  have : hdF (g G i) = x := by unfold hdF; rw [hx]; rfl
  rw [this] at k
  exact ⟨x.Cell, Cells.pre p3, k⟩
theorem Less_spec {i j : Nat} {Q : Bool -> H -> Prop} (v : FS h0 hk h n s G) (hi : i < G.length) (hj : j < G.length) (ni : (g G i).R ≠ []) (nj : (g G j).R ≠ []) (k : ∀ h', Ext h h' -> Q (ltF (g G i) (g G j)) h') : F.xcf s (i : Int) (j : Int) h Q := by
  unfold F.xcf
  have c0 : ∀ {a : Addr} {x : S_merge_front}, Cells h a (cF x) -> cellH h (a.add 0) = some x.rows.enc := fun c => c 0 _ rfl
  have c1 : ∀ {a : Addr} {x : S_merge_front}, Cells h a (cF x) -> cellH h (a.add 1) = some (.int .i64 x.list) := fun c => c 1 _ rfl
  refine v.at hi fun a1 d1 => (ldL_iff (c0 d1)).2 (hd_cell v hi ni (v.at hj fun a2 d2 => (ldL_iff (c0 d2)).2 (hd_cell v hj nj ?_)))
  refine v.at hi fun a3 d3 => (ldI_iff (c1 d3)).2 (v.at hj fun a4 d4 => (ldI_iff (c1 d4)).2 ?_)
  refine Compare_spec fun h1 e1 => ⟨e1.cell (c1 d4) (fun f => f), e1.cell (c1 d3) (fun f => f), cmpInt_spec ?_⟩
  refine newL_of fun m h2 hm b2 e2 s2 => or2_spec b2 (k h2 (e1.trans e2))
theorem Swap_spec {i j : Nat} {Q : H -> Prop} (v : FS h0 hk h n s G) (hi : i < G.length) (hj : j < G.length) (k : ∀ h', FS h0 hk h' n s (swp G i j) -> Q h') : F.xca s (i : Int) (j : Int) h Q := by
  unfold F.xca
  have hl := own_len cF_len (by omega) v.own
  rw [List.length_map] at hl
  refine v.at hj fun a1 d1 => ⟨_, d1, v.at hi fun a2 d2 => ⟨_, d2, ?_⟩⟩
  obtain ⟨b, p1, p2⟩ := own_at cF_len (by omega) v.own (i := i) (x := (g G i).f) (by rw [List.getElem?_map, g_mem hi]; rfl)
  refine idxA_of (i := i) p1 (by rw [hl]; exact hi) rfl ?_
  refine own_setAt (i := i) (x := (g G j).f) cF_len v.own p1 (by simpa using hi) fun h1 w1 o1 s1 => ?_
  refine idxA_of (i := j) p1 (by rw [hl]; exact hj) rfl ?_
  refine own_setAt (i := j) (x := (g G i).f) cF_len w1 p1 (by simpa using hj) fun h2 w2 o2 s2 => ?_
  have o : Only (fun b => s.blk = some b) h h2 := o1.trans o2 fun _ _ e => e
  have hnb : s.blk ≠ some n := fun hb => by
    obtain ⟨_, ⟨q1, _⟩ | ⟨b', c', q1, q2, _⟩⟩ := v.own
    · rw [q1] at p1; cases p1
    · simp [Sl.blk, q1] at hb
      subst hb
      have := v.var
      unfold Blk at q2 this
      rw [q2] at this; cases this
  refine k h2 ⟨o.block v.var hnb, ?_, v.mine, v.lo, v.ext.mine v.mine o, fun f hf => v.rows f ((swp_perm hi hj).mem_iff.1 hf), v.kp.own o v.own⟩
  have : (swp G i j).map (·.f) = (((G.map (·.f)).set i (g G j).f).set j (g G i).f) := by unfold swp; rw [List.map_set, List.map_set]
  rw [this]; exact w2
theorem FS.ldv (v : FS h0 hk h n s G) {K : Sl -> Prop} (k : K s) : ldL h ⟨n, 0, none⟩ K := (ldL_iff (v.var.cell (i := 0) rfl)).2 k
theorem down_loop {n0 i0 : Nat} {Q : Bool -> H -> Prop} : ∀ (m i : Nat) (h : H) (G : List Fr), n0 <= G.length -> n0 < 1000000 -> i < 1000000 -> n0 - i <= m -> FS h0 hk h n s G -> (∀ j, j < n0 -> (g G j).R ≠ []) ->
    (∀ h', FS h0 hk h' n s (dn ltF m G n0 i).1 -> Q (decide ((((dn ltF m G n0 i).2 : Nat) : Int) > (i0 : Int))) h') ->
    F.xab.l2 Q (m + 1) (some ⟨n, 0, none⟩) (i0 : Int) (n0 : Int) (i : Int) h := by
  intro m
  induction m with
  | zero =>
    intro i h G hn hn0 hi hm v ne k
    unfold F.xab.l2
    rw [w64 (n := 2 * (i : Int)) (by omega) (by omega), w64 (n := 2 * (i : Int) + 1) (by omega) (by omega)]
    refine ⟨fun _ => ?_, fun g => by simp at g; omega⟩
    unfold F.xab.j6 F.xab.j1
    refine ⟨fun _ => k h v, fun g => (by cases g)⟩
  | succ m ih =>
    intro i h G hn hn0 hi hm v ne k
    unfold F.xab.l2
    rw [w64 (n := 2 * (i : Int)) (by omega) (by omega), w64 (n := 2 * (i : Int) + 1) (by omega) (by omega)]
    unfold dn at k
    refine ⟨fun g1 => ?_, fun g1 => ?_⟩
    · rw [if_pos (by simp at g1; omega)] at k
      unfold F.xab.j6 F.xab.j1
      exact ⟨fun _ => k h v, fun g => (by cases g)⟩
    · have hlt : ¬ n0 <= 2 * i + 1 := by simp at g1; omega
      rw [if_neg hlt] at k
      rw [decide_eq_false (show ¬ 2 * (i : Int) + 1 < 0 by omega)]
      unfold F.xab.j6
      refine ⟨fun g => (by cases g), fun _ => ?_⟩
      unfold F.xab.j3
      rw [w64 (n := 2 * (i : Int) + 1 + 1) (by omega) (by omega)]
      have q1 : (2 * (i : Int) + 1) = ((2 * i + 1 : Nat) : Int) := by omega
      have q2 : (2 * (i : Int) + 1 + 1) = ((2 * i + 2 : Nat) : Int) := by omega
      rw [q2, q1]
      -- the lesser child
      have j4 : ∀ (j : Nat) (h : H), FS h0 hk h n s G -> j < n0 -> (if 2 * i + 2 < n0 ∧ ltF (g G (2 * i + 2)) (g G (2 * i + 1)) = true then 2 * i + 2 else 2 * i + 1) = j -> F.xab.j4 Q (F.xab.l2 Q (m + 1)) (some ⟨n, 0, none⟩) (i0 : Int) (n0 : Int) (i : Int) (j : Int) h := by
        intro j h v hj hje
        rw [hje] at k
        have hji : j = 2 * i + 1 ∨ j = 2 * i + 2 := by rw [← hje]; split <;> omega
        unfold F.xab.j4
        refine ⟨_, rfl, v.ldv (Less_spec v (by omega) (by omega) (ne j hj) (ne i (by omega)) fun h1 e1 => ⟨fun g => ?_, fun g => ⟨_, rfl, ?_⟩⟩)⟩
        · rw [if_neg (by simpa using g)] at k
          unfold F.xab.j1
          exact k h1 (v.e e1)
        · rw [if_pos (by simpa using g)] at k
          have v1 := v.e e1
          refine v1.ldv (Swap_spec v1 (by omega) (by omega) fun h2 v2 => ?_)
          exact ih j h2 _ (by rw [swp_len]; exact hn) hn0 (by omega) (by omega) v2 (fun q hq => by
            rw [g_swp (by omega) (by omega)]
            split
            · exact ne i (by omega)
            · split
              · exact ne j hj
              · exact ne q hq) k
      have j5 : ∀ (b : Bool) (h : H), FS h0 hk h n s G -> (b = decide (2 * i + 2 < n0 ∧ ltF (g G (2 * i + 2)) (g G (2 * i + 1)) = true)) -> F.xab.j5 Q (F.xab.l2 Q (m + 1)) (some ⟨n, 0, none⟩) (i0 : Int) (n0 : Int) (i : Int) ((2 * i + 1 : Nat) : Int) ((2 * i + 2 : Nat) : Int) b h := by
        intro b h v hb
        unfold F.xab.j5
        refine ⟨fun g => ?_, fun g => ?_⟩
        · rw [hb] at g
          have hc := of_decide_eq_true g
          exact j4 _ h v hc.1 (if_pos hc)
        · rw [hb] at g
          have hc := of_decide_eq_false g
          exact j4 _ h v (by omega) (if_neg hc)
      refine ⟨fun gg => ⟨_, rfl, v.ldv ?_⟩, fun gg => j5 _ h v ?_⟩
      · have hc : 2 * i + 2 < n0 := by simp at gg; omega
        refine Less_spec v (by omega) (by omega) (ne _ hc) (ne _ (by omega)) fun h1 e1 => j5 _ h1 (v.e e1) ?_
        cases ltF (g G (2 * i + 2)) (g G (2 * i + 1)) <;> simp [hc]
      · have hc : ¬ 2 * i + 2 < n0 := by simp at gg; omega
        simp [hc]
theorem down_spec {n0 i0 : Nat} {Q : Bool -> H -> Prop} (v : FS h0 hk h n s G) (hn : n0 <= G.length) (hn0 : n0 < 1000000) (hi : i0 < 1000000) (ne : ∀ j, j < n0 -> (g G j).R ≠ []) (k : ∀ h', FS h0 hk h' n s (dn ltF (n0 - i0) G n0 i0).1 -> ∀ b, Q b h') :
    F.xab (some ⟨n, 0, none⟩) (i0 : Int) (n0 : Int) h Q := by
  unfold F.xab
  exact ⟨n0 - i0 + 1, down_loop (n0 - i0) i0 h G hn hn0 hi (Nat.le_refl _) v ne fun h' v' => k h' v' _⟩
end
section
variable {h0 hk h h' : H} {n : Nat} {s : Sl} {G : List Fr}
abbrev Heap (G : List Fr) : Prop := HP ltF G G.length 0
theorem Init_loop {Q : H -> Prop} : ∀ (m : Nat) (i : Nat) (h : H) (G : List Fr), G.length < 1000000 -> i <= G.length / 2 -> i < m -> FS h0 hk h n s G -> (∀ f ∈ G, f.R ≠ []) -> HP ltF G G.length i ->
    (∀ h' G', FS h0 hk h' n s G' -> G'.Perm G -> Heap G' -> Q h') -> F.xbm.l1 Q m (some ⟨n, 0, none⟩) (G.length : Int) ((i : Int) - 1) h := by
  intro m
  induction m with
  | zero => intro i h G _ _ hm; omega
  | succ m ih =>
    intro i h G hn hi hm v ne hp k
    unfold F.xbm.l1
    refine ⟨fun g => ?_, fun g => ?_⟩
    · have hi0 : 0 < i := by simp at g; omega
      have e1 : ((i : Int) - 1) = ((i - 1 : Nat) : Int) := by omega
      rw [e1]
      have law := dn_law ltF_ord (G.length - (i - 1)) G G.length (i - 1) (i - 1) (Nat.le_refl _) (by omega) (Nat.le_refl _) (Nat.le_refl _) (fun c c0 cn cs cp => hp c c0 cn (by omega)) (fun c c0 cn cp c1 c2 => by omega)
      refine down_spec v (Nat.le_refl _) hn (by omega) (fun j hj => ne _ (List.mem_of_getElem? (g_mem hj))) fun h1 v1 b => ?_
      rw [w64 (by omega) (by omega)]
      obtain ⟨r1, r2, r3, r4⟩ := law
      have := ih (i - 1) h1 (dn ltF (G.length - (i - 1)) G G.length (i - 1)).1 (by rw [r3]; exact hn) (by rw [r3]; omega) (by omega) v1 (fun f hf => ne f (r2.mem_iff.1 hf)) (by rw [r3]; exact r1) fun h' G' v' p' hp' => k h' G' v' (p'.trans r2) hp'
      rw [r3] at this
      exact this
    · have : i = 0 := by simp at g; omega
      subst this
      exact k h G v (.refl _) hp
theorem tdiv2 {a : Nat} : Int.tdiv (a : Int) 2 = ((a / 2 : Nat) : Int) := by
  rw [Int.tdiv_eq_ediv_of_nonneg (by omega)]; omega
theorem Init_spec {Q : H -> Prop} (v : FS h0 hk h n s G) (ne : ∀ f ∈ G, f.R ≠ []) (hn : G.length < 1000000) (k : ∀ h' G', FS h0 hk h' n s G' -> G'.Perm G -> Heap G' -> Q h') : F.xbm (some ⟨n, 0, none⟩) h Q := by
  unfold F.xbm
  refine ⟨_, rfl, v.ldv ?_⟩
  unfold F.xbw
  have hl := own_len cF_len (by omega) v.own
  rw [List.length_map] at hl
  rw [hl]
  refine ⟨by decide, G.length / 2 + 1, ?_⟩
  rw [tdiv2, w64 (n := ((G.length / 2 : Nat) : Int)) (by omega) (by omega), w64 (by omega) (by omega)]
  exact Init_loop (G.length / 2 + 1) (G.length / 2) h G hn (by omega) (by omega) v ne (fun c c0 cn cs => by omega) k
theorem Pop_method {Q : Value -> H -> Prop} (v : FS h0 hk h n s G) (hG : 0 < G.length) (hn : G.length < 1000000) (k : ∀ u h' s', FS h0 hk h' n s' G.dropLast -> Q u h') : F.xdc (some ⟨n, 0, none⟩) h Q := by
  unfold F.xdc
  have hl := own_len cF_len (by omega) v.own
  rw [List.length_map] at hl
  refine ⟨_, rfl, v.ldv ?_⟩
  rw [hl, w64 (by omega) (by omega)]
  have e1 : ((G.length : Int) - 1) = ((G.length - 1 : Nat) : Int) := by omega
  rw [e1]
  refine v.at (by omega) fun a1 d1 => ⟨_, d1, ?_⟩
  refine new_of fun m h1 hm b1 x1 s1 => ?_
  refine stH_of b1 (by simp [S_merge_front.cells]) fun h2 b2 o2 s2 => ?_
  rw [writeA_all (by simp [S_merge_front.cells])] at b2
  have x2 : Ext h h2 := x1.step o2 fun y hy e => by omega
  have v2 := v.e x2
  have hcap : s.len <= s.cap ∧ s.cap <= maxLen ∧ ∃ b, s.ptr = some ⟨b, 0, none⟩ := by
    obtain ⟨_, ⟨q1, q2, q3⟩ | ⟨b', c', q1, q2, q3, q4, q5, q6⟩⟩ := v.own
    · omega
    · exact ⟨q4, q5, b', q1⟩
  refine ⟨slcut s 0 (G.length - 1) 2, ⟨by omega, by omega, by omega, by simp⟩, ⟨_, rfl, ?_⟩⟩
  refine stH_of v2.var (by simp) fun h3 b3 o3 s3 => ?_
  rw [writeA_all (by simp)] at b3
  have hmn : m ≠ n := by have := block_lt v.var; omega
  have b2' : Blk h3 m _ _ := o3.block b2 (fun e => hmn e)
  refine ⟨_, fun j u hu => by rw [add_lit, Nat.zero_add]; exact b2'.cell (by simpa using hu), ?_⟩
  have hnb : s.blk ≠ some n := fun hb => by
    obtain ⟨_, ⟨q1, q2, q3⟩ | ⟨b', c', q1, q2, _⟩⟩ := v2.own
    · simp [Sl.blk, q1] at hb
    · simp [Sl.blk, q1] at hb
      subst hb
      have := v2.var
      unfold Blk at q2 this
      rw [q2] at this; cases this
  have hb0 := hcap.2.2
  obtain ⟨b, hb⟩ := hb0
  have hcut : slcut s 0 (G.length - 1) 2 = ⟨some ⟨b, 0, none⟩, G.length - 1, s.cap⟩ := by
    unfold slcut
    rw [if_neg (by omega), hb]
    simp [add_lit]
  rw [hcut] at b3
  have w2 := v2.own
  refine k _ h3 _ ⟨b3, ?_, fun y hy => v.mine y (by simp [Sl.blk] at hy ⊢; simp [hb, hy]), v.lo, v2.ext.step o3 fun y hy e => by have := v.lo; omega, fun f hf => v.rows f (List.dropLast_subset _ hf), v2.kp.blk o3 v2.var (.inr rfl)⟩
  have w3 := w2.only o3 fun y hy e => hnb (by rw [← e]; exact hy)
  obtain ⟨r1, ⟨q1, q2, q3⟩ | ⟨b', c', q1, q2, q3, q4, q5, q6⟩⟩ := w3
  · omega
  · rw [hb] at q1
    cases q1
    have hfl : ((G.map (·.f)).flatMap cF).length = G.length * 2 := by rw [flat_len _ 2 cF_len]; simp
    have hdl : ((G.dropLast.map (·.f)).flatMap cF) = ((G.map (·.f)).flatMap cF).take ((G.length - 1) * 2) := by
      have hne : G ≠ [] := by intro e; subst e; simp at hG
      have hGs := List.dropLast_concat_getLast hne
      have hfd : ((G.dropLast.map (·.f)).flatMap cF).length = (G.length - 1) * 2 := by rw [flat_len _ 2 cF_len]; simp
      have e : ((G.map (·.f)).flatMap cF) = ((G.dropLast.map (·.f)).flatMap cF) ++ (([G.getLast hne].map (·.f)).flatMap cF) := by rw [← List.flatMap_append, ← List.map_append, hGs]
      rw [e, List.take_left' hfd]
    refine ⟨by rw [hdl]; simp [hfl], .inr ⟨b, c', rfl, q2, q3, by show G.length - 1 <= s.cap; omega, q5, ?_⟩⟩
    rw [hdl, List.length_take, hfl, Nat.min_eq_left (by omega)]
    rw [hfl] at q6
    rw [← q6, List.take_take, Nat.min_eq_left (by omega)]
theorem dropLast_g {A : List Fr} {c : Nat} (h : c < A.length - 1) : g A.dropLast c = g A c := by
  simp only [g, List.getD_eq_getElem?_getD]
  rw [List.getElem?_dropLast, if_pos h]
theorem Pop_spec {Q : Value -> H -> Prop} (v : FS h0 hk h n s G) (hG : 0 < G.length) (hn : G.length < 1000000) (hp : ∀ c, 0 < c -> c < G.length -> (c - 1) / 2 ≠ 0 -> ltF (g G c) (g G ((c - 1) / 2)) = false) (ne : ∀ j, 0 < j -> j < G.length -> (g G j).R ≠ [])
    (k : ∀ u h' s' G', FS h0 hk h' n s' G' -> (g G 0 :: G').Perm G -> Heap G' -> Q u h') : F.xdd (some ⟨n, 0, none⟩) h Q := by
  unfold F.xdd
  have hl := own_len cF_len (by omega) v.own
  rw [List.length_map] at hl
  refine ⟨_, rfl, v.ldv ?_⟩
  unfold F.xbw
  rw [hl]
  refine ⟨_, rfl, v.ldv ?_⟩
  rw [w64 (by omega) (by omega)]
  have e1 : ((G.length : Int) - 1) = ((G.length - 1 : Nat) : Int) := by omega
  rw [e1]
  have q0 : (0 : Int) = ((0 : Nat) : Int) := rfl
  rw [q0]
  refine Swap_spec v (by omega) (by omega) fun h1 v1 => ?_
  have hgs : ∀ k, g (swp G 0 (G.length - 1)) k = if k = G.length - 1 then g G 0 else if k = 0 then g G (G.length - 1) else g G k := fun k => g_swp (by omega) (by omega)
  have hsl := swp_len G 0 (G.length - 1)
  have key : ∀ (A : List Fr), A.length = G.length -> A.Perm (swp G 0 (G.length - 1)) -> (∀ c, G.length - 1 <= c -> g A c = g (swp G 0 (G.length - 1)) c) -> HP ltF A (G.length - 1) 0 -> (g G 0 :: A.dropLast).Perm G ∧ Heap A.dropLast := by
    intro A hA hperm hback hhp
    constructor
    · have hne : A ≠ [] := by intro e; rw [e] at hA; simp at hA; omega
      have hlast : A.getLast hne = g G 0 := by
        have : g A (G.length - 1) = g G 0 := by rw [hback _ (Nat.le_refl _), hgs, if_pos rfl]
        rw [List.getLast_eq_getElem, ← this]
        simp [g, List.getD_eq_getElem?_getD, hA, hG]
        rw [List.getElem?_eq_getElem (by omega)]; rfl
      have h1 : (A.dropLast ++ [g G 0]).Perm G := by
        rw [← hlast, List.dropLast_concat_getLast hne]
        exact hperm.trans (swp_perm (by omega) (by omega))
      exact (List.perm_append_singleton _ _).symm.trans h1
    · intro c c0 cn cs
      rw [List.length_dropLast, hA] at cn
      rw [dropLast_g (by omega), dropLast_g (by omega)]
      exact hhp c c0 cn cs
  refine down_spec v1 (by omega) (by omega) (by omega) (fun j hj => by
    rw [hgs, if_neg (by omega)]
    split
    · exact ne _ (by omega) (by omega)
    · exact ne j (by omega) (by omega)) fun h2 v2 b => ?_
  by_cases h1n : G.length = 1
  · have hd : (dn ltF (G.length - 1 - 0) (swp G 0 (G.length - 1)) (G.length - 1) 0).1 = swp G 0 (G.length - 1) := by
      rw [h1n]; rfl
    rw [hd] at v2
    obtain ⟨r1, r2⟩ := key _ hsl (.refl _) (fun _ _ => rfl) (fun c c0 cn cs => by omega)
    exact Pop_method v2 (by omega) (by omega) fun u h3 s3 v3 => k u h3 s3 _ v3 r1 r2
  · obtain ⟨r1, r2, r3, r4⟩ := dn_law ltF_ord (G.length - 1 - 0) (swp G 0 (G.length - 1)) (G.length - 1) 0 0 (by omega) (by omega) (Nat.le_refl _) (by omega) (fun c c0 cn cs cp => by
      rw [hgs, hgs, if_neg (by omega), if_neg (by omega), if_neg (by omega), if_neg (by omega)]
      exact hp c c0 (by omega) cp) (fun c c0 cn cp c1 c2 => by omega)
    obtain ⟨t1, t2⟩ := key _ (by omega) r2 r4 r1
    exact Pop_method v2 (by omega) (by omega) fun u h3 s3 v3 => k u h3 s3 _ v3 t1 t2
theorem Fix_spec {Q : H -> Prop} (v : FS h0 hk h n s G) (hG : 0 < G.length) (hn : G.length < 1000000) (ne : ∀ f ∈ G, f.R ≠ []) (h1 : ∀ c, 0 < c -> c < G.length -> (c - 1) / 2 ≠ 0 -> ltF (g G c) (g G ((c - 1) / 2)) = false)
    (k : ∀ h' G', FS h0 hk h' n s G' -> G'.Perm G -> Heap G' -> Q h') : F.xcv (some ⟨n, 0, none⟩) 0 h Q := by
  unfold F.xcv
  have hl := own_len cF_len (by omega) v.own
  rw [List.length_map] at hl
  refine ⟨_, rfl, v.ldv ?_⟩
  unfold F.xbw
  rw [hl]
  have q0 : (0 : Int) = ((0 : Nat) : Int) := rfl
  rw [q0]
  obtain ⟨r1, r2, r3, r4⟩ := dn_law ltF_ord (G.length - 0) G G.length 0 0 (Nat.le_refl _) hG (Nat.le_refl _) (by omega) (fun c c0 cn cs cp => h1 c c0 cn cp) (fun c c0 cn cp c1 c2 => by omega)
  refine down_spec v (Nat.le_refl _) hn (by omega) (fun j hj => ne _ (List.mem_of_getElem? (g_mem hj))) fun h2 v2 b => ?_
  have kk := k h2 _ v2 r2 (by unfold Heap; rw [r3]; exact r1)
  refine ⟨fun _ => ?_, fun _ => kk⟩
  unfold F.xal
  refine ⟨1, ?_⟩
  unfold F.xal.l1
  refine ⟨by decide, fun _ => ?_, fun g => absurd g (by decide)⟩
  unfold F.xal.j3
  exact ⟨fun _ => kk, fun g => (by cases g)⟩
end
theorem el_fronts : El PP tn_merge_fronts tn_merge_front 2 32 (.agg (⟨(⟨none, 0, 0⟩ : Sl), 0⟩ : S_merge_front).cells.toArray) := el_merge_fronts
theorem tk_snoc {α : Type} {l : List α} {i : Nat} {x : α} (h : l[i]? = some x) : l.take (i + 1) = l.take i ++ [x] := by rw [List.take_add_one, h]; rfl
def leC (a b : Rw8) : Bool := decide (cmpC a.Cell b.Cell <= 0)
abbrev mR (Ls : List (List Rw8)) : List Rw8 := mAll leC Ls
structure GR (G : List Fr) (Rem : List (List Rw8)) : Prop where
  a : ∀ f ∈ G, ∃ k : Nat, f.f.list = (k : Int) ∧ Rem[k]? = some f.R ∧ f.R ≠ []
  b : ∀ (k : Nat) R, Rem[k]? = some R -> R ≠ [] -> ∃ f ∈ G, f.f.list = (k : Int) ∧ f.R = R
  nd : (G.map (·.f.list)).Nodup
  cap : ∀ f ∈ G, f.f.rows.len <= f.f.rows.cap
theorem GR.perm {G G' : List Fr} {Rem : List (List Rw8)} (r : GR G Rem) (p : G'.Perm G) : GR G' Rem :=
  ⟨fun f hf => r.a f (p.mem_iff.1 hf), fun k R h1 h2 => by obtain ⟨f, hf, h⟩ := r.b k R h1 h2; exact ⟨f, p.mem_iff.2 hf, h⟩, (p.map _).nodup_iff.2 r.nd, fun f hf => r.cap f (p.mem_iff.1 hf)⟩
theorem GR.ne {G : List Fr} {Rem : List (List Rw8)} (r : GR G Rem) : ∀ f ∈ G, f.R ≠ [] := fun f hf => by obtain ⟨k, _, _, h⟩ := r.a f hf; exact h
theorem GR.snoc {G : List Fr} {Rem : List (List Rw8)} {s : Sl} {R : List Rw8} (r : GR G Rem) (hR : R ≠ []) (hc : s.len <= s.cap) : GR (G ++ [⟨⟨s, (Rem.length : Int)⟩, R⟩]) (Rem ++ [R]) := by
  refine ⟨fun f hf => ?_, fun k R' h1 h2 => ?_, ?_, fun f hf => ?_⟩
  · rcases List.mem_append.1 hf with hf | hf
    · obtain ⟨k, h1, h2, h3⟩ := r.a f hf
      exact ⟨k, h1, by rw [List.getElem?_append_left (List.getElem?_eq_some_iff.1 h2).1]; exact h2, h3⟩
    · simp at hf; subst hf
      exact ⟨Rem.length, rfl, by simp, hR⟩
  · by_cases hk : k < Rem.length
    · rw [List.getElem?_append_left hk] at h1
      obtain ⟨f, hf, h⟩ := r.b k R' h1 h2
      exact ⟨f, by simp [hf], h⟩
    · have hkl := (List.getElem?_eq_some_iff.1 h1).1
      simp at hkl
      have : k = Rem.length := by omega
      subst this
      simp at h1; subst h1
      exact ⟨⟨⟨s, (Rem.length : Int)⟩, R⟩, by simp, rfl, rfl⟩
  · rw [List.map_append, List.nodup_append]
    refine ⟨r.nd, by simp, fun a ha b hb => ?_⟩
    simp only [List.map_cons, List.map_nil, List.mem_singleton] at hb
    subst hb
    obtain ⟨f, hf, rfl⟩ := List.mem_map.1 ha
    obtain ⟨k, h1, h2, _⟩ := r.a f hf
    have := (List.getElem?_eq_some_iff.1 h2).1
    omega
  · rcases List.mem_append.1 hf with hf | hf
    · exact r.cap f hf
    · simp at hf; subst hf; exact hc
theorem GR.skip {G : List Fr} {Rem : List (List Rw8)} (r : GR G Rem) : GR G (Rem ++ [[]]) := by
  refine ⟨fun f hf => ?_, fun k R' h1 h2 => ?_, r.nd, r.cap⟩
  · obtain ⟨k, h1, h2, h3⟩ := r.a f hf
    exact ⟨k, h1, by rw [List.getElem?_append_left (List.getElem?_eq_some_iff.1 h2).1]; exact h2, h3⟩
  · by_cases hk : k < Rem.length
    · rw [List.getElem?_append_left hk] at h1
      exact r.b k R' h1 h2
    · have hkl := (List.getElem?_eq_some_iff.1 h1).1
      simp at hkl
      have : k = Rem.length := by omega
      subst this
      simp at h1
      exact (h2 h1).elim
theorem GR.pick {G : List Fr} {Rem : List (List Rw8)} (r : GR G Rem) (hG : 0 < G.length) (hp : Heap G) : ∃ (k : Nat) (x : Rw8) (t : List Rw8), (g G 0).f.list = (k : Int) ∧ Rem[k]? = some (x :: t) ∧ (g G 0).R = x :: t ∧ mR Rem = x :: mR (Rem.set k t) := by
  have hm := List.mem_of_getElem? (g_mem hG)
  obtain ⟨k, h1, h2, h3⟩ := r.a _ hm
  obtain ⟨x, t, hx⟩ : ∃ x t, (g G 0).R = x :: t := by
    cases hR : (g G 0).R with
    | nil => exact absurd hR h3
    | cons x t => exact ⟨x, t, rfl⟩
  have hroot := hp_root ltF_ord hp
  have other : ∀ (j : Nat) y s, Rem[j]? = some (y :: s) -> ¬ (cmpC y.Cell x.Cell = -1 ∨ (cmpC y.Cell x.Cell = 0 ∧ (j : Int) < (k : Int))) := fun j y s hj hlt => by
    obtain ⟨f, hf, e1, e2⟩ := r.b j _ hj (by simp)
    obtain ⟨c, hc⟩ := List.mem_iff_getElem?.1 hf
    have hcl := (List.getElem?_eq_some_iff.1 hc).1
    have hgc : g G c = f := by
      have := g_mem hcl; rw [hc] at this; exact (Option.some.inj this).symm
    have := hroot c hcl
    rw [hgc] at this
    have hn : ¬ ltF f (g G 0) = true := by rw [this]; simp
    rw [ltF_iff, e1, h1] at hn
    have d1 : hdF f = y := by unfold hdF; rw [e2]; rfl
    have d2 : hdF (g G 0) = x := by unfold hdF; rw [hx]; rfl
    rw [d1, d2] at hn
    exact hn hlt
  refine ⟨k, x, t, h1, by rw [h2, hx], hx, mAll_pick (by rw [h2, hx]) (fun j y s hj hy => ?_) (fun j y s hj hy => ?_)⟩
  · have := other j y s hy
    have hr := cC_range y.Cell x.Cell
    unfold leC
    exact decide_eq_false (by omega)
  · have := other j y s hy
    have hr := cC_range y.Cell x.Cell
    have ha := cC_anti y.Cell x.Cell
    unfold leC
    exact decide_eq_true (by omega)
theorem GR.turn {G : List Fr} {Rem : List (List Rw8)} {k : Nat} {x : Rw8} {t : List Rw8} {s : Sl} (r : GR G Rem) (hG : 0 < G.length) (h1 : (g G 0).f.list = (k : Int)) (h2 : Rem[k]? = some (x :: t)) (ht : t ≠ []) (hc : s.len <= s.cap) : GR (G.set 0 ⟨⟨s, (k : Int)⟩, t⟩) (Rem.set k t) := by
  have hkl := (List.getElem?_eq_some_iff.1 h2).1
  have hm0 := g_mem hG
  have uniq : ∀ c, c < G.length -> (g G c).f.list = (k : Int) -> c = 0 := fun c hc he => by
    have a1 : (G.map (·.f.list))[0]? = some (k : Int) := by rw [List.getElem?_map, hm0]; simp only [Option.map_some, h1]
    have a2 : (G.map (·.f.list))[c]? = some (k : Int) := by rw [List.getElem?_map, g_mem hc]; simp only [Option.map_some, he]
    exact ((List.getElem?_inj (by simpa using hc) r.nd).1 (a2.trans a1.symm))
  refine ⟨fun f hf => ?_, fun j R' g1 g2 => ?_, ?_, fun f hf => ?_⟩
  · obtain ⟨c, hc⟩ := List.mem_iff_getElem?.1 hf
    rw [List.getElem?_set] at hc
    by_cases e : 0 = c
    · rw [if_pos e, if_pos hG] at hc; cases hc
      exact ⟨k, rfl, by simp [hkl], ht⟩
    · rw [if_neg e] at hc
      have hcl := (List.getElem?_eq_some_iff.1 hc).1
      obtain ⟨j, q1, q2, q3⟩ := r.a f (List.mem_of_getElem? hc)
      have hgc : g G c = f := by have := g_mem hcl; rw [hc] at this; exact (Option.some.inj this).symm
      refine ⟨j, q1, ?_, q3⟩
      rw [List.getElem?_set, if_neg (fun e2 => e (uniq c hcl (by rw [hgc, q1, e2])).symm)]; exact q2
  · rw [List.getElem?_set] at g1
    by_cases e : k = j
    · subst e
      rw [if_pos rfl, if_pos hkl] at g1; cases g1
      exact ⟨_, List.mem_iff_getElem?.2 ⟨0, by rw [List.getElem?_set, if_pos rfl, if_pos hG]⟩, rfl, rfl⟩
    · rw [if_neg e] at g1
      obtain ⟨f, hf, q1, q2⟩ := r.b j R' g1 g2
      obtain ⟨c, hc⟩ := List.mem_iff_getElem?.1 hf
      have hcl := (List.getElem?_eq_some_iff.1 hc).1
      have hgc : g G c = f := by have := g_mem hcl; rw [hc] at this; exact (Option.some.inj this).symm
      refine ⟨f, List.mem_iff_getElem?.2 ⟨c, ?_⟩, q1, q2⟩
      rw [List.getElem?_set, if_neg (fun e2 => ?_)]
      · exact hc
      · subst e2; rw [hgc, q1] at h1; omega
  · have : (G.set 0 ⟨⟨s, (k : Int)⟩, t⟩).map (·.f.list) = G.map (·.f.list) := by
      rw [List.map_set]
      apply List.ext_getElem?; intro c
      rw [List.getElem?_set]
      by_cases e : 0 = c
      · subst e
        rw [if_pos rfl, if_pos (by simpa using hG), List.getElem?_map, hm0]; simp only [Option.map_some, h1]
      · rw [if_neg e]
    rw [this]; exact r.nd
  · rcases List.mem_or_eq_of_mem_set hf with hf | rfl
    · exact r.cap f hf
    · exact hc
theorem GR.gone {G G' : List Fr} {Rem : List (List Rw8)} {k : Nat} {x : Rw8} {f0 : Fr} (r : GR G Rem) (hG : 0 < G.length) (h1 : (g G 0).f.list = (k : Int)) (h2 : Rem[k]? = some [x]) (p : (f0 :: G').Perm (G.set 0 f0)) : GR G' (Rem.set k []) := by
  have hkl := (List.getElem?_eq_some_iff.1 h2).1
  obtain ⟨a, G1, rfl⟩ : ∃ a G1, G = a :: G1 := by
    cases G with
    | nil => simp at hG
    | cons a G1 => exact ⟨a, G1, rfl⟩
  have hp : G'.Perm G1 := by
    have : (f0 :: G').Perm (f0 :: G1) := p
    exact this.cons_inv
  have h1' : a.f.list = (k : Int) := h1
  have nd := r.nd
  simp only [List.map_cons, List.nodup_cons] at nd
  have r1 : GR G1 (Rem.set k []) := by
    refine ⟨fun f hf => ?_, fun j R' g1 g2 => ?_, nd.2, fun f hf => r.cap f (by simp [hf])⟩
    · obtain ⟨j, q1, q2, q3⟩ := r.a f (by simp [hf])
      refine ⟨j, q1, ?_, q3⟩
      rw [List.getElem?_set, if_neg (fun e => nd.1 (List.mem_map.2 ⟨f, hf, by rw [q1, ← e, h1']⟩))]; exact q2
    · rw [List.getElem?_set] at g1
      by_cases e : k = j
      · subst e
        rw [if_pos rfl, if_pos hkl] at g1; cases g1
        exact absurd rfl g2
      · rw [if_neg e] at g1
        obtain ⟨f, hf, q1, q2⟩ := r.b j R' g1 g2
        rcases List.mem_cons.1 hf with rfl | hf
        · rw [h1'] at q1; omega
        · exact ⟨f, hf, q1, q2⟩
  exact r1.perm hp
theorem GR.nil {Rem : List (List Rw8)} (r : GR [] Rem) : mR Rem = [] := mAll_none fun l hl => by
  obtain ⟨k, hk⟩ := List.mem_iff_getElem?.1 hl
  cases hl2 : l with
  | nil => rfl
  | cons a t =>
    obtain ⟨f, hf, _⟩ := r.b k l hk (by rw [hl2]; simp)
    cases hf
abbrev cS8 (s : Sl) : List Value := [s.enc]
theorem cS8_len (s : Sl) : (cS8 s).length = 1 := rfl
section
variable {h0 hk h h' : H} {n : Nat} {s : Sl} {G : List Fr}
theorem FS.put {hk2 : H} {s' : Sl} {G' : List Fr} {K : H -> Prop} (v : FS h0 hk h n s G) (w : Owns h' s' tn_merge_front 2 ((G'.map (·.f)).flatMap cF)) (b : Blk h' n #[s.enc] tn_merge_fronts) (e : Ext h0 h') (m : Mine h0 s') (hr : ∀ f ∈ G', f.R ≠ [] -> Reads h0 f.f.rows 7 (f.R.flatMap cW)) (kp : Keep hk2 h')
    (k : ∀ h2, FS h0 hk2 h2 n s' G' -> Only (· = n) h' h2 -> K h2) : stH h' ⟨n, 0, none⟩ [s'.enc] K := by
  refine stH_of b (by simp) fun h2 b2 o2 s2 => k h2 ⟨?_, w.only o2 fun y hy hf => own_ne w b (by decide) (by rw [hy, hf]), m, v.lo, e.step o2 fun y hy hf => by have := v.lo; omega, hr, kp.blk o2 b (.inr rfl)⟩ o2
  rw [writeA_all (by simp)] at b2; exact b2
theorem FS.re (v : FS h0 hk h n s G) : FS h0 h h n s G := ⟨v.var, v.own, v.mine, v.lo, v.ext, v.rows, .refl _⟩
theorem root_row (v : FS h0 hk h n s G) (hG : 0 < G.length) {x : Rw8} {t : List Rw8} (hx : (g G 0).R = x :: t) {K : Rw8 -> Prop} (k : K x) : idxA (g G 0).f.rows 0 7 fun a => ld_S_api_Row h a K := by
  have rd := v.rows _ (List.mem_of_getElem? (g_mem hG)) (by rw [hx]; simp)
  have rd' := rd.only v.ext fun _ _ f => f
  rw [hx] at rd'
  obtain ⟨p, p1, p2, p3⟩ := rd_at cW_len (by omega) rd' (i := 0) (x := x) rfl
  have hl := rd_len cW_len (by omega) rd'
  exact idxR_of (i := 0) p1 (by rw [hl]; simp) rfl ⟨x, p3, k⟩
theorem Rows_main {n : Nat} {most : Int} {All : List Rw8} {Q : Sl -> H -> Prop} (hA : All.length < 100000)
    (k : ∀ r h', Owns h' r tn_api_Row 7 ((All.take most.toNat).flatMap cW) -> Mine h0 r -> Ext h0 h' -> Q r h') : ∀ (d : Nat) (h : H) (s : Sl) (G : List Fr) (Rem : List (List Rw8)) (r : Sl) (out : List Rw8), (mR Rem).length < d -> FS h0 h h n s G -> G.length < 100000 -> Heap G -> GR G Rem ->
    Owns h r tn_api_Row 7 (out.flatMap cW) -> Mine h0 r -> out ++ mR Rem = All -> out.length <= most.toNat -> F.xai.l2 Q d most ⟨n, 0, none⟩ r h := by
  intro d
  induction d with
  | zero => intro h s G Rem r out hm; omega
  | succ d ih =>
    intro h s G Rem r out hm v hGl hp gr w m hall hout
    have hl := own_len cF_len (by omega) v.own
    rw [List.length_map] at hl
    have hlr := own_len cW_len (by omega) w
    have hol : out.length <= All.length := by rw [← hall]; simp
    unfold F.xai.l2
    refine v.ldv ?_
    simp only [decide_eq_true_eq, decide_eq_false_iff_not]
    rw [hl]
    refine ⟨fun gg => ?_, fun gg => ?_⟩
    · have hG : 0 < G.length := by omega
      unfold F.xai.j4
      refine ⟨fun g2 => ?_, fun g2 => ?_⟩
      · have hlt : out.length < most.toNat := by rw [hlr] at g2; simp at g2; omega
        obtain ⟨kk, x, t, h1, h2, h3, h4⟩ := gr.pick hG hp
        have hkl := (List.getElem?_eq_some_iff.1 h2).1
        unfold F.xai.j3
        have c0 : ∀ {hh : H} {a : Addr} {y : S_merge_front}, Cells hh a (cF y) -> cellH hh (a.add 0) = some y.rows.enc := fun c => c 0 _ rfl
        have q0 : (0 : Int) = ((0 : Nat) : Int) := rfl
        refine v.ldv ?_
        conv in idxA s 0 2 => rw [q0]
        refine v.at hG fun a1 d1 => (ldL_iff (c0 d1)).2 (root_row v hG h3 ?_)
        refine newL_of fun m1 h5 hm1 b5 e5 s5 => ?_
        have r5 : Reads h5 ⟨some ⟨m1, 0, none⟩, 1, 1⟩ 7 ([x].flatMap cW) := blk_reads (by simpa using b5) rfl
        refine app_list (L := out) (M := [x]) cW_len (by omega) el_Slapi_Row (w.ext e5) r5 (fun x => ones_S_api_Row x) (by simp only [List.length_singleton]; omega) fun r6 h6 w6 o6 n6 => ?_
        have hs5 := e5.size
        have m6 : Mine h0 r6 := fun y hy => by
          rcases n6 with n6 | ⟨b', n6, n7⟩
          · exact m y (by rw [← n6]; exact hy)
          · rw [n6] at hy; cases hy; have := v.ext.size; omega
        have e6 : Ext h0 h6 := (v.ext.trans e5).mine m o6
        have v5 := v.e e5
        have v6 : FS h0 h6 h6 n s G := ⟨o6.block v5.var (fun hb => own_ne (w.ext e5) v5.var (by decide) hb), v5.own.only o6 (fun y hy hb => by
          obtain ⟨_, ⟨q1, q2, q3⟩ | ⟨b', c', q1, q2, _⟩⟩ := v5.own
          · simp [Sl.blk, q1] at hy
          · simp [Sl.blk, q1] at hy
            subst hy
            exact own_ne (w.ext e5) q2 (by decide) hb), v.mine, v.lo, e6, v.rows, .refl _⟩
        refine v6.ldv (v6.ldv ?_)
        conv in idxA s 0 2 => rw [q0]
        refine v6.at hG fun a2 d2 => (ldL_iff (c0 d2)).2 ?_
        have hmem := List.mem_of_getElem? (g_mem hG)
        have rd0 := v.rows _ hmem (by rw [h3]; simp)
        have hrl := rd_len cW_len (by omega) rd0
        have hcap := gr.cap _ hmem
        refine cutL_of (lo := 1) (hi := (g G 0).f.rows.len) rfl rfl (by rw [hrl, h3]; simp) hcap ?_
        have rdc := cut_reads (lo := 1) (hi := (g G 0).f.rows.len) cW_len (by omega) rd0 (by rw [hrl, h3]; simp) (by rw [hrl]; exact Nat.le_refl _) hcap
        have hdrop : (((g G 0).R.drop 1).take ((g G 0).f.rows.len - 1)) = t := by
          rw [h3, hrl, h3]; simp
        rw [hdrop] at rdc
        have hcl : (slcut (g G 0).f.rows 1 (g G 0).f.rows.len 7).len = t.length := rd_len cW_len (by omega) rdc
        have hcc : (slcut (g G 0).f.rows 1 (g G 0).f.rows.len 7).len <= (slcut (g G 0).f.rows 1 (g G 0).f.rows.len 7).cap := by unfold slcut; simp only; omega
        generalize hsc : slcut (g G 0).f.rows 1 (g G 0).f.rows.len 7 = sc at rdc hcl hcc
        -- the root's rows are one less
        obtain ⟨b, p1, p2⟩ := own_at cF_len (by omega) v6.own (i := 0) (x := (g G 0).f) (by rw [List.getElem?_map, g_mem hG]; rfl)
        conv in idxA s 0 2 => rw [q0]
        refine idxA_of (i := 0) p1 (by rw [hl]; exact hG) rfl ?_
        rw [show ((⟨b, 0 * 2, none⟩ : Addr).add 0) = ⟨b, 0, none⟩ from by rw [add_lit]]
        have hfl : ((G.map (·.f)).flatMap cF).length = G.length * 2 := by rw [flat_len _ 2 cF_len]; simp
        refine own_set (o := 0) v6.own p1 (by rw [hfl]; simp; omega) fun h7 w7 o7 s7 => ?_
        have hset : ((G.map (·.f)).flatMap cF).take 0 ++ [sc.enc] ++ ((G.map (·.f)).flatMap cF).drop (0 + [sc.enc].length) = (((G.set 0 ⟨⟨sc, (kk : Int)⟩, t⟩).map (·.f)).flatMap cF) := by
          obtain ⟨a, G1, rfl⟩ : ∃ a G1, G = a :: G1 := by
            cases G with
            | nil => simp at hG
            | cons a G1 => exact ⟨a, G1, rfl⟩
          have h1' : a.f.list = (kk : Int) := h1
          simp [S_merge_front.cells, h1']
        rw [hset] at w7
        have hgs : ∀ c, g (G.set 0 ⟨⟨sc, (kk : Int)⟩, t⟩) c = if 0 = c then ⟨⟨sc, (kk : Int)⟩, t⟩ else g G c := fun c => g_set hG
        have v7 : FS h0 h7 h7 n s (G.set 0 ⟨⟨sc, (kk : Int)⟩, t⟩) := ⟨o7.block v6.var fun hb => own_ne v6.own v6.var (by decide) hb, w7, v.mine, v.lo, e6.mine v.mine o7, fun f hf hR => by
          rcases List.mem_or_eq_of_mem_set hf with hf | rfl
          · exact v.rows f hf hR
          · exact rdc, .refl _⟩
        have w6' : Owns h7 r6 tn_api_Row 7 ((out ++ [x]).flatMap cW) := w6.only o7 fun y hy hb => by
          obtain ⟨_, ⟨q1, q2, q3⟩ | ⟨b', c', q1, q2, _⟩⟩ := w6
          · simp [Sl.blk, q1] at hy
          · simp [Sl.blk, q1] at hy
            subst hy
            exact own_ne v6.own q2 (by decide) hb
        have hlen : (G.set 0 ⟨⟨sc, (kk : Int)⟩, t⟩).length = G.length := by simp
        refine v7.ldv ?_
        conv in idxA s 0 2 => rw [q0]
        refine v7.at (by rw [hlen]; exact hG) fun a3 d3 => ?_
        rw [hgs, if_pos rfl] at d3
        refine (ldL_iff (c0 d3)).2 ?_
        rw [hcl]
        have hrem : (mR (Rem.set kk t)).length < d := by rw [h4] at hm; simp at hm; omega
        have hall' : (out ++ [x]) ++ mR (Rem.set kk t) = All := by rw [List.append_assoc, List.singleton_append, ← h4]; exact hall
        have hp' : ∀ c, 0 < c -> c < (G.set 0 ⟨⟨sc, (kk : Int)⟩, t⟩).length -> (c - 1) / 2 ≠ 0 -> ltF (g (G.set 0 ⟨⟨sc, (kk : Int)⟩, t⟩) c) (g (G.set 0 ⟨⟨sc, (kk : Int)⟩, t⟩) ((c - 1) / 2)) = false := fun c c0 cn cp => by
          rw [hgs, hgs, if_neg (by omega), if_neg (by omega)]
          exact hp c c0 (by rw [hlen] at cn; exact cn) (by omega)
        refine ⟨fun g3 => ?_, fun g3 => ?_⟩
        · have ht : t = [] := List.eq_nil_of_length_eq_zero (by simpa using g3)
          subst ht
          refine Pop_spec v7 (by rw [hlen]; exact hG) (by rw [hlen]; omega) hp' (fun j j0 jn => ?_) fun u h8 s8 G8 v8 p8 hp8 => ?_
          · rw [hgs, if_neg (by omega)]
            exact gr.ne _ (List.mem_of_getElem? (g_mem (by rw [hlen] at jn; exact jn)))
          · rw [hgs, if_pos rfl] at p8
            have gr8 := gr.gone hG h1 h2 p8
            have hl8 : G8.length + 1 = G.length := by have := p8.length_eq; simp at this; omega
            refine ih h8 s8 G8 (Rem.set kk []) r6 (out ++ [x]) hrem v8.re (by omega) hp8 gr8 (v8.kp.w w6' (by decide) (by decide)) m6 hall' (by simp; omega)
        · have ht : t ≠ [] := fun e => by subst e; simp at g3
          have gr7 := gr.turn hG h1 h2 ht hcc
          refine Fix_spec v7 (by rw [hlen]; exact hG) (by rw [hlen]; omega) gr7.ne hp' fun h8 G8 v8 p8 hp8 => ?_
          have hl8 : G8.length = G.length := by have := p8.length_eq; simp at this; omega
          refine ih h8 s G8 (Rem.set kk t) r6 (out ++ [x]) hrem v8.re (by omega) hp8 (gr7.perm p8) (v8.kp.w w6' (by decide) (by decide)) m6 hall' (by simp; omega)
      · have : out.length = most.toNat := by rw [hlr] at g2; simp at g2; omega
        refine k r h ?_ m v.ext
        rw [← hall, ← this, List.take_left']
        · exact w
        · rfl
    · have hG : G = [] := List.eq_nil_of_length_eq_zero (by omega)
      subst hG
      have hnil := gr.nil
      unfold F.xai.j4
      refine ⟨fun g2 => (by cases g2), fun _ => k r h ?_ m v.ext⟩
      rw [hnil, List.append_nil] at hall
      rw [← hall, List.take_of_length_le hout]; exact w
end
theorem w64s {n : Nat} (h : n < 9000000000000000000) : IntKind.wrap .i64 ((n : Int) + 1) = ((n + 1 : Nat) : Int) := by rw [w64 (by omega) (by omega)]; omega
section
variable {h0 h h' : H}
structure TB (h : H) (p : Sl) (ss : List Sl) (Ls : List (List Rw8)) : Prop where
  tb : Reads h p 1 (ss.flatMap cS8)
  len : ss.length = Ls.length
  row : ∀ (i : Nat) s R, ss[i]? = some s -> Ls[i]? = some R -> Reads h s 7 (R.flatMap cW) ∧ s.len <= s.cap
theorem TB.at {p : Sl} {ss : List Sl} {Ls : List (List Rw8)} (t : TB h0 p ss Ls) (e : Ext h0 h) {i : Nat} {s : Sl} (hs : ss[i]? = some s) {K : Sl -> Prop} (k : K s) : idxA p (i : Int) 1 fun a => ldL h a K := by
  obtain ⟨q, r1, r2, r3⟩ := rd_at cS8_len (by omega) (t.tb.only e fun _ _ f => f) hs
  have hl := rd_len cS8_len (by omega) t.tb
  exact idxR_of (i := i) r1 (by have := (List.getElem?_eq_some_iff.1 hs).1; omega) rfl ((ldL_iff r3.one).2 k)
theorem Rows_spec {most : Int} {p1 : Sl} {ss : List Sl} {Ls : List (List Rw8)} {Q : Sl -> H -> Prop} (t : TB h p1 ss Ls) (hs : ss.length < 90000) (hn : (mR Ls).length < 100000)
    (k : ∀ r h', Owns h' r tn_api_Row 7 (((mR Ls).take most.toNat).flatMap cW) -> Mine h r -> Ext h h' -> Q r h') : F.xai most p1 h Q := by
  unfold F.xai
  have hl := rd_len cS8_len (by omega) t.tb
  refine new_of fun n h1 hn1 b1 e1 s1 => ⟨ss.length + 1, ?_⟩
  rw [hl]
  have key : ∀ (d i : Nat) (h' : H) (s : Sl) (G : List Fr), i <= ss.length -> ss.length - i < d -> FS h h' h' n s G -> GR G (Ls.take i) -> G.length <= i -> F.xai.l1 Q d most ⟨n, 0, none⟩ p1 (ss.length : Int) (i : Int) h' := by
    intro d
    induction d with
    | zero => intro i h' s G _ hm; omega
    | succ d ih =>
      intro i h' s G hi hm v gr hGi
      have hlG := own_len cF_len (by omega) v.own
      rw [List.length_map] at hlG
      unfold F.xai.l1
      simp only [decide_eq_true_eq, decide_eq_false_iff_not]
      refine ⟨fun gg => ?_, fun gg => ?_⟩
      · obtain ⟨sl, hsl⟩ : ∃ sl, ss[i]? = some sl := ⟨_, List.getElem?_eq_getElem (by omega)⟩
        obtain ⟨R, hR⟩ : ∃ R, Ls[i]? = some R := ⟨_, List.getElem?_eq_getElem (by have := t.len; omega)⟩
        obtain ⟨rd, hcap⟩ := t.row i sl R hsl hR
        have hlr := rd_len cW_len (by omega) rd
        have hli : (Ls.take i).length = i := by have := t.len; rw [List.length_take]; omega
        refine t.at v.ext hsl ?_
        refine ⟨fun g2 => v.ldv ?_, fun g2 => ?_⟩
        · have hRn : R ≠ [] := fun e => by subst e; rw [hlr] at g2; simp at g2
          refine newL_of fun m2 h2 hm2 b2 e2 s2 => ?_
          have r2 : Reads h2 ⟨some ⟨m2, 0, none⟩, 1, 1⟩ 2 ([(⟨sl, (i : Int)⟩ : S_merge_front)].flatMap cF) := blk_reads (by simpa using b2) rfl
          have v2 := v.e e2
          refine app_list (L := G.map (·.f)) (M := [⟨sl, (i : Int)⟩]) cF_len (by omega) el_fronts v2.own r2 (fun x => ones_S_merge_front x) (by simp only [List.length_singleton, List.length_map]; omega) fun r3 h3 w3 o3 n3 => ?_
          have m3 : Mine h r3 := fun y hy => by
            rcases n3 with n3 | ⟨b', n3, n4⟩
            · exact v.mine y (by rw [← n3]; exact hy)
            · rw [n3] at hy; cases hy; have := v2.ext.size; omega
          have e3 : Ext h h3 := v2.ext.mine v2.mine o3
          have b3 : Blk h3 n #[s.enc] tn_merge_fronts := o3.block v2.var fun hb => own_ne v2.own v2.var (by decide) hb
          have gr' := gr.snoc (s := sl) hRn hcap
          rw [← tk_snoc hR, hli] at gr'
          refine FS.put (hk2 := h3) (G' := G ++ [⟨⟨sl, (i : Int)⟩, R⟩]) v2 (by rw [List.map_append]; exact w3) b3 e3 m3 (fun f hf hfr => ?_) (.refl _) fun h4 v4 o4 => ?_
          · rcases List.mem_append.1 hf with hf | hf
            · exact v.rows f hf hfr
            · rw [List.mem_singleton] at hf; subst hf; exact rd
          · rw [w64s (by omega)]
            exact ih (i + 1) h4 r3 _ (by omega) (by omega) v4.re gr' (by rw [List.length_append]; simp only [List.length_singleton]; omega)
        · have hRn : R = [] := by
            cases R with
            | nil => rfl
            | cons a b => rw [hlr] at g2; simp at g2
          subst hRn
          have gr' := gr.skip
          rw [← tk_snoc hR] at gr'
          rw [w64s (by omega)]
          exact ih (i + 1) h' s G (by omega) (by omega) v gr' (by omega)
      · have hiL : i = ss.length := by omega
        rw [hiL, t.len, List.take_length] at gr
        refine Init_spec v gr.ne (by omega) fun h2 G2 v2 p2 hp2 => ⟨(mR Ls).length + 1, ?_⟩
        have hl2 := p2.length_eq
        exact Rows_main (All := mR Ls) hn k _ h2 s G2 Ls _ [] (by omega) v2.re (by omega) hp2 (gr.perm p2) (by simpa using Owns.nil h2 tn_api_Row 7) (.nil _ _ _) rfl (by simp)
  exact key _ 0 h1 ⟨none, 0, 0⟩ [] (by omega) (by omega) ⟨b1, by simpa using Owns.nil h1 tn_merge_front 2, .nil _ _ _, by omega, e1, fun f hf => (by cases hf), .refl _⟩ ⟨fun f hf => (by cases hf), fun k R hk => (by simp at hk), .nil, fun f hf => (by cases hf)⟩ (by simp)
end
end Go.Proofs.YtjjchpaomgmmdaaGreat.V.M
namespace Go.Proofs.YtjjchpaomgmmdaaGreat.V
open Go
set_option linter.unusedVariables false
set_option linter.unusedSimpArgs false
theorem Blk.cells {h : H} {n : Nat} {cs : List Value} {e : TypeId} (b : Blk h n cs.toArray e) : Cells h ⟨n, 0, none⟩ cs := fun i v hv => by
  rw [add_lit, Nat.zero_add]
  exact b.cell (by simpa using hv)
section
variable {P : Program} {h : H}
end
end Go.Proofs.YtjjchpaomgmmdaaGreat.V
namespace Go.Proofs.YtjjchpaomgmmdaaGreat.V.C
open Go Go.Proofs.YtjjchpaomgmmdaaGreat.V
set_option linter.unusedVariables false
set_option linter.unusedSimpArgs false
set_option maxRecDepth 20000
abbrev Ver := S_chain_version_api_Agg
theorem ver_len (x : Ver) : x.cells.length = 6 := rfl
def Ch (h : H) (p : Nat) (L : List Ver) (B : Option Nat) : Prop :=
  ∃ s : Sl, Blk h p #[s.enc] tn_chain_Chain_api_Agg ∧ Owns h s tn_chain_version_api_Agg 6 (L.flatMap (·.cells)) ∧ s.blk = B ∧ B ≠ some p
theorem Ch.len {h : H} {s : Sl} {L : List Ver} (o : Owns h s tn_chain_version_api_Agg 6 (L.flatMap (·.cells))) : s.len = L.length := by
  have := o.1
  rw [flat_len _ 6 ver_len] at this
  omega
theorem Ch.at {h : H} {s : Sl} {L : List Ver} (o : Owns h s tn_chain_version_api_Agg 6 (L.flatMap (·.cells))) {i : Nat} {x : Ver} (hx : L[i]? = some x) :
    ∃ b, s.ptr = some ⟨b, 0, none⟩ ∧ cellH h ⟨b, i * 6, none⟩ = some (.int .i64 x.epoch) ∧ Cells h ⟨b, i * 6 + 1, none⟩ x.value.cells ∧ cellH h ⟨b, i * 6 + 5, none⟩ = some (.bool x.dead) ∧ Cells h ⟨b, i * 6, none⟩ x.cells := by
  obtain ⟨b, h1, h2⟩ := own_at (f := fun x : Ver => x.cells) ver_len (by omega) o hx
  have e : ∀ j v, x.cells[j]? = some v -> cellH h ⟨b, i * 6 + j, none⟩ = some v := fun j v hv => by
    have := h2 j v hv
    rwa [add_lit] at this
  refine ⟨b, h1, e 0 _ rfl, fun j v hv => ?_, e 5 _ rfl, h2⟩
  rw [add_lit]
  match j, hv with
  | 0, hv => exact e 1 v hv
  | 1, hv => exact e 2 v hv
  | 2, hv => exact e 3 v hv
  | 3, hv => exact e 4 v hv
  | j + 4, hv => simp [S_api_Agg.cells] at hv
theorem Ch.only {S : Nat -> Prop} {h h' : H} {p : Nat} {L : List Ver} {B : Option Nat} (c : Ch h p L B) (o : Only S h h') (hp : ¬ S p) (hB : ∀ b, B = some b -> ¬ S b) : Ch h' p L B := by
  obtain ⟨s, h1, h2, h3, h4⟩ := c
  exact ⟨s, o.block h1 hp, h2.only o (by rw [h3]; exact hB), h3, h4⟩
theorem Ch.ext {h h' : H} {p : Nat} {L : List Ver} {B : Option Nat} (c : Ch h p L B) (o : Ext h h') : Ch h' p L B := c.only o (fun f => f) fun _ _ f => f
theorem Ch.lt {h : H} {p : Nat} {L : List Ver} {B : Option Nat} (c : Ch h p L B) : p < h.size := by obtain ⟨s, h1, _⟩ := c; exact block_lt h1
theorem Ch.ltB {h : H} {p : Nat} {L : List Ver} {B : Option Nat} (c : Ch h p L B) : ∀ b, B = some b -> b < h.size := fun b hb => by
  obtain ⟨s, h1, h2, h3, _⟩ := c; exact h2.blk_lt (by rw [h3]; exact hb)
def lastE (L : List Ver) : Int := match L.getLast? with | some x => x.epoch | none => 0
def mayM (L : List Ver) (e : Int) : Int := if e < 1 ∨ e > 1099511627776 then 1 else if L ≠ [] ∧ e < lastE L then 32 else 0
def layM (L : List Ver) (x : Ver) : List Ver := if L ≠ [] ∧ lastE L = x.epoch then L.dropLast ++ [x] else L ++ [x]
def layN (L : List Ver) (x : Ver) : Int := if L ≠ [] ∧ lastE L = x.epoch then 0 else 1
theorem last_get {L : List Ver} (h : L ≠ []) : L[L.length - 1]? = some (L.getLast h) := by
  rw [← List.getLast?_eq_getElem?, List.getLast?_eq_some_getLast h]
theorem New_spec {h : H} {Q : Option Addr -> H -> Prop} (k : ∀ p h', p = h.size -> Ch h' p [] none -> Ext h h' -> Q (some ⟨p, 0, none⟩) h') : F.xcq h Q := by
  unfold F.xcq
  refine new_of fun n h' e1 e2 e3 e4 => k n h' e1 ⟨⟨none, 0, 0⟩, e2, Owns.nil _ _ _, rfl, by simp⟩ e3
theorem may_spec {h : H} {p : Nat} {L : List Ver} {B : Option Nat} {e : Int} {Q : Int -> H -> Prop} (c : Ch h p L B) (hL : L.length < 4294967296) (k : Q (mayM L e) h) : F.xau (some ⟨p, 0, none⟩) e h Q := by
  obtain ⟨s, hb, ho, hB, hne⟩ := c
  have hl := Ch.len ho
  have hc0 : cellH h ⟨p, 0, none⟩ = some s.enc := hb.cell rfl
  unfold mayM at k
  simp only [F.xau, F.xau.j1, F.xau.j2, nn_some, add_lit, Nat.add_zero, ldL_iff hc0, decide_eq_true_eq, decide_eq_false_iff_not, hl]
  refine ⟨fun g => ⟨fun _ => by rw [if_pos (.inl g)] at k; exact k, fun h => by cases h⟩, fun g => ⟨fun g2 => by rw [if_pos (.inr g2)] at k; exact k, fun g2 => ?_⟩⟩
  rw [if_neg (by omega)] at k
  by_cases hn : L = []
  · subst hn
    simp at k ⊢
    exact k
  · have hpos : 0 < L.length := List.length_pos_iff.2 hn
    obtain ⟨b, h1, h2, _⟩ := Ch.at ho (last_get hn)
    refine ⟨fun _ => ?_, fun h => by omega⟩
    refine idxA_of (i := L.length - 1) h1 (by omega) (by rw [w64 (by omega) (by omega)]; omega) ?_
    simp only [add_lit, Nat.add_zero]
    rw [ldI_iff h2]
    have hle : lastE L = (L.getLast hn).epoch := by unfold lastE; rw [List.getLast?_eq_some_getLast hn]
    rw [← hle]
    by_cases hlt : e < lastE L
    · rw [if_pos ⟨hn, hlt⟩] at k; exact ⟨fun _ => k, fun h => absurd hlt h⟩
    · rw [if_neg (fun h => hlt h.2)] at k; exact ⟨fun h => absurd h hlt, fun _ => k⟩
abbrev FP (p : Nat) (B : Option Nat) : Nat -> Prop := fun b => b = p ∨ B = some b
def Kin (n : Nat) (B B' : Option Nat) : Prop := B' = B ∨ B' = none ∨ ∃ b, B' = some b ∧ n <= b
theorem lay_spec {h : H} {p : Nat} {L : List Ver} {B : Option Nat} {x : Ver} {Q : Int -> H -> Prop} (c : Ch h p L B) (hL : L.length < 4294967296)
    (k : ∀ h' B', Ch h' p (layM L x) B' -> Only (FP p B) h h' -> Kin h.size B B' -> Q (layN L x) h') : F.xav (some ⟨p, 0, none⟩) x h Q := by
  have hp := c.lt
  unfold F.xav
  refine new_of fun n h1 e1 e2 e3 e4 => ?_
  have c1 := c.ext e3
  obtain ⟨s, hb, ho, hB, hne⟩ := c1
  have hl := Ch.len ho
  have hc0 : cellH h1 ⟨p, 0, none⟩ = some s.enc := hb.cell rfl
  have hx0 : cellH h1 ⟨n, 0, none⟩ = some (.int .i64 x.epoch) := e2.cell rfl
  have hxc : Cells h1 ⟨n, 0, none⟩ x.cells := fun j v hv => by rw [add_lit, Nat.zero_add]; exact e2.cell (by simpa using hv)
  -- the new version is appended
  have happ : ¬ (L ≠ [] ∧ lastE L = x.epoch) -> F.xav.j1 Q (some ⟨p, 0, none⟩) ⟨n, 0, none⟩ h1 := fun hno => by
    unfold F.xav.j1
    simp only [nn_some, add_lit, Nat.add_zero]
    rw [ldL_iff hc0]
    refine ⟨x, hxc, ?_⟩
    refine newL_of fun n2 h2 f1 f2 f3 f4 => ?_
    refine ⟨f3.cell hc0 (fun f => f), ?_⟩
    refine app_of (ys := x.cells) el_Slchain_version_api_Agg (ho.only f3 (fun _ _ f => f)) (blk_reads (by simpa using f2) rfl) (ones_S_chain_version_api_Agg x) (by simp only; omega) fun r h3 r1 r2 r3 r4 => ?_
    have hb3 : Blk h3 p #[s.enc] tn_chain_Chain_api_Agg := r3.block (f3.block hb (fun f => f)) (by rw [hB]; exact hne)
    refine stH_of hb3 (by simp) fun h4 g1 g2 g3 => ?_
    have hr1 : r.blk ≠ some p := by
      rcases r4 with r4 | ⟨b, r4, r5⟩
      · rw [r4, hB]; exact hne
      · rw [r4]; intro e; cases e; omega
    have hm : layM L x = L ++ [x] := if_neg hno
    have hn : layN L x = 1 := if_neg hno
    rw [← hn]
    refine k h4 r.blk ⟨r, g1, ?_, rfl, hr1⟩ ?_ ?_
    · rw [hm, List.flatMap_append]
      exact (by simpa using r1 : Owns h3 r tn_chain_version_api_Agg 6 (L.flatMap (·.cells) ++ x.cells)).only g2 (fun b hb e => hr1 (by rw [hb, e])) |> (by simpa using ·)
    · refine (((e3.only (S := FP p B)).ext f3).trans r3 fun m _ e => .inr (by rw [← hB]; exact e)).trans g2 fun m _ e => .inl e
    · rcases r4 with r4 | ⟨b, r4, r5⟩
      · exact .inl (by rw [r4, hB])
      · exact .inr (.inr ⟨b, r4, by omega⟩)
  -- the newest version is written anew
  have hset : L ≠ [] ∧ lastE L = x.epoch -> F.xav.j2 Q (some ⟨p, 0, none⟩) ⟨n, 0, none⟩ (L.length : Int) true h1 := fun hyes => by
    have hpos : 0 < L.length := List.length_pos_iff.2 hyes.1
    obtain ⟨b, a1, a2, a3, a4, a5⟩ := Ch.at ho (last_get hyes.1)
    refine ⟨fun _ => ?_, fun h => by cases h⟩
    simp only [nn_some, add_lit, Nat.add_zero]
    rw [ldL_iff hc0]
    refine ⟨x, hxc, ?_⟩
    refine idxA_of (i := L.length - 1) a1 (by omega) (by rw [w64 (by omega) (by omega)]; omega) ?_
    have hfl := flat_len (·.cells) 6 ver_len L
    refine own_set ho a1 (by rw [hfl]; simp [S_chain_version_api_Agg.cells, S_api_Agg.cells]; omega) fun h4 g1 g2 g3 => ?_
    have hm : layM L x = L.dropLast ++ [x] := if_pos hyes
    have hn : layN L x = 0 := if_pos hyes
    rw [← hn]
    refine k h4 B ⟨s, g2.block hb (by rw [hB]; exact hne), ?_, hB, hne⟩ ((e3.only (S := FP p B)).trans g2 fun m _ e => .inr (by rw [← hB]; exact e)) (.inl rfl)
    rw [hm, List.flatMap_append]
    have e1 : (L.flatMap (·.cells)).take ((L.length - 1) * 6) = L.dropLast.flatMap (·.cells) := by
      have hd : L = L.dropLast ++ [L.getLast hyes.1] := (List.dropLast_concat_getLast hyes.1).symm
      have hdl := flat_len (·.cells) 6 ver_len L.dropLast
      rw [List.length_dropLast] at hdl
      conv => lhs; rw [hd, List.flatMap_append]
      rw [show ((L.dropLast ++ [L.getLast hyes.1]).length - 1) = L.length - 1 from by simp]
      rw [← hdl, List.take_left]
    have e2 : (L.flatMap (·.cells)).drop ((L.length - 1) * 6 + x.cells.length) = [] := by
      apply List.drop_eq_nil_of_le
      rw [hfl, ver_len]; omega
    rw [e1, e2] at g1
    simpa using g1
  simp only [nn_some, add_lit, Nat.add_zero, ldL_iff hc0, hl]
  by_cases hn : L = []
  · refine ⟨fun g => ?_, fun g => ⟨(fun h => by cases h), fun _ => happ fun h => h.1 hn⟩⟩
    rw [decide_eq_true_iff] at g; subst hn; simp at g
  · have hpos : 0 < L.length := List.length_pos_iff.2 hn
    refine ⟨fun g => ?_, fun g => by rw [decide_eq_false_iff_not] at g; omega⟩
    obtain ⟨b, a1, a2, a3, a4, a5⟩ := Ch.at ho (last_get hn)
    refine idxA_of (i := L.length - 1) a1 (by omega) (by rw [w64 (by omega) (by omega)]; omega) ?_
    simp only [add_lit, Nat.add_zero]
    rw [ldI_iff a2, ldI_iff hx0]
    have hle : lastE L = (L.getLast hn).epoch := by unfold lastE; rw [List.getLast?_eq_some_getLast hn]
    rw [← hle]
    by_cases he : lastE L = x.epoch
    · rw [show (lastE L == x.epoch) = true from by simp [he]]
      exact hset ⟨hn, he⟩
    · rw [show (lastE L == x.epoch) = false from by simp [he]]
      exact ⟨fun h => (by cases h), fun _ => happ fun h => he h.2⟩
abbrev zA : S_api_Agg := ⟨0, 0, 0, 0⟩
theorem st_agg {h : H} {n : Nat} {c d : S_api_Agg} {e : TypeId} {K : H -> Prop} (b : Blk h n c.cells.toArray e) (k : ∀ h', Blk h' n d.cells.toArray e -> Only (· = n) h h' -> h'.size = h.size -> K h') : stH h ⟨n, 0, none⟩ d.cells K := by
  refine stH_of b (Nat.le_refl 4) fun h' q1 q2 q3 => k h' ?_ q2 q3
  rw [writeA_all (by rfl)] at q1
  exact q1
theorem Kin.ge {n n' : Nat} {B B' : Option Nat} (k : Kin n' B B') (h : n <= n') : Kin n B B' := by
  rcases k with k | k | ⟨b, k, k2⟩
  · exact .inl k
  · exact .inr (.inl k)
  · exact .inr (.inr ⟨b, k, by omega⟩)
theorem Put_spec {h : H} {p : Nat} {L : List Ver} {B : Option Nat} {e : Int} {v : S_api_Agg} {Q : Int -> Int -> H -> Prop} (c : Ch h p L B) (hL : L.length < 4294967296)
    (k0 : mayM L e ≠ 0 -> ∀ h', Ext h h' -> Q 0 (mayM L e) h')
    (k1 : mayM L e = 0 -> ∀ h' B', Ch h' p (layM L ⟨e, v, false⟩) B' -> Only (FP p B) h h' -> Kin h.size B B' -> Q (layN L ⟨e, v, false⟩) 0 h') : F.xdf (some ⟨p, 0, none⟩) e v h Q := by
  unfold F.xdf
  refine new_of fun n h1 hn b1 e1 s1 => ?_
  refine may_spec (c.ext e1) hL ⟨fun g => k0 (by simpa using g) h1 e1, fun g => ⟨v, Blk.cells b1, ?_⟩⟩
  exact lay_spec (c.ext e1) hL fun h' B' q1 q2 q3 => k1 (by simpa using g) h' B' q1 ((e1.only (S := FP p B)).trans q2 fun m _ e => e) (q3.ge e1.size)
theorem Len_spec {h : H} {p : Nat} {L : List Ver} {B : Option Nat} {Q : Int -> H -> Prop} (c : Ch h p L B) (k : Q (L.length : Int) h) : F.xcg (some ⟨p, 0, none⟩) h Q := by
  obtain ⟨s, hb, ho, hB, hne⟩ := c
  have hl := Ch.len ho
  have hc0 : cellH h ⟨p, 0, none⟩ = some s.enc := hb.cell rfl
  simp only [F.xcg, nn_some, add_lit, Nat.add_zero, ldL_iff hc0, hl]
  exact k
def newestM (L : List Ver) : S_api_Agg × Int × Bool := match L.getLast? with | some x => (x.value, x.epoch, !x.dead) | none => (zA, 0, false)
theorem Newest_spec {h : H} {p : Nat} {L : List Ver} {B : Option Nat} {Q : S_api_Agg -> Int -> Bool -> H -> Prop} (c : Ch h p L B) (hL : L.length < 4294967296)
    (k : ∀ h', Ext h h' -> Q (newestM L).1 (newestM L).2.1 (newestM L).2.2 h') : F.xbt (some ⟨p, 0, none⟩) h Q := by
  unfold F.xbt
  refine new_of fun n0 h0 hn0 b0 e0 s0 => ?_
  obtain ⟨s, hb, ho, hB, hne⟩ := c.ext e0
  have hl := Ch.len ho
  have hc0 : cellH h0 ⟨p, 0, none⟩ = some s.enc := hb.cell rfl
  simp only [nn_some, add_lit, Nat.add_zero, ldL_iff hc0, hl]
  have b0' : Blk h0 n0 zA.cells.toArray tn_api_Agg := b0
  by_cases hn : L = []
  · subst hn
    refine ⟨fun _ => ⟨zA, b0'.cells, st_agg b0' fun h1 b1 o1 s1 => ⟨zA, b1.cells, ?_⟩⟩, fun g => by simp at g⟩
    exact k h1 (e0.step o1 fun m hm hb => by omega)
  · have hpos : 0 < L.length := List.length_pos_iff.2 hn
    refine ⟨fun g => by rw [beq_iff_eq] at g; omega, fun _ => ?_⟩
    obtain ⟨b, a1, a2, a3, a4, a5⟩ := Ch.at ho (last_get hn)
    refine idxA_of (i := L.length - 1) a1 (by omega) (by rw [w64 (by omega) (by omega)]; omega) ?_
    refine ⟨_, a5, ?_⟩
    refine new_of fun n h1 hn1 e2 e3 e4 => ?_
    refine ⟨a5.ext e3, e3.cell hc0 (fun f => f), e3.cell hc0 (fun f => f), ?_⟩
    refine stH_of e2 (Nat.le_refl 6) fun h2 f1 f2 f3 => ?_
    rw [writeA_all (by rfl)] at f1
    have f1c := Blk.cells f1
    simp only [add_lit, Nat.zero_add, Nat.add_zero]
    have v4 : Cells h2 ⟨n, 1, none⟩ (L.getLast hn).value.cells := fun j v hv => by
      rw [add_lit]
      have q : ∀ i, i < 4 -> ((L.getLast hn).cells)[1 + i]? = ((L.getLast hn).value.cells)[i]? := fun i hi => by
        match i, hi with
        | 0, _ => rfl
        | 1, _ => rfl
        | 2, _ => rfl
        | 3, _ => rfl
      have hj : j < 4 := (List.getElem?_eq_some_iff.1 hv).1
      have := f1c (1 + j) v (by rw [q j hj]; exact hv)
      rwa [add_lit, Nat.zero_add] at this
    have c0 : cellH h2 ⟨n, 0, none⟩ = some (.int .i64 (L.getLast hn).epoch) := f1c 0 _ rfl
    have c5 : cellH h2 ⟨n, 5, none⟩ = some (.bool (L.getLast hn).dead) := f1c 5 _ rfl
    refine ⟨_, v4, ldI_of c0 (ldB_of c5 ?_)⟩
    have n0n : n0 ≠ n := by omega
    have b2 : Blk h2 n0 zA.cells.toArray tn_api_Agg := f2.block (e3.block b0' fun f => f) n0n
    refine st_agg b2 fun h3 b3 o3 s3 => ?_
    have z : Only (· = n0) h2 h3 := o3
    refine ⟨z.cell c5 (fun h => n0n h.symm), z.cell c0 (fun h => n0n h.symm), _, b3.cells, ?_⟩
    have hle : newestM L = ((L.getLast hn).value, (L.getLast hn).epoch, !(L.getLast hn).dead) := by unfold newestM; rw [List.getLast?_eq_some_getLast hn]
    have := k h3 (((e0.trans e3).step f2 fun m hm hb => by omega).step o3 fun m hm hb => by omega)
    rw [hle] at this
    exact this
theorem Kill_spec {h : H} {p : Nat} {L : List Ver} {B : Option Nat} {e : Int} {Q : Int -> Int -> H -> Prop} (c : Ch h p L B) (hL : L.length < 4294967296)
    (k0 : mayM L e ≠ 0 -> Q 0 (mayM L e) h)
    (k2 : mayM L e = 0 -> (newestM L).2.2 = false -> ∀ h', Ext h h' -> Q 0 44 h')
    (k1 : mayM L e = 0 -> (newestM L).2.2 = true -> ∀ h' B', Ch h' p (layM L ⟨e, zA, true⟩) B' -> Only (FP p B) h h' -> Kin h.size B B' -> Q (layN L ⟨e, zA, true⟩) 0 h') : F.xcu (some ⟨p, 0, none⟩) e h Q := by
  unfold F.xcu
  refine may_spec c hL ⟨fun g => k0 (by simpa using g), fun g => Newest_spec c hL fun h1 e1 => ?_⟩
  refine new_of fun n h2 hn b2 e2 s2 => ?_
  have b2' : Blk h2 n zA.cells.toArray tn_api_Agg := b2
  refine st_agg b2' fun h3 b3 o3 s3 => ?_
  have e13 : Ext h h3 := (e1.trans e2).step o3 fun m hm hb => by have := e1.size; omega
  refine ⟨fun g2 => k2 (by simpa using g) (by simpa using g2) h3 e13, fun g2 => ?_⟩
  exact lay_spec (c.ext e13) hL fun h' B' q1 q2 q3 => k1 (by simpa using g) (by simpa using g2) h' B' q1 ((e13.only (S := FP p B)).trans q2 fun m _ e => e) (q3.ge e13.size)
abbrev Rise (L : List Ver) : Prop := L.Pairwise fun x y => x.epoch < y.epoch
def cntM (L : List Ver) (e : Int) : Nat := L.countP fun x => decide (x.epoch <= e)
theorem Rise.lt {L : List Ver} (r : Rise L) {i j : Nat} {x y : Ver} (hij : i < j) (hx : L[i]? = some x) (hy : L[j]? = some y) : x.epoch < y.epoch := by
  obtain ⟨hi, rfl⟩ := List.getElem?_eq_some_iff.1 hx
  obtain ⟨hj, rfl⟩ := List.getElem?_eq_some_iff.1 hy
  exact List.pairwise_iff_getElem.1 r i j hi hj hij
theorem cnt_eq {α : Type} (q : α -> Bool) : ∀ (L : List α) (i : Nat), i <= L.length -> (∀ t x, t < i -> L[t]? = some x -> q x = true) -> (∀ t x, i <= t -> L[t]? = some x -> q x = false) -> L.countP q = i
  | [], i, hi, _, _ => by simp at hi; simp [hi]
  | y :: r, 0, hi, h1, h2 => by
    rw [List.countP_cons, h2 0 y (by omega) rfl, cnt_eq q r 0 (by omega) (fun t x ht => by omega) (fun t x ht hx => h2 (t + 1) x (by omega) (by simpa using hx))]
    rfl
  | y :: r, i + 1, hi, h1, h2 => by
    simp at hi
    rw [List.countP_cons, h1 0 y (by omega) rfl, cnt_eq q r i hi (fun t x ht hx => h1 (t + 1) x (by omega) (by simpa using hx)) (fun t x ht hx => h2 (t + 1) x (by omega) (by simpa using hx))]
    rfl
theorem mid_eq {i j : Nat} (h : i + j < 4294967296) : IntKind.wrap .i64 (Int.fdiv (IntKind.wrap .u64 (IntKind.wrap .i64 ((i : Int) + j))) (2 ^ (min (1 : Int).toNat (IntKind.bits .u64)) : Int)) = ((i + j) / 2 : Nat) := by
  rw [w64 (n := (i : Int) + j) (by omega) (by omega)]
  have e1 : IntKind.wrap .u64 ((i : Int) + j) = ((i + j : Nat) : Int) := by
    unfold IntKind.wrap
    simp [IntKind.bits, IntKind.signed]
    omega
  rw [e1, show (2 ^ (min (1 : Int).toNat (IntKind.bits .u64)) : Int) = 2 from by simp [IntKind.bits], Int.fdiv_eq_ediv_of_nonneg _ (by omega), show (((i + j : Nat) : Int) / 2) = (((i + j) / 2 : Nat) : Int) from by omega, w64 (by omega) (by omega)]
theorem cmp_spec {h : H} {x : Ver} {e : Int} {K : Value -> H -> Prop} (k : ∀ h', Ext h h' -> K (.int .i64 (if x.epoch <= e then -1 else 1)) h') : CV PP (.func (.func no_chain_Chain_api_Agg_place_1) #[] #[]) [.agg x.cells.toArray, .int .i64 e] h K := by
  refine CV_func (fun a w => no_chain_Chain_api_Agg_place_1_call a w) ?_
  have : F.xdk x e h fun r h' => K (.int .i64 r) h' := by
    unfold F.xdk
    refine new_of fun n h1 e1 e2 e3 e4 => ?_
    simp only [add_lit, Nat.add_zero]
    rw [ldI_iff (e2.cell (v := .int .i64 x.epoch) rfl)]
    simp only [decide_eq_true_eq, decide_eq_false_iff_not]
    refine ⟨fun g => ?_, fun g => ?_⟩
    · have := k h1 e3; rw [if_pos g] at this; exact this
    · have := k h1 e3; rw [if_neg g] at this; exact this
  have := F.xdk_ok this
  simp only [List.append_toArray, Array.empty_append, Array.append_empty]
  exact this.mono fun r h' ⟨r0, e, q⟩ => by subst e; exact q
theorem bs_loop {s : Sl} {e : Int} {L : List Ver} {Q : Int -> Bool -> H -> Prop} (hr : Rise L) (hL : L.length < 1073741824) : ∀ (m i j : Nat) (h : H), Owns h s tn_chain_version_api_Agg 6 (L.flatMap (·.cells)) -> i <= j -> j <= L.length ->
    (∀ t x, t < i -> L[t]? = some x -> x.epoch <= e) -> (∀ t x, j <= t -> L[t]? = some x -> e < x.epoch) -> j - i < m -> (∀ r h', Ext h h' -> Q (cntM L e) r h') ->
    F.xbq.l1 Q m s e (.func (.func no_chain_Chain_api_Agg_place_1) #[] #[]) (L.length : Int) (i : Int) (j : Int) h
  | 0, i, j, h, _, _, _, _, _, hm, _ => by omega
  | m + 1, i, j, h, ho, hij, hj, hlo, hhi, hm, k => by
    unfold F.xbq.l1
    simp only [decide_eq_true_eq, decide_eq_false_iff_not]
    refine ⟨fun g => ⟨by omega, ?_⟩, fun g => ?_⟩
    · rw [mid_eq (by omega)]
      have hm1 : (i + j) / 2 < L.length := by omega
      obtain ⟨x, hx⟩ : ∃ x, L[(i + j) / 2]? = some x := ⟨_, List.getElem?_eq_getElem hm1⟩
      obtain ⟨b, a1, a2, a3, a4, a5⟩ := Ch.at ho hx
      have hl := Ch.len ho
      refine idxA_of (i := (i + j) / 2) a1 (by omega) rfl ?_
      refine ⟨x, a5, cmp_spec fun h' e1 => ⟨_, rfl, fun g2 => ?_, fun g2 => ?_⟩⟩
      · have hxe : x.epoch <= e := by
          by_cases hh : x.epoch <= e
          · exact hh
          · rw [if_neg hh] at g2; omega
        rw [w64 (by omega) (by omega), show (((i + j) / 2 : Nat) : Int) + 1 = (((i + j) / 2 + 1 : Nat) : Int) from by omega]
        refine bs_loop hr hL m _ j h' (ho.only e1 fun _ _ f => f) (by omega) hj (fun t y ht hy => ?_) hhi (by omega) fun r h2 e2 => k r h2 (e1.trans e2)
        by_cases ht2 : t = (i + j) / 2
        · subst ht2; rw [hx] at hy; cases hy; exact hxe
        · have := hr.lt (by omega) hy hx; omega
      · have hxe : ¬ x.epoch <= e := fun hh => by rw [if_pos hh] at g2; omega
        refine bs_loop hr hL m i _ h' (ho.only e1 fun _ _ f => f) (by omega) (by omega) hlo (fun t y ht hy => ?_) (by omega) fun r h2 e2 => k r h2 (e1.trans e2)
        by_cases ht2 : t = (i + j) / 2
        · subst ht2; rw [hx] at hy; cases hy; omega
        · have := hr.lt (show (i + j) / 2 < t by omega) hx hy; omega
    · have hij2 : i = j := by omega
      subst hij2
      have hc : cntM L e = i := cnt_eq _ L i hj (fun t x ht hx => by simpa using hlo t x ht hx) fun t x ht hx => by simpa using hhi t x ht hx
      rw [hc] at k
      refine ⟨fun g2 => ?_, fun g2 => k _ h (.refl _)⟩
      obtain ⟨x, hx⟩ : ∃ x, L[i]? = some x := ⟨_, List.getElem?_eq_getElem (by omega)⟩
      obtain ⟨b, a1, a2, a3, a4, a5⟩ := Ch.at ho hx
      have hl := Ch.len ho
      refine idxA_of (i := i) a1 (by omega) rfl ?_
      exact ⟨x, a5, cmp_spec fun h' e1 => ⟨_, rfl, k _ h' e1⟩⟩
theorem place_spec {h : H} {p : Nat} {L : List Ver} {B : Option Nat} {e : Int} {Q : Int -> H -> Prop} (c : Ch h p L B) (hr : Rise L) (hL : L.length < 1073741824)
    (k : ∀ h', Ext h h' -> Q ((cntM L e : Int) - 1) h') : F.xbg (some ⟨p, 0, none⟩) e h Q := by
  obtain ⟨s, hb, ho, hB, hne⟩ := c
  have hl := Ch.len ho
  have hc0 : cellH h ⟨p, 0, none⟩ = some s.enc := hb.cell rfl
  have hcl : cntM L e <= L.length := List.countP_le_length
  simp only [F.xbg, nn_some, add_lit, Nat.add_zero, ldL_iff hc0]
  unfold F.xbq
  refine ⟨L.length + 1, ?_⟩
  rw [hl]
  refine bs_loop hr hL _ 0 L.length h ho (by omega) (by omega) (fun t x ht => by omega) (fun t x ht hx => ?_) (by omega) fun r h' e1 => ?_
  · rw [List.getElem?_eq_none (by omega)] at hx; cases hx
  · rw [w64 (by omega) (by omega)]
    exact k h' e1
def atM (L : List Ver) (e : Int) : S_api_Agg × Bool := match (L.filter fun x => decide (x.epoch <= e)).getLast? with | some x => if x.dead then (zA, false) else (x.value, true) | none => (zA, false)
theorem rise_filter {L : List Ver} (hr : Rise L) (e : Int) : L.filter (fun x => decide (x.epoch <= e)) = L.take (cntM L e) := by
  unfold cntM
  induction L with
  | nil => rfl
  | cons y r ih =>
    have hr' := List.pairwise_cons.1 hr
    by_cases hy : y.epoch <= e
    · simp [hy, ih hr'.2]
    · have hno : ∀ x ∈ r, ¬ x.epoch <= e := fun x hx => by have := hr'.1 x hx; omega
      have h1 : r.filter (fun x => decide (x.epoch <= e)) = [] := by simp; intro x hx; have := hno x hx; omega
      have h2 : r.countP (fun x => decide (x.epoch <= e)) = 0 := by rw [List.countP_eq_length_filter, h1]; rfl
      simp [hy, h1, h2]
theorem at_last {L : List Ver} (hr : Rise L) (e : Int) : (L.filter fun x => decide (x.epoch <= e)).getLast? = if cntM L e = 0 then none else L[cntM L e - 1]? := by
  have hcl : cntM L e <= L.length := List.countP_le_length
  rw [rise_filter hr, List.getLast?_eq_getElem?, List.length_take, Nat.min_eq_left hcl]
  split
  · rename_i h0; rw [h0]; simp
  · rw [List.getElem?_take_of_lt (by omega)]
theorem At_spec {h : H} {p : Nat} {L : List Ver} {B : Option Nat} {e : Int} {Q : S_api_Agg -> Bool -> H -> Prop} (c : Ch h p L B) (hr : Rise L) (hL : L.length < 1073741824)
    (k : ∀ h', Ext h h' -> Q (atM L e).1 (atM L e).2 h') : F.xbb (some ⟨p, 0, none⟩) e h Q := by
  unfold F.xbb
  refine new_of fun n0 h0 hn0 b0 e0 s0 => ?_
  have b0' : Blk h0 n0 zA.cells.toArray tn_api_Agg := b0
  refine place_spec (c.ext e0) hr hL fun h1 e1 => ?_
  have e01 := e0.trans e1
  have b1 : Blk h1 n0 zA.cells.toArray tn_api_Agg := e1.block b0' fun f => f
  obtain ⟨s, hb, ho, hB, hne⟩ := c.ext e01
  have hl := Ch.len ho
  have hc0 : cellH h1 ⟨p, 0, none⟩ = some s.enc := hb.cell rfl
  have hcl : cntM L e <= L.length := List.countP_le_length
  have none_ : (atM L e) = (zA, false) -> F.xbb.j1 Q ⟨n0, 0, none⟩ h1 := fun hn => by
    unfold F.xbb.j1
    refine ⟨zA, b1.cells, st_agg b1 fun h2 b2 o2 s2 => ⟨zA, b2.cells, ?_⟩⟩
    have := k h2 (e01.step o2 fun m hm hb => by omega)
    rw [hn] at this; exact this
  unfold atM at none_ k
  rw [at_last hr e] at none_ k
  simp only [F.xbb.j2, nn_some, add_lit, Nat.add_zero, ldL_iff hc0, decide_eq_true_eq, decide_eq_false_iff_not]
  refine ⟨fun g => ?_, fun g => ⟨(fun h => by cases h), fun _ => none_ (by rw [if_pos (by omega)])⟩⟩
  rw [if_neg (by omega)] at none_ k
  obtain ⟨x, hx⟩ : ∃ x, L[cntM L e - 1]? = some x := ⟨_, List.getElem?_eq_getElem (by omega)⟩
  rw [hx] at none_ k
  obtain ⟨b, a1, a2, a3, a4, a5⟩ := Ch.at ho hx
  refine idxA_of (i := cntM L e - 1) a1 (by omega) (by omega) ?_
  simp only [add_lit, Nat.add_zero]
  rw [ldB_iff a4]
  cases hd : x.dead with
  | true => exact ⟨(fun h => by cases h), fun _ => none_ (by simp [hd])⟩
  | false =>
    simp only [hd] at k
    refine ⟨fun _ => ?_, (fun h => by cases h)⟩
    refine idxA_of (i := cntM L e - 1) a1 (by omega) (by omega) ?_
    rw [add_lit]
    refine ⟨x.value, a3, st_agg b1 fun h2 b2 o2 s2 => ⟨_, b2.cells, ?_⟩⟩
    exact k h2 (e01.step o2 fun m hm hb => by omega)
end Go.Proofs.YtjjchpaomgmmdaaGreat.V.C
namespace Go.Proofs.YtjjchpaomgmmdaaGreat.V
open Go
set_option linter.unusedVariables false
set_option linter.unusedSimpArgs false
theorem i64_of {n : Int} (h : (Lit.int .i64 n).wf = true) : -9223372036854775808 <= n ∧ n < 9223372036854775808 := by
  simp [Lit.wf, IntKind.min, IntKind.max, IntKind.bits, IntKind.signed] at h
  omega
end Go.Proofs.YtjjchpaomgmmdaaGreat.V
namespace Go.Proofs.YtjjchpaomgmmdaaGreat.V.C
open Go Go.Proofs.YtjjchpaomgmmdaaGreat.V
set_option linter.unusedVariables false
set_option linter.unusedSimpArgs false
set_option maxRecDepth 20000
def markM (L : List Ver) (S : List Bool) (e : Int) : List Bool := if cntM L e = 0 then S else S.set (cntM L e - 1) true
def keepM : List Ver -> List Bool -> List Ver
  | x :: r, b :: s => if b then x :: keepM r s else keepM r s
  | _, _ => []
def stayM (L : List Ver) (E : List Int) : List Bool := E.foldl (markM L) ((List.replicate L.length false).set (L.length - 1) true)
def oneM : List Ver -> List Ver
  | [x] => if x.dead then [] else [x]
  | R => R
def pruneM (L : List Ver) (E : List Int) : List Ver := oneM (keepM L (stayM L E))
theorem markM_len (L : List Ver) (S : List Bool) (e : Int) : (markM L S e).length = S.length := by unfold markM; split <;> simp
theorem stay_len (L : List Ver) : ∀ (E : List Int) (S : List Bool), (E.foldl (markM L) S).length = S.length
  | [], S => rfl
  | e :: r, S => by rw [List.foldl_cons, stay_len L r, markM_len]
theorem keep_le : ∀ (L : List Ver) (S : List Bool), (keepM L S).length <= L.length
  | [], S => by simp [keepM]
  | x :: r, [] => by simp [keepM]
  | x :: r, b :: s => by unfold keepM; have := keep_le r s; split <;> simp <;> omega
theorem keep_snoc (x : Ver) (b : Bool) : ∀ (L : List Ver) (S : List Bool), L.length = S.length -> keepM (L ++ [x]) (S ++ [b]) = keepM L S ++ (if b then [x] else [])
  | [], [], _ => by cases b <;> simp [keepM]
  | [], _ :: _, h => by simp at h
  | _ :: _, [], h => by simp at h
  | y :: r, c :: s, h => by
    have := keep_snoc x b r s (by simpa using h)
    simp only [List.cons_append, keepM, this]
    split <;> simp
theorem keep_take {L : List Ver} {S : List Bool} (hl : S.length = L.length) {i : Nat} {x : Ver} {b : Bool} (hx : L[i]? = some x) (hb : S[i]? = some b) : keepM (L.take (i + 1)) (S.take (i + 1)) = keepM (L.take i) (S.take i) ++ (if b then [x] else []) := by
  rw [List.take_add_one, List.take_add_one, hx, hb]
  exact keep_snoc x b _ _ (by simp [hl])
theorem mark_loop {p : Nat} {L : List Ver} {B : Option Nat} {held : Sl} {s6 : Sl} {sb : Nat} {E0 : List Int} {Q : Int -> H -> Prop} (hr : Rise L) (hL : L.length < 1073741824) (hE0 : E0.length < 1073741824) (hp6 : s6.ptr = some ⟨sb, 0, none⟩) (hpb : p ≠ sb) (hBb : B ≠ some sb) (hh : E0 ≠ [] -> held.blk ≠ some sb) :
    ∀ (m i : Nat) (h : H) (S : List Bool), Ch h p L B -> Owns h s6 4 1 (S.flatMap cB) -> S.length = L.length -> Reads h held 1 (E0.flatMap cI) -> i <= E0.length -> E0.length - i < m ->
    (∀ h' S', S' = (E0.drop i).foldl (markM L) S -> Ch h' p L B -> Owns h' s6 4 1 (S'.flatMap cB) -> Only (· = sb) h h' -> (nn (some ⟨p, 0, none⟩) fun a22 => ldL h' (a22.add 0) fun y24 => ∃ m, F.xah.l2 Q m (some ⟨p, 0, none⟩) (L.length : Int) s6 ⟨none, 0, 0⟩ y24 (y24.len : Int) 0 h')) ->
    F.xah.l1 Q m (some ⟨p, 0, none⟩) (L.length : Int) s6 held (E0.length : Int) (i : Int) h
  | 0, i, h, S, _, _, _, _, _, hm, _ => by omega
  | m + 1, i, h, S, c, o, hS, rd, hi, hm, k => by
    have hp := c.lt
    unfold F.xah.l1
    simp only [decide_eq_true_eq, decide_eq_false_iff_not]
    refine ⟨fun g => ?_, fun g => ?_⟩
    · have hi2 : i < E0.length := by omega
      obtain ⟨e, he⟩ : ∃ e, E0[i]? = some e := ⟨_, List.getElem?_eq_getElem hi2⟩
      obtain ⟨q, r1, r2, r3⟩ := rd_at cI_len (by omega) rd he
      have hel := rd_len cI_len (by omega) rd
      refine idxR_of (i := i) r1 (by omega) rfl ?_
      rw [ldI_iff r3.one]
      refine place_spec c hr hL fun h1 e1 => ?_
      have hd : E0.drop i = e :: E0.drop (i + 1) := by
        rw [List.drop_eq_getElem_cons hi2]
        congr 1
        obtain ⟨_, h⟩ := List.getElem?_eq_some_iff.1 he; exact h
      rw [hd, List.foldl_cons] at k
      have hw : IntKind.wrap .i64 ((i : Int) + 1) = ((i + 1 : Nat) : Int) := by rw [w64 (by omega) (by omega)]; omega
      rw [hw]
      have hcl : cntM L e <= L.length := List.countP_le_length
      refine ⟨fun g2 => ?_, fun g2 => ?_⟩
      · refine idxA_of (i := cntM L e - 1) hp6 (by rw [own_len cB_len (by omega) o]; omega) (by omega) ?_
        refine own_setAt (f := cB) (k := 1) (x := true) cB_len (o.only e1 fun _ _ f => f) hp6 (by omega) fun h2 f1 f2 f3 => ?_
        have hm2 : markM L S e = S.set (cntM L e - 1) true := by unfold markM; rw [if_neg (by omega)]
        rw [← hm2] at f1
        have f2' : Only (· = sb) h h2 := (e1.only (S := (· = sb))).trans f2 fun n _ e => by simp [Sl.blk, hp6] at e; exact e.symm
        exact mark_loop hr hL hE0 hp6 hpb hBb hh m (i + 1) h2 _ (c.only f2' hpb fun b hb e => hBb (by rw [hb, e])) f1 (by rw [markM_len]; exact hS) (rd.keep f2' fun hne b hb e => hh hne (by rw [hb, e])) (by omega) (by omega)
          fun h' S' q1 q2 q3 q4 => k h' S' q1 q2 q3 (f2'.trans q4 fun _ _ e => e)
      · have hm2 : markM L S e = S := by unfold markM; rw [if_pos (by omega)]
        rw [hm2] at k
        exact mark_loop hr hL hE0 hp6 hpb hBb hh m (i + 1) h1 _ (c.ext e1) (o.only e1 fun _ _ f => f) hS (rd.only e1 fun _ _ f => f) (by omega) (by omega)
          fun h' S' q1 q2 q3 q4 => k h' S' q1 q2 q3 ((e1.only (S := (· = sb))).trans q4 fun _ _ e => e)
    · have hd : E0.drop i = [] := List.drop_eq_nil_of_le (by omega)
      rw [hd] at k
      exact k h S rfl c o (.refl _)
theorem keep_loop {p : Nat} {L : List Ver} {s s6 : Sl} {sb n0 : Nat} {S : List Bool} {Q : Int -> H -> Prop} (hL : L.length < 1073741824) (hS : S.length = L.length) (hp6 : s6.ptr = some ⟨sb, 0, none⟩) (hs : s.blk ≠ some p) :
    ∀ (m i : Nat) (h : H) (x : Sl), Blk h p #[s.enc] tn_chain_Chain_api_Agg -> Owns h s tn_chain_version_api_Agg 6 (L.flatMap (·.cells)) -> Owns h s6 4 1 (S.flatMap cB) -> Owns h x tn_chain_version_api_Agg 6 ((keepM (L.take i) (S.take i)).flatMap (·.cells)) ->
    (∀ b, x.blk = some b -> n0 <= b) -> n0 <= h.size -> p < n0 -> (∀ b, s.blk = some b -> b < n0) -> sb < n0 -> i <= L.length -> L.length - i < m ->
    (∀ h' B', Ch h' p (oneM (keepM L S)) B' -> Only (fun b => b = p ∨ n0 <= b) h h' -> (B' = none ∨ ∃ b, B' = some b ∧ n0 <= b) -> Q ((L.length : Int) - ((oneM (keepM L S)).length : Int)) h') ->
    F.xah.l2 Q m (some ⟨p, 0, none⟩) (L.length : Int) s6 x s (L.length : Int) (i : Int) h
  | 0, i, h, x, _, _, _, _, _, _, _, _, _, _, hm, _ => by omega
  | m + 1, i, h, x, hb, ho, o6, ox, hx, hn0, hp, hs0, hsb, hi, hm, k => by
    unfold F.xah.l2
    have hl := own_len ver_len (by omega) ho
    have hl6 := own_len cB_len (by omega) o6
    simp only [decide_eq_true_eq, decide_eq_false_iff_not]
    refine ⟨fun g => ?_, fun g => ?_⟩
    · have hi2 : i < L.length := by omega
      obtain ⟨y, hy⟩ : ∃ y, L[i]? = some y := ⟨_, List.getElem?_eq_getElem hi2⟩
      obtain ⟨b, hSb⟩ : ∃ b, S[i]? = some b := ⟨_, List.getElem?_eq_getElem (by omega)⟩
      obtain ⟨bb, a1, a2⟩ := own_at ver_len (by omega) ho hy
      refine idxA_of (i := i) a1 (by omega) rfl ⟨y, a2, ?_⟩
      refine new_of fun n h1 e1 e2 e3 e4 => ?_
      refine stH_of e2 (by simp [S_chain_version_api_Agg.cells, S_api_Agg.cells]) fun h2 f1 f2 f3 => ?_
      rw [writeA_all (by simp [S_chain_version_api_Agg.cells, S_api_Agg.cells])] at f1
      have f4 : Ext h h2 := (e3.only (S := fun _ => False)).trans f2 fun m hm e => by omega
      obtain ⟨b6, c1, c2⟩ := own_at cB_len (by omega) (o6.only f4 fun _ _ f => f) hSb
      refine idxA_of (i := i) c1 (by omega) rfl ?_
      rw [ldB_iff c2.one]
      have hw : IntKind.wrap .i64 ((i : Int) + 1) = ((i + 1 : Nat) : Int) := by rw [w64 (by omega) (by omega)]; omega
      rw [hw]
      have hkt := keep_take hS hy hSb
      refine ⟨fun g2 => ?_, fun g2 => ?_⟩
      · subst g2
        refine ⟨y, fun j v hv => by rw [add_lit, Nat.zero_add]; exact f1.cell (by simpa using hv), ?_⟩
        refine newL_of fun n3 h3 g1 g2 g3 g4 => ?_
        have f5 := f4.trans g3
        have hkl : (keepM (L.take i) (S.take i)).length <= L.length := Nat.le_trans (keep_le _ _) (by rw [List.length_take]; omega)
        have hxl := own_len ver_len (by omega) ox
        refine app_of (ys := y.cells) el_Slchain_version_api_Agg (ox.only f5 (fun _ _ f => f)) (blk_reads (by simpa using g2) rfl) (ones_S_chain_version_api_Agg y) (by simp only; omega) fun r h4 r1 r2 r3 r4 => ?_
        have r3' : Only (fun b => n0 <= b) h h4 := (f5.only (S := fun b => n0 <= b)).trans r3 fun b _ e => hx b e
        have hge : h.size <= h4.size := r3'.size
        refine keep_loop (n0 := n0) hL hS hp6 hs m (i + 1) h4 r (r3'.block hb (by omega)) (ho.only r3' fun b hb e => by have := hs0 b hb; omega) (o6.only r3' fun b hb e => by simp [Sl.blk, hp6] at hb; omega) ?_ ?_ (by omega) hp hs0 hsb (by omega) (by omega) ?_
        · rw [hkt]; simpa using r1
        · intro b hb
          rcases r4 with r4 | ⟨b', r4, r5⟩
          · exact hx b (by rw [← r4]; exact hb)
          · rw [r4] at hb; cases hb
            have := f5.size; omega
        · intro h' B' q1 q2 q3
          exact k h' B' q1 ((r3'.mono fun b _ e => .inr e).trans q2 fun _ _ e => e) q3
      · subst g2
        refine keep_loop (n0 := n0) hL hS hp6 hs m (i + 1) h2 x (f4.block hb (fun f => f)) (ho.only f4 fun _ _ f => f) (o6.only f4 fun _ _ f => f) ?_ hx (by have := f4.size; omega) hp hs0 hsb (by omega) (by omega) ?_
        · rw [hkt]; simpa using ox.only f4 fun _ _ f => f
        · intro h' B' q1 q2 q3
          exact k h' B' q1 ((f4.only (S := fun b => b = p ∨ n0 <= b)).trans q2 fun _ _ e => e) q3
    · have hii : i = L.length := by omega
      subst hii
      rw [List.take_length, show L.length = S.length from hS.symm, List.take_length] at ox
      have hxl := own_len ver_len (by omega) ox
      have hkl := keep_le L S
      -- the end: what is laid
      have hend : ∀ (y : Sl) (R : List Ver), Owns h y tn_chain_version_api_Agg 6 (R.flatMap (·.cells)) -> (∀ b, y.blk = some b -> n0 <= b) -> R = (oneM (keepM L S)) -> R.length <= L.length -> F.xah.j3 Q (some ⟨p, 0, none⟩) (L.length : Int) y h := fun y R hy hyb hR hRl => by
        unfold F.xah.j3
        simp only [nn_some, add_lit, Nat.add_zero]
        have hyl := own_len ver_len (by omega) hy
        refine stH_of hb (by simp) fun h4 g1 g2 g3 => ?_
        rw [writeA_all (by simp)] at g1
        rw [hyl, w64 (by omega) (by omega)]
        have hne : y.blk ≠ some p := fun e => by have := hyb p e; omega
        rw [← hR] at k
        refine k h4 y.blk ⟨y, g1, hy.only g2 fun b hb e => hne (by rw [hb, e]), rfl, hne⟩ (g2.mono fun _ _ e => .inl e) ?_
        cases hyy : y.blk with
        | none => exact .inl rfl
        | some b => exact .inr ⟨b, rfl, hyb b hyy⟩
      rw [beq_iff_eq, beq_eq_false_iff_ne]
      unfold F.xah.j4
      refine ⟨fun g2 => ?_, fun g2 => ⟨(fun h => by cases h), fun _ => hend x _ ox hx ?_ hkl⟩⟩
      · have h1 : (keepM L S).length = 1 := by omega
        obtain ⟨y, hy⟩ := List.length_eq_one_iff.1 h1
        obtain ⟨bb, a1, a2⟩ := own_at (i := 0) (x := y) ver_len (by omega) ox (by rw [hy]; rfl)
        refine idxA_of (i := 0) a1 (by omega) rfl ?_
        have hd : cellH h ((⟨bb, 0 * 6, none⟩ : Addr).add 5) = some (.bool y.dead) := a2 5 (.bool y.dead) rfl
        rw [ldB_iff hd]
        refine ⟨fun g3 => hend _ [] (Owns.nil _ _ _) (fun b hb => by simp [Sl.blk] at hb) (by rw [hy]; simp [oneM, g3]) (by simp), fun g3 => hend x _ ox hx (by rw [hy]; simp [oneM, g3]) hkl⟩
      · unfold oneM
        split
        · rename_i y hy; rw [hy] at hxl; simp at hxl; omega
        · rfl
theorem Prune_spec {h : H} {p : Nat} {L : List Ver} {B : Option Nat} {held : Sl} {E : List Int} {Q : Int -> H -> Prop} (c : Ch h p L B) (hr : Rise L) (hL : L.length < 1073741824) (hE : E.length < 1073741824) (rd : Reads h held 1 (E.flatMap cI))
    (hlt : E ≠ [] -> ∀ b, held.blk = some b -> b < h.size)
    (k : ∀ h' B', Ch h' p (pruneM L E) B' -> Only (· = p) h h' -> Kin h.size B B' -> Q ((L.length : Int) - ((pruneM L E).length : Int)) h') : F.xah (some ⟨p, 0, none⟩) held h Q := by
  have hp := c.lt
  obtain ⟨s, hb, ho, hB, hne⟩ := id c
  have hl := own_len ver_len (by omega) ho
  have hel := rd_len cI_len (by omega) rd
  have hc0 : cellH h ⟨p, 0, none⟩ = some s.enc := hb.cell rfl
  simp only [F.xah, nn_some, add_lit, Nat.add_zero, ldL_iff hc0, hl, hel]
  rw [beq_iff_eq, beq_eq_false_iff_ne]
  refine ⟨fun g => ?_, fun g => ?_⟩
  · have hn : L = [] := List.eq_nil_of_length_eq_zero (by omega)
    subst hn
    have hpr : pruneM [] E = [] := by simp [pruneM, keepM, oneM]
    rw [hpr] at k
    exact k h B c (.refl _) (.inl rfl)
  · have hpos : 0 < L.length := by omega
    refine make_of el_Slbool (by omega) (by simp only [maxLen]; omega) fun nb h1 n1 n2 n3 => ?_
    have hblt := c.ltB
    have hg1 := n3.size
    rw [show (Value.bool false).cells = #[.bool false] from rfl, Nat.mul_one, made_one, ← flat_replicate cB false (.bool false) rfl] at n2
    refine idxA_of (i := L.length - 1) rfl (by simp only; omega) (by rw [w64 (by omega) (by omega)]; omega) ?_
    refine own_setAt (f := cB) (k := 1) (x := true) cB_len n2 rfl (by simp; omega) fun h2 f1 f2 f3 => ?_
    have f2' : Ext h h2 := (n3.only (S := fun _ => False)).trans f2 fun n hn e => by simp [Sl.blk] at e; omega
    refine ⟨E.length + 1, ?_⟩
    refine mark_loop hr hL hE rfl (by omega) (fun e => by have := hblt _ e; omega) (fun hne e => by have := hlt hne _ e; omega) _ 0 h2 _ (c.ext f2') f1 (by simp) (rd.only f2' fun _ _ f => f) (by omega) (by omega) fun h3 S' q1 q2 q3 q4 => ?_
    have q5 : Ext h h3 := (f2'.only (S := fun _ => False)).trans q4 fun n hn e => by omega
    have hb3 : Blk h3 p #[s.enc] tn_chain_Chain_api_Agg := q5.block hb (fun f => f)
    simp only [nn_some, add_lit, Nat.add_zero]
    rw [ldL_iff (hb3.cell (i := 0) rfl)]
    refine ⟨L.length + 1, ?_⟩
    rw [hl]
    have hS' : S' = stayM L E := q1
    have hsl : (stayM L E).length = L.length := by unfold stayM; rw [stay_len]; simp
    rw [hS'] at q3
    have hg3 := q5.size
    have hsb3 : nb < h3.size := q3.blk_lt (b := nb) rfl
    refine keep_loop (n0 := h3.size) hL hsl rfl (by rw [hB]; exact hne) _ 0 h3 _ hb3 (ho.only q5 fun _ _ f => f) q3 (by simpa [keepM] using Owns.nil h3 tn_chain_version_api_Agg 6) (fun b hb => by simp [Sl.blk] at hb) (Nat.le_refl _) (by omega) (fun b hb => by have := hblt b (by rw [← hB]; exact hb); omega) hsb3 (by omega) (by omega) ?_
    intro h' B' t1 t2 t3
    refine k h' B' t1 ((q5.only (S := (· = p))).trans t2 fun n hn e => by omega) ?_
    rcases t3 with t3 | ⟨b, t3, t4⟩
    · exact .inr (.inl t3)
    · exact .inr (.inr ⟨b, t3, by omega⟩)
theorem rise_sub {L R : List Ver} (hr : Rise L) (hs : R.Sublist L) : Rise R := List.Pairwise.sublist hs hr
theorem keep_sub : ∀ (L : List Ver) (S : List Bool), (keepM L S).Sublist L
  | [], S => by simp [keepM]
  | x :: r, [] => by simp [keepM]
  | x :: r, b :: s => by
    unfold keepM
    split
    · exact (keep_sub r s).cons_cons x
    · exact (keep_sub r s).cons x
theorem one_sub (R : List Ver) : (oneM R).Sublist R := by
  unfold oneM
  split
  · split <;> simp
  · simp
theorem prune_sub (L : List Ver) (E : List Int) : (pruneM L E).Sublist L := (one_sub _).trans (keep_sub _ _)
theorem mem_keep {x : Ver} : ∀ {L : List Ver} {S : List Bool} {i : Nat}, L[i]? = some x -> S[i]? = some true -> x ∈ keepM L S
  | [], S, i, h, _ => by simp at h
  | y :: r, [], i, _, h => by simp at h
  | y :: r, b :: s, 0, h1, h2 => by simp at h1 h2; subst h1; subst h2; simp [keepM]
  | y :: r, b :: s, i + 1, h1, h2 => by
    have := mem_keep (L := r) (S := s) (i := i) (by simpa using h1) (by simpa using h2)
    unfold keepM
    split
    · exact List.mem_cons_of_mem _ this
    · exact this
theorem mark_mono (L : List Ver) {i : Nat} : ∀ (E : List Int) (S : List Bool), S[i]? = some true -> (E.foldl (markM L) S)[i]? = some true
  | [], S, h => h
  | e :: r, S, h => by
    rw [List.foldl_cons]
    refine mark_mono L r _ ?_
    unfold markM
    split
    · exact h
    · have hi := (List.getElem?_eq_some_iff.1 h).1
      rw [List.getElem?_set]
      split
      · rename_i he; subst he; rw [if_pos hi]
      · exact h
theorem prune_le (L : List Ver) (E : List Int) : (pruneM L E).length <= L.length := (prune_sub L E).length_le
theorem stay_last {L : List Ver} (hn : L ≠ []) (E : List Int) : (stayM L E)[L.length - 1]? = some true := by
  have hpos : 0 < L.length := List.length_pos_iff.2 hn
  exact mark_mono L E _ (by rw [List.getElem?_set, if_pos rfl, if_pos (by simp; omega)])
theorem keep_last {L : List Ver} (hr : Rise L) (hn : L ≠ []) (E : List Int) : (keepM L (stayM L E)).getLast? = some (L.getLast hn) := by
  have hmem : L.getLast hn ∈ keepM L (stayM L E) := mem_keep (last_get hn) (stay_last hn E)
  have hk := keep_sub L (stayM L E)
  have hr2 := rise_sub hr hk
  obtain ⟨y, hy⟩ : ∃ y, (keepM L (stayM L E)).getLast? = some y := ⟨_, List.getLast?_eq_some_getLast (List.ne_nil_of_mem hmem)⟩
  rw [hy]
  obtain ⟨l, hl⟩ := List.getLast?_eq_some_iff.1 hy
  congr 1
  rw [hl] at hmem hr2
  rcases List.mem_append.1 hmem with hm | hm
  · exfalso
    have h1 := (List.pairwise_append.1 hr2).2.2 _ hm y (by simp)
    have hyL : y ∈ L := hk.subset (by rw [hl]; simp)
    have hrr : ∀ z ∈ L, z.epoch <= (L.getLast hn).epoch := fun z hz => by
      obtain ⟨i, hi, rfl⟩ := List.mem_iff_getElem.1 hz
      by_cases he : i = L.length - 1
      · have : L.getLast hn = L[i] := by rw [List.getLast_eq_getElem]; congr 1; exact he.symm
        rw [this]; exact Int.le_refl _
      · have := hr.lt (i := i) (j := L.length - 1) (by omega) (List.getElem?_eq_getElem hi) (last_get hn); omega
    have := hrr y hyL
    omega
  · simp at hm; exact hm.symm
theorem prune_last {L : List Ver} (hr : Rise L) (hn : L ≠ []) (E : List Int) : (pruneM L E = [] ∧ (L.getLast hn).dead = true) ∨ (pruneM L E).getLast? = some (L.getLast hn) := by
  have hk := keep_last hr hn E
  unfold pruneM oneM
  split
  · rename_i x hx
    rw [hx] at hk
    simp at hk
    split
    · rename_i hd; exact .inl ⟨rfl, by rw [← hk]; exact hd⟩
    · exact .inr (by simp [hk])
  · exact .inr hk
end Go.Proofs.YtjjchpaomgmmdaaGreat.V.C
namespace Go.Proofs.YtjjchpaomgmmdaaGreat.V
set_option linter.unusedVariables false
set_option linter.unusedSimpArgs false
structure Pl (α : Type) where
  is_ : Nat
  key : ByteArray
  value : α
abbrev kL (k : ByteArray) : List UInt8 := k.data.toList
theorem kL_inj {a b : ByteArray} (h : kL a = kL b) : a = b := by
  obtain ⟨x⟩ := a
  obtain ⟨y⟩ := b
  congr 1
  exact Array.toList_inj.1 h
def hashL (l : List UInt8) : Nat := l.foldl (fun h c => ((h ^^^ c.toNat) * 1099511628211) % 18446744073709551616) 14695981039346656037
def hashM (k : ByteArray) : Nat := hashL (kL k)
section
variable {α : Type}
def probe (R : List (Pl α)) (key : ByteArray) : Nat -> Nat -> Option (Nat × Bool)
  | 0, _ => none
  | f + 1, i => match R[i]? with
    | none => none
    | some p => if p.is_ = 0 then some (i, false) else if p.is_ = 1 ∧ kL p.key = kL key then some (i, true) else probe R key f ((i + 1) % R.length)
def homeM (R : List (Pl α)) (key : ByteArray) : Nat := hashM key % R.length
def findM (R : List (Pl α)) (key : ByteArray) : Option (Nat × Bool) := if R.length = 0 then some (0, false) else probe R key (R.length + 1) (homeM R key)
def dist (n h i : Nat) : Nat := if h <= i then i - h else i + n - h
theorem dist_lt {n h i : Nat} (hh : h < n) (hi : i < n) : dist n h i < n := by unfold dist; split <;> omega
theorem ring_dist {n h i : Nat} (hh : h < n) (hi : i < n) : (h + dist n h i) % n = i := by
  unfold dist
  split
  · rw [show h + (i - h) = i from by omega, Nat.mod_eq_of_lt hi]
  · rw [show h + (i + n - h) = i + n from by omega, Nat.add_mod_right, Nat.mod_eq_of_lt hi]
theorem ring_val {n h k : Nat} (hh : h < n) (hk : k < n) : (h + k) % n = if h + k < n then h + k else h + k - n := by
  split
  · rename_i g; exact Nat.mod_eq_of_lt g
  · rename_i g
    rw [show h + k = (h + k - n) + n from by omega, Nat.add_mod_right, Nat.mod_eq_of_lt (by omega)]
    omega
theorem dist_ring {n h k : Nat} (hh : h < n) (hk : k < n) : dist n h ((h + k) % n) = k := by
  rw [ring_val hh hk]; unfold dist
  split <;> split <;> omega
theorem ring_lt {n h k : Nat} (hn : 0 < n) : (h + k) % n < n := Nat.mod_lt _ hn
theorem ring_succ {n h k : Nat} : ((h + k) % n + 1) % n = (h + (k + 1)) % n := by
  rw [Nat.add_mod ((h + k) % n), Nat.mod_mod, ← Nat.add_mod, Nat.add_assoc]
def Full (R : List (Pl α)) (i : Nat) : Prop := ∃ p, R[i]? = some p ∧ p.is_ ≠ 0
def Hit (R : List (Pl α)) (key : ByteArray) (i : Nat) : Prop := ∃ p, R[i]? = some p ∧ p.is_ = 1 ∧ kL p.key = kL key
def Empty (R : List (Pl α)) (i : Nat) : Prop := ∃ p, R[i]? = some p ∧ p.is_ = 0
theorem Full.not_empty {R : List (Pl α)} {i : Nat} (h : Full R i) : ¬ Empty R i := fun ⟨q, h1, h2⟩ => by
  obtain ⟨p, h3, h4⟩ := h
  rw [h1] at h3; cases h3; exact h4 h2
theorem full_or_empty {R : List (Pl α)} {i : Nat} (h : i < R.length) : Full R i ∨ Empty R i := by
  by_cases e : R[i].is_ = 0
  · exact .inr ⟨_, List.getElem?_eq_getElem h, e⟩
  · exact .inl ⟨_, List.getElem?_eq_getElem h, e⟩
theorem Empty.lt {R : List (Pl α)} {i : Nat} (h : Empty R i) : i < R.length := by
  obtain ⟨p, h1, _⟩ := h; exact (List.getElem?_eq_some_iff.1 h1).1
theorem Hit.lt {R : List (Pl α)} {key : ByteArray} {i : Nat} (h : Hit R key i) : i < R.length := by
  obtain ⟨p, h1, _⟩ := h; exact (List.getElem?_eq_some_iff.1 h1).1
theorem probe_go {R : List (Pl α)} {key : ByteArray} {h : Nat} (hn : h < R.length) : ∀ (K f : Nat), (∀ k, k < K -> Full R ((h + k) % R.length) ∧ ¬ Hit R key ((h + k) % R.length)) -> ∀ j, j <= K -> probe R key (f + (K - j)) ((h + j) % R.length) = probe R key f ((h + K) % R.length) := by
  intro K f hk j hj
  obtain ⟨d, hd⟩ : ∃ d, K = j + d := ⟨K - j, by omega⟩
  subst hd
  induction d generalizing j with
  | zero => simp
  | succ d ih =>
    rw [show j + (d + 1) - j = d + 1 from by omega, ← Nat.add_assoc f d 1, probe]
    obtain ⟨⟨p, h1, h2⟩, h3⟩ := hk j (by omega)
    rw [h1]
    simp only [h2, if_false]
    rw [if_neg (fun hh => h3 ⟨p, h1, hh.1, hh.2⟩), ring_succ]
    have := ih (j + 1) (fun k hk2 => hk k (by omega)) (by omega)
    rw [show j + 1 + d - (j + 1) = d from by omega, show j + 1 + d = j + (d + 1) from by omega] at this
    exact this
theorem probe_hit {R : List (Pl α)} {key : ByteArray} {h K f : Nat} (hn : h < R.length) (hk : ∀ k, k < K -> Full R ((h + k) % R.length) ∧ ¬ Hit R key ((h + k) % R.length)) (hh : Hit R key ((h + K) % R.length)) (hf : K < f) : probe R key f h = some ((h + K) % R.length, true) := by
  have := probe_go hn K (f - K) hk 0 (by omega)
  rw [show f - K + (K - 0) = f from by omega, Nat.add_zero, Nat.mod_eq_of_lt hn] at this
  rw [this, show f - K = (f - K - 1) + 1 from by omega, probe]
  obtain ⟨p, h1, h2, h3⟩ := hh
  rw [h1]
  simp [h2, h3]
theorem probe_miss {R : List (Pl α)} {key : ByteArray} {h K f : Nat} (hn : h < R.length) (hk : ∀ k, k < K -> Full R ((h + k) % R.length) ∧ ¬ Hit R key ((h + k) % R.length)) (hh : Empty R ((h + K) % R.length)) (hf : K < f) : probe R key f h = some ((h + K) % R.length, false) := by
  have := probe_go hn K (f - K) hk 0 (by omega)
  rw [show f - K + (K - 0) = f from by omega, Nat.add_zero, Nat.mod_eq_of_lt hn] at this
  rw [this, show f - K = (f - K - 1) + 1 from by omega, probe]
  obtain ⟨p, h1, h2⟩ := hh
  rw [h1]
  simp [h2]
theorem least {P : Nat -> Prop} : ∀ m, (∃ k, k < m ∧ P k) -> ∃ k, k < m ∧ P k ∧ ∀ j, j < k -> ¬ P j
  | 0, ⟨k, h, _⟩ => by omega
  | m + 1, ⟨k, h, hp⟩ => by
    by_cases e : ∃ k, k < m ∧ P k
    · obtain ⟨k, h1, h2, h3⟩ := least m e
      exact ⟨k, by omega, h2, h3⟩
    · exact ⟨k, h, hp, fun j hj hpj => e ⟨j, by omega, hpj⟩⟩
def Chain (R : List (Pl α)) (key : ByteArray) (i : Nat) : Prop := ∀ k, k < dist R.length (homeM R key) i -> Full R ((homeM R key + k) % R.length)
theorem home_lt {R : List (Pl α)} {key : ByteArray} (h : 0 < R.length) : homeM R key < R.length := Nat.mod_lt _ h
theorem find_hit {R : List (Pl α)} {key : ByteArray} {i : Nat} (hh : Hit R key i) (hc : Chain R key i) (hu : ∀ j, Hit R key j -> j = i) : findM R key = some (i, true) := by
  have hlt := hh.lt
  have hn : 0 < R.length := by omega
  have hm := home_lt (R := R) (key := key) hn
  unfold findM
  rw [if_neg (by omega)]
  have hr := ring_dist hm hlt
  have hd := dist_lt hm hlt
  rw [probe_hit (K := dist R.length (homeM R key) i) hm (fun k hk => ⟨hc k hk, fun hk2 => ?_⟩) (by rw [hr]; exact hh) (by omega), hr]
  have := hu _ hk2
  have h2 := dist_ring hm (show k < R.length by omega)
  rw [this] at h2; omega
theorem find_miss {R : List (Pl α)} {key : ByteArray} (hn : ∀ j, ¬ Hit R key j) (hr : ∃ i, Empty R i) : ∃ i, findM R key = some (i, false) ∧ Empty R i ∧ Chain R key i := by
  obtain ⟨e, he⟩ := hr
  have hlt := he.lt
  have hm := home_lt (R := R) (key := key) (by omega)
  obtain ⟨K, h1, h2, h3⟩ := least (P := fun k => Empty R ((homeM R key + k) % R.length)) R.length ⟨dist R.length (homeM R key) e, dist_lt hm hlt, by rw [ring_dist hm hlt]; exact he⟩
  have full : ∀ k, k < K -> Full R ((homeM R key + k) % R.length) := fun k hk => (full_or_empty (ring_lt (by omega))).resolve_right (h3 k hk)
  refine ⟨(homeM R key + K) % R.length, ?_, h2, fun k hk => ?_⟩
  · unfold findM
    rw [if_neg (by omega)]
    exact probe_miss hm (fun k hk => ⟨full k hk, hn _⟩) h2 (by omega)
  · rw [dist_ring hm h1] at hk; exact full k hk
theorem find_nil {key : ByteArray} : findM ([] : List (Pl α)) key = some (0, false) := rfl
structure RowOk (R : List (Pl α)) : Prop where
  chain : ∀ (i : Nat) (p : Pl α), R[i]? = some p -> p.is_ = 1 -> Chain R p.key i
  uniq : ∀ (i j : Nat) (p q : Pl α), R[i]? = some p -> R[j]? = some q -> p.is_ = 1 -> q.is_ = 1 -> kL p.key = kL q.key -> i = j
theorem RowOk.hit {R : List (Pl α)} (r : RowOk R) {key : ByteArray} {i : Nat} (h : Hit R key i) : findM R key = some (i, true) := by
  obtain ⟨p, h1, h2, h3⟩ := h
  have hk := kL_inj h3
  refine find_hit ⟨p, h1, h2, h3⟩ (by rw [← hk]; exact r.chain i p h1 h2) fun j ⟨q, g1, g2, g3⟩ => r.uniq j i q p g1 h1 g2 h2 (g3.trans h3.symm)
theorem set_full {R : List (Pl α)} {i j : Nat} {p : Pl α} (h : Full R j) (hp : p.is_ ≠ 0) : Full (R.set i p) j := by
  obtain ⟨q, h1, h2⟩ := h
  by_cases e : i = j
  · subst e; exact ⟨p, by rw [List.getElem?_set, if_pos rfl, if_pos (List.getElem?_eq_some_iff.1 h1).1], hp⟩
  · exact ⟨q, by rw [List.getElem?_set, if_neg e]; exact h1, h2⟩
theorem set_chain {R : List (Pl α)} {i j : Nat} {p : Pl α} {key : ByteArray} (h : Chain R key j) (hp : p.is_ ≠ 0) : Chain (R.set i p) key j := by
  unfold Chain homeM at *
  rw [List.length_set]
  exact fun k hk => set_full (h k hk) hp
theorem set_get {R : List (Pl α)} {i j : Nat} {p q : Pl α} (h : (R.set i p)[j]? = some q) : (i = j ∧ q = p ∧ i < R.length) ∨ (i ≠ j ∧ R[j]? = some q) := by
  rw [List.getElem?_set] at h
  split at h
  · rename_i e
    split at h
    · exact .inl ⟨e, (Option.some.inj h).symm, by assumption⟩
    · cases h
  · rename_i e; exact .inr ⟨e, h⟩
theorem RowOk.put {R : List (Pl α)} (r : RowOk R) {p : Pl α} {i : Nat} (h1 : p.is_ = 1) (hc : Chain R p.key i) (hn : ∀ j, ¬ Hit R p.key j) : RowOk (R.set i p) := by
  refine ⟨fun j q hq hq1 => ?_, fun j k q s hq hs hq1 hs1 he => ?_⟩
  · rcases set_get hq with ⟨rfl, rfl, _⟩ | ⟨_, hq⟩
    · exact set_chain hc (by omega)
    · exact set_chain (r.chain j q hq hq1) (by omega)
  · rcases set_get hq with ⟨rfl, rfl, _⟩ | ⟨_, gq⟩
    · rcases set_get hs with ⟨rfl, _, _⟩ | ⟨_, gs⟩
      · rfl
      · exact absurd ⟨s, gs, hs1, he.symm⟩ (hn k)
    · rcases set_get hs with ⟨rfl, rfl, _⟩ | ⟨_, gs⟩
      · exact absurd ⟨q, gq, hq1, he⟩ (hn j)
      · exact r.uniq j k q s gq gs hq1 hs1 he
theorem RowOk.anew {R : List (Pl α)} (r : RowOk R) {p q : Pl α} {i : Nat} (h0 : R[i]? = some p) (hp : p.is_ = 1) (h1 : q.is_ = 1) (hk : kL q.key = kL p.key) : RowOk (R.set i q) := by
  have hk' := kL_inj hk
  refine ⟨fun j s hs hs1 => ?_, fun j k s t hs ht hs1 ht1 he => ?_⟩
  · rcases set_get hs with ⟨rfl, rfl, _⟩ | ⟨_, hs⟩
    · rw [hk']; exact set_chain (r.chain i p h0 hp) (by omega)
    · exact set_chain (r.chain j s hs hs1) (by omega)
  · rcases set_get hs with ⟨rfl, rfl, _⟩ | ⟨_, gs⟩
    · rcases set_get ht with ⟨rfl, _, _⟩ | ⟨_, gt⟩
      · rfl
      · exact r.uniq i k p t h0 gt hp ht1 (hk.symm.trans he)
    · rcases set_get ht with ⟨rfl, rfl, _⟩ | ⟨_, gt⟩
      · exact r.uniq j i s p gs h0 hs1 hp (he.trans hk)
      · exact r.uniq j k s t gs gt hs1 ht1 he
theorem RowOk.gone {R : List (Pl α)} (r : RowOk R) {q : Pl α} {i : Nat} (h1 : q.is_ ≠ 1) (h0 : q.is_ ≠ 0) : RowOk (R.set i q) := by
  refine ⟨fun j s hs hs1 => ?_, fun j k s t hs ht hs1 ht1 he => ?_⟩
  · rcases set_get hs with ⟨rfl, rfl, _⟩ | ⟨_, hs⟩
    · exact absurd hs1 h1
    · exact set_chain (r.chain j s hs hs1) h0
  · rcases set_get hs with ⟨rfl, rfl, _⟩ | ⟨_, hs⟩
    · exact absurd hs1 h1
    · rcases set_get ht with ⟨rfl, rfl, _⟩ | ⟨_, ht⟩
      · exact absurd ht1 h1
      · exact r.uniq j k s t hs ht hs1 ht1 he
def cntT (R : List (Pl α)) : Nat := R.countP fun p => decide (p.is_ = 1)
theorem cntT_set : ∀ (R : List (Pl α)) (i : Nat) (p q : Pl α), R[i]? = some q -> cntT (R.set i p) + (if q.is_ = 1 then 1 else 0) = cntT R + (if p.is_ = 1 then 1 else 0)
  | [], i, p, q, h => by simp at h
  | x :: r, 0, p, q, h => by
    simp at h; subst h
    simp only [List.set_cons_zero, cntT, List.countP_cons]
    by_cases h1 : x.is_ = 1 <;> by_cases h2 : p.is_ = 1 <;> simp [h1, h2]
  | x :: r, i + 1, p, q, h => by
    have := cntT_set r i p q (by simpa using h)
    simp only [List.set_cons_succ, cntT, List.countP_cons] at *
    omega
theorem room_of {R : List (Pl α)} (h01 : ∀ p ∈ R, p.is_ <= 1) (h : cntT R < R.length) : ∃ i, Empty R i := by
  apply Classical.byContradiction
  intro hn
  have : cntT R = R.length := by
    unfold cntT
    rw [List.countP_eq_length]
    intro p hp
    obtain ⟨i, hi, rfl⟩ := List.mem_iff_getElem.1 hp
    have := h01 _ hp
    have : ¬ R[i].is_ = 0 := fun e => hn ⟨i, _, List.getElem?_eq_getElem hi, e⟩
    simp; omega
  omega
def valOf (R : List (Pl α)) (key : ByteArray) : Option α := (R.find? fun p => decide (p.is_ = 1 ∧ kL p.key = kL key)).map (·.value)
theorem valOf_hit {R : List (Pl α)} (r : RowOk R) {key : ByteArray} {i : Nat} {p : Pl α} (h0 : R[i]? = some p) (h1 : p.is_ = 1) (h2 : kL p.key = kL key) : valOf R key = some p.value := by
  unfold valOf
  cases hf : R.find? fun p => decide (p.is_ = 1 ∧ kL p.key = kL key) with
  | none =>
    rw [List.find?_eq_none] at hf
    have := hf p (List.mem_of_getElem? h0)
    simp [h1, h2] at this
  | some q =>
    have hq : q.is_ = 1 ∧ kL q.key = kL key := by simpa only [decide_eq_true_eq] using List.find?_some hf
    have hm := List.mem_of_find?_eq_some hf
    obtain ⟨j, hj⟩ := List.mem_iff_getElem?.1 hm
    have := r.uniq j i q p hj h0 hq.1 h1 (by rw [hq.2]; exact h2.symm)
    subst this
    rw [h0] at hj; cases hj; rfl
theorem valOf_none {R : List (Pl α)} {key : ByteArray} (h : ∀ j, ¬ Hit R key j) : valOf R key = none := by
  unfold valOf
  rw [Option.map_eq_none_iff, List.find?_eq_none]
  intro p hp
  obtain ⟨j, hj⟩ := List.mem_iff_getElem?.1 hp
  intro hh
  simp only [decide_eq_true_eq] at hh
  exact h j ⟨p, hj, hh.1, hh.2⟩
theorem valOf_some {R : List (Pl α)} {key : ByteArray} {v : α} (h : valOf R key = some v) : ∃ (i : Nat) (p : Pl α), R[i]? = some p ∧ p.is_ = 1 ∧ kL p.key = kL key ∧ p.value = v := by
  unfold valOf at h
  obtain ⟨p, hp, rfl⟩ := Option.map_eq_some_iff.1 h
  have hq : p.is_ = 1 ∧ kL p.key = kL key := by simpa only [decide_eq_true_eq] using List.find?_some hp
  obtain ⟨j, hj⟩ := List.mem_iff_getElem?.1 (List.mem_of_find?_eq_some hp)
  exact ⟨j, p, hj, hq.1, hq.2, rfl⟩
theorem hit_or (R : List (Pl α)) (key : ByteArray) : (∃ i, Hit R key i) ∨ ∀ j, ¬ Hit R key j := by
  by_cases h : ∃ i, Hit R key i
  · exact .inl h
  · exact .inr fun j hj => h ⟨j, hj⟩
theorem valOf_set {R : List (Pl α)} {i : Nat} {p q : Pl α} (r' : RowOk (R.set i q)) (r : RowOk R) (h0 : R[i]? = some p) (key : ByteArray) (hp : ¬ (p.is_ = 1 ∧ kL p.key = kL key)) : valOf (R.set i q) key = if q.is_ = 1 ∧ kL q.key = kL key then some q.value else valOf R key := by
  have hi := (List.getElem?_eq_some_iff.1 h0).1
  have hg : (R.set i q)[i]? = some q := by rw [List.getElem?_set, if_pos rfl, if_pos hi]
  split
  · rename_i h; exact valOf_hit r' hg h.1 h.2
  · rename_i h
    rcases hit_or R key with ⟨j, s, g1, g2, g3⟩ | hn
    · have hij : i ≠ j := fun e => by subst e; rw [h0] at g1; cases g1; exact hp ⟨g2, g3⟩
      rw [valOf_hit r g1 g2 g3, valOf_hit r' (i := j) (by rw [List.getElem?_set, if_neg hij]; exact g1) g2 g3]
    · rw [valOf_none hn, valOf_none]
      intro j ⟨s, g1, g2, g3⟩
      rcases set_get g1 with ⟨rfl, rfl, _⟩ | ⟨_, g1⟩
      · exact h ⟨g2, g3⟩
      · exact hn j ⟨s, g1, g2, g3⟩
end
structure Tb (α : Type) where
  row : List (Pl α)
  elder : List (Pl α)
  moved : Nat
  count : Nat
section
variable {α : Type} (z : α)
def goneP : Pl α := ⟨2, ⟨#[]⟩, z⟩
def emptP : Pl α := ⟨0, ⟨#[]⟩, z⟩
def move1 (T : Tb α) : Option (Tb α) := match T.elder[T.moved]? with
  | none => none
  | some p => if p.is_ = 1 then (match findM T.row p.key with
    | none => none
    | some r => some ⟨T.row.set r.1 p, T.elder.set T.moved (goneP z), T.moved + 1, T.count⟩) else some ⟨T.row, T.elder, T.moved + 1, T.count⟩
def moveN : Nat -> Tb α -> Option (Tb α)
  | 0, T => some T
  | n + 1, T => if T.moved < T.elder.length then (match move1 z T with
    | none => none
    | some T' => moveN n T') else some T
def finT (T : Tb α) : Tb α := if T.moved = T.elder.length then ⟨T.row, [], 0, T.count⟩ else T
def moveM (T : Tb α) (n : Int) : Option (Tb α) := (moveN z n.toNat T).map finT
def leftT (T : Tb α) : Nat := T.elder.length - T.moved
def whereM (T : Tb α) (key : ByteArray) : Option (Option (Bool × Nat)) := match findM T.row key with
  | none => none
  | some (i, true) => some (some (false, i))
  | some (_, false) => match findM T.elder key with
    | none => none
    | some (i, true) => some (some (true, i))
    | some (_, false) => some none
def growT (T : Tb α) : Tb α := ⟨List.replicate (2 * T.row.length) (emptP z), T.row, 0, T.count⟩
def layP (T : Tb α) (key : ByteArray) (v : α) : Option (Tb α) := match findM T.row key with
  | none => none
  | some (i, _) => some ⟨T.row.set i ⟨1, key, v⟩, T.elder, T.moved, T.count + 1⟩
def newP (R : List (Pl α)) (i : Nat) (v : α) : List (Pl α) := match R[i]? with
  | none => R
  | some p => R.set i ⟨p.is_, p.key, v⟩
def putM' (T : Tb α) (key : ByteArray) (v : α) : Option (Tb α) := match whereM T key with
  | none => none
  | some (some (false, i)) => some ⟨newP T.row i v, T.elder, T.moved, T.count⟩
  | some (some (true, i)) => some ⟨T.row, newP T.elder i v, T.moved, T.count⟩
  | some none => if 4 * (T.count + 1) > 3 * T.row.length then (match moveM z T (T.elder.length : Int) with
      | none => none
      | some T2 => layP (growT z T2) key v) else layP T key v
def putM (T : Tb α) (key : ByteArray) (v : α) : Option (Tb α) := match moveM z T 4 with
  | none => none
  | some T1 => putM' z T1 key v
def getM (T : Tb α) (key : ByteArray) : Option α := match valOf T.row key with
  | some v => some v
  | none => valOf T.elder key
end
section
variable {α : Type} {z : α}
structure TOk (T : Tb α) : Prop where
  row : RowOk T.row
  row01 : ∀ p ∈ T.row, p.is_ <= 1
  pos : 2 <= T.row.length
  elder : RowOk T.elder
  eroom : T.elder ≠ [] -> ∃ i, Empty T.elder i
  behind : ∀ (i : Nat) (p : Pl α), i < T.moved -> T.elder[i]? = some p -> p.is_ ≠ 1
  mle : T.moved <= T.elder.length
  apart : ∀ (i j : Nat) (p q : Pl α), T.row[i]? = some p -> T.elder[j]? = some q -> p.is_ = 1 -> q.is_ = 1 -> kL p.key ≠ kL q.key
  cnt : cntT T.row + cntT T.elder = T.count
  load : leftT T + 4 * T.count <= 3 * T.row.length
def Rest (T : Tb α) : Prop := T.elder = [] ∨ T.moved < T.elder.length
theorem TOk.cnt_elder {T : Tb α} (t : TOk T) {i : Nat} {p : Pl α} (h : T.elder[i]? = some p) (h1 : p.is_ = 1) : 1 <= cntT T.elder := by
  unfold cntT
  exact List.countP_pos_iff.2 ⟨p, List.mem_of_getElem? h, by simpa using h1⟩
theorem TOk.room {T : Tb α} (t : TOk T) (h : cntT T.row < T.row.length) : ∃ i, Empty T.row i := room_of t.row01 h
theorem TOk.cnt_row {T : Tb α} (t : TOk T) : cntT T.row < T.row.length := by
  have := t.cnt
  have := t.load
  have := t.pos
  omega
theorem move1_ok {T : Tb α} (t : TOk T) (hm : T.moved < T.elder.length) : ∃ T', move1 z T = some T' ∧ TOk T' ∧ T'.moved = T.moved + 1 ∧ T'.elder.length = T.elder.length ∧ T'.row.length = T.row.length ∧ T'.count = T.count ∧ ∀ key, getM T' key = getM T key := by
  obtain ⟨p, hp⟩ : ∃ p, T.elder[T.moved]? = some p := ⟨_, List.getElem?_eq_getElem hm⟩
  unfold move1
  rw [hp]
  simp only
  have hload := t.load
  by_cases h1 : p.is_ = 1
  · rw [if_pos h1]
    have hno : ∀ j, ¬ Hit T.row p.key j := fun j ⟨q, g1, g2, g3⟩ => t.apart j T.moved q p g1 hp g2 h1 g3
    obtain ⟨i, f1, f2, f3⟩ := find_miss hno (t.room t.cnt_row)
    rw [f1]
    have hi := f2.lt
    obtain ⟨e, he1, he2⟩ := f2
    have r1 := t.row.put h1 f3 hno (i := i)
    have r2 : RowOk (T.elder.set T.moved (goneP z)) := t.elder.gone (by simp [goneP]) (by simp [goneP])
    refine ⟨_, rfl, ⟨r1, fun q hq => ?_, by simpa using t.pos, r2, fun hne => ?_, fun j q hj hq => ?_, by simp; omega, fun a b q s hq hs hq1 hs1 => ?_, ?_, ?_⟩, rfl, by simp, by simp, rfl, fun key => ?_⟩
    · obtain ⟨j, hj⟩ := List.mem_iff_getElem?.1 hq
      rcases set_get hj with ⟨_, rfl, _⟩ | ⟨_, hj⟩
      · omega
      · exact t.row01 q (List.mem_of_getElem? hj)
    · obtain ⟨j, q, g1, g2⟩ := t.eroom (fun e => by rw [e] at hm; simp at hm)
      have : T.moved ≠ j := fun e => by subst e; rw [hp] at g1; cases g1; omega
      exact ⟨j, q, by rw [List.getElem?_set, if_neg this]; exact g1, g2⟩
    · rcases set_get hq with ⟨_, rfl, _⟩ | ⟨hne, hq⟩
      · simp [goneP]
      · exact t.behind j q (by simp at hj; omega) hq
    · rcases set_get hs with ⟨_, rfl, _⟩ | ⟨hne, gs⟩
      · simp [goneP] at hs1
      · rcases set_get hq with ⟨_, rfl, _⟩ | ⟨_, gq⟩
        · exact fun e => hne (t.elder.uniq T.moved b q s hp gs hq1 hs1 e)
        · exact t.apart a b q s gq gs hq1 hs1
    · have c1 := cntT_set T.row i p e he1
      have c2 := cntT_set T.elder T.moved (goneP z) p hp
      have := t.cnt
      rw [if_pos h1, if_neg (by omega)] at c1
      rw [if_pos h1, if_neg (by simp [goneP])] at c2
      show cntT (T.row.set i p) + cntT (T.elder.set T.moved (goneP z)) = T.count
      omega
    · show (T.elder.set T.moved (goneP z)).length - (T.moved + 1) + 4 * T.count <= 3 * (T.row.set i p).length
      unfold leftT at hload
      simp; omega
    · have v1 := valOf_set r1 t.row he1 key (by omega)
      show (match valOf (T.row.set i p) key with | some v => some v | none => valOf (T.elder.set T.moved (goneP z)) key) = getM T key
      unfold getM
      by_cases hk : kL p.key = kL key
      · have hrow : valOf T.row key = none := valOf_none (R := T.row) (fun j hj => hno j (by obtain ⟨q, g1, g2, g3⟩ := hj; exact ⟨q, g1, g2, g3.trans hk.symm⟩))
        have hel : valOf T.elder key = some p.value := valOf_hit t.elder hp h1 hk
        rw [v1, if_pos ⟨h1, hk⟩, hrow, hel]
      · rw [v1, if_neg (fun h => hk h.2), valOf_set r2 t.elder hp key (fun h => hk h.2), if_neg (by simp [goneP])]
  · rw [if_neg h1]
    refine ⟨_, rfl, ⟨t.row, t.row01, t.pos, t.elder, t.eroom, fun j q hj hq => ?_, by show T.moved + 1 <= T.elder.length; omega, t.apart, t.cnt, ?_⟩, rfl, rfl, rfl, rfl, fun key => rfl⟩
    · by_cases e : j = T.moved
      · subst e; rw [hp] at hq; cases hq; exact h1
      · exact t.behind j q (by simp at hj; omega) hq
    · show T.elder.length - (T.moved + 1) + 4 * T.count <= 3 * T.row.length
      unfold leftT at hload
      omega
theorem moveN_ok : ∀ (n : Nat) {T : Tb α}, TOk T -> ∃ T', moveN z n T = some T' ∧ TOk T' ∧ leftT T' = leftT T - n ∧ T'.row.length = T.row.length ∧ T'.count = T.count ∧ ∀ key, getM T' key = getM T key
  | 0, T, t => ⟨T, rfl, t, rfl, rfl, rfl, fun _ => rfl⟩
  | n + 1, T, t => by
    unfold moveN
    by_cases hm : T.moved < T.elder.length
    · rw [if_pos hm]
      obtain ⟨T1, a1, a2, a3, a4, a5, a6, a7⟩ := move1_ok (z := z) t hm
      rw [a1]
      obtain ⟨T2, b1, b2, b3, b4, b5, b6⟩ := moveN_ok n a2
      refine ⟨T2, b1, b2, ?_, by omega, by omega, fun key => (b6 key).trans (a7 key)⟩
      unfold leftT at *; omega
    · rw [if_neg hm]
      refine ⟨T, rfl, t, ?_, rfl, rfl, fun _ => rfl⟩
      unfold leftT; omega
theorem RowOk.nil : RowOk ([] : List (Pl α)) := ⟨fun i p h => by simp at h, fun i j p q h => by simp at h⟩
theorem fin_ok {T : Tb α} (t : TOk T) : TOk (finT T) ∧ Rest (finT T) ∧ leftT (finT T) = leftT T ∧ (finT T).row = T.row ∧ (finT T).count = T.count ∧ ∀ key, getM (finT T) key = getM T key := by
  unfold finT
  by_cases h : T.moved = T.elder.length
  · rw [if_pos h]
    have hno : ∀ key j, ¬ Hit T.elder key j := fun key j ⟨q, g1, g2, g3⟩ => t.behind j q (by rw [h]; exact (List.getElem?_eq_some_iff.1 g1).1) g1 g2
    have hc : cntT T.elder = 0 := by
      unfold cntT
      rw [List.countP_eq_zero]
      intro p hp
      obtain ⟨j, hj⟩ := List.mem_iff_getElem?.1 hp
      have := t.behind j p (by rw [h]; exact (List.getElem?_eq_some_iff.1 hj).1) hj
      simpa using this
    have hload := t.load
    have hcnt := t.cnt
    refine ⟨⟨t.row, t.row01, t.pos, RowOk.nil, fun h => absurd rfl h, fun i p hi => by simp at hi, Nat.le_refl _, fun i j p q _ hq => by simp at hq, by show cntT T.row + cntT [] = _; rw [show cntT ([] : List (Pl α)) = 0 from rfl]; show _ = T.count; omega, ?_⟩, .inl rfl, ?_, rfl, rfl, fun key => ?_⟩
    · show 0 - 0 + 4 * T.count <= 3 * T.row.length
      omega
    · unfold leftT; simp; omega
    · unfold getM
      rw [valOf_none (hno key)]
      rw [valOf_none (R := []) (fun j ⟨q, g1, _⟩ => by simp at g1)]
  · rw [if_neg h]
    have := t.mle
    exact ⟨t, .inr (by omega), rfl, rfl, rfl, fun _ => rfl⟩
theorem move_ok {T : Tb α} (t : TOk T) (n : Int) : ∃ T', moveM z T n = some T' ∧ TOk T' ∧ Rest T' ∧ leftT T' = leftT T - n.toNat ∧ T'.row.length = T.row.length ∧ T'.count = T.count ∧ ∀ key, getM T' key = getM T key := by
  obtain ⟨T1, a1, a2, a3, a4, a5, a6⟩ := moveN_ok (z := z) n.toNat t
  obtain ⟨b1, b2, b3, b4, b5, b6⟩ := fin_ok a2
  refine ⟨finT T1, by unfold moveM; rw [a1]; rfl, b1, b2, by omega, by rw [b4]; exact a4, by omega, fun key => (b6 key).trans (a6 key)⟩
theorem where_ok {T : Tb α} (t : TOk T) (key : ByteArray) : (∃ i, whereM T key = some (some (false, i)) ∧ Hit T.row key i) ∨ (∃ i, whereM T key = some (some (true, i)) ∧ Hit T.elder key i ∧ ∀ j, ¬ Hit T.row key j) ∨ (whereM T key = some none ∧ (∀ j, ¬ Hit T.row key j) ∧ ∀ j, ¬ Hit T.elder key j) := by
  unfold whereM
  rcases hit_or T.row key with ⟨i, hi⟩ | hn
  · rw [t.row.hit hi]; exact .inl ⟨i, rfl, hi⟩
  · obtain ⟨i, f1, _, _⟩ := find_miss hn (t.room t.cnt_row)
    rw [f1]
    simp only
    rcases hit_or T.elder key with ⟨j, hj⟩ | hne
    · rw [t.elder.hit hj]; exact .inr (.inl ⟨j, rfl, hj, hn⟩)
    · by_cases he : T.elder = []
      · rw [he, find_nil]; exact .inr (.inr ⟨rfl, hn, fun j ⟨q, g, _⟩ => by simp at g⟩)
      · obtain ⟨j, g1, _, _⟩ := find_miss hne (t.eroom he)
        rw [g1]; exact .inr (.inr ⟨rfl, hn, hne⟩)
theorem get_row {T : Tb α} (t : TOk T) {key : ByteArray} {i : Nat} {p : Pl α} (h : T.row[i]? = some p) (h1 : p.is_ = 1) (h2 : kL p.key = kL key) : getM T key = some p.value := by
  unfold getM; rw [valOf_hit t.row h h1 h2]
theorem get_elder {T : Tb α} (t : TOk T) {key : ByteArray} {i : Nat} {p : Pl α} (hn : ∀ j, ¬ Hit T.row key j) (h : T.elder[i]? = some p) (h1 : p.is_ = 1) (h2 : kL p.key = kL key) : getM T key = some p.value := by
  unfold getM; rw [valOf_none hn, valOf_hit t.elder h h1 h2]
theorem get_none {T : Tb α} {key : ByteArray} (hn : ∀ j, ¬ Hit T.row key j) (hne : ∀ j, ¬ Hit T.elder key j) : getM T key = none := by
  unfold getM; rw [valOf_none hn, valOf_none hne]
theorem newP_eq {R : List (Pl α)} {i : Nat} {p : Pl α} {v : α} (h : R[i]? = some p) : newP R i v = R.set i ⟨p.is_, p.key, v⟩ := by unfold newP; rw [h]
theorem lay_ok {T : Tb α} (t : TOk T) (hr : Rest T) {key : ByteArray} {v : α} (hn : ∀ j, ¬ Hit T.row key j) (hne : ∀ j, ¬ Hit T.elder key j) (hl : leftT T + 4 * (T.count + 1) <= 3 * T.row.length) :
    ∃ T', layP T key v = some T' ∧ TOk T' ∧ Rest T' ∧ T'.row.length = T.row.length ∧ T'.count = T.count + 1 ∧ leftT T' = leftT T ∧ ∀ k, getM T' k = if kL k = kL key then some v else getM T k := by
  obtain ⟨i, f1, f2, f3⟩ := find_miss hn (t.room t.cnt_row)
  unfold layP
  rw [f1]
  obtain ⟨e, he1, he2⟩ := f2
  have hi := (List.getElem?_eq_some_iff.1 he1).1
  have r1 : RowOk (T.row.set i ⟨1, key, v⟩) := t.row.put rfl f3 hn
  refine ⟨_, rfl, ⟨r1, fun q hq => ?_, by simpa using t.pos, t.elder, t.eroom, t.behind, t.mle, fun a b q s hq hs hq1 hs1 => ?_, ?_, by simpa [leftT] using hl⟩, hr, by simp, rfl, rfl, fun k => ?_⟩
  · obtain ⟨j, hj⟩ := List.mem_iff_getElem?.1 hq
    rcases set_get hj with ⟨_, rfl, _⟩ | ⟨_, hj⟩
    · exact Nat.le_refl _
    · exact t.row01 q (List.mem_of_getElem? hj)
  · rcases set_get hq with ⟨_, rfl, _⟩ | ⟨_, gq⟩
    · exact fun h => hne b ⟨s, hs, hs1, h.symm⟩
    · exact t.apart a b q s gq hs hq1 hs1
  · have c1 := cntT_set T.row i ⟨1, key, v⟩ e he1
    have := t.cnt
    rw [if_neg (by omega), if_pos rfl] at c1
    show cntT (T.row.set i ⟨1, key, v⟩) + cntT T.elder = T.count + 1
    omega
  · have v1 := valOf_set r1 t.row he1 k (by omega)
    show (match valOf (T.row.set i ⟨1, key, v⟩) k with | some v => some v | none => valOf T.elder k) = _
    rw [v1]
    by_cases hk : kL k = kL key
    · rw [if_pos ⟨rfl, hk.symm⟩, if_pos hk]
    · rw [if_neg (fun h => hk h.2.symm), if_neg hk]; rfl
theorem repl_get {n i : Nat} {p q : Pl α} (h : (List.replicate n p)[i]? = some q) : q = p ∧ i < n := by
  rw [List.getElem?_replicate] at h
  split at h
  · exact ⟨(Option.some.inj h).symm, by assumption⟩
  · cases h
theorem grow_ok {T : Tb α} (t : TOk T) (he : T.elder = []) (hf : 3 * T.row.length < 4 * (T.count + 1)) : TOk (growT z T) ∧ (growT z T).row.length = 2 * T.row.length ∧ (growT z T).count = T.count ∧ leftT (growT z T) = T.row.length ∧ (∀ key, getM (growT z T) key = getM T key) ∧ ∀ key j, ¬ Hit (growT z T).row key j := by
  have hno : ∀ key j, ¬ Hit (growT z T).row key j := fun key j ⟨q, g1, g2, _⟩ => by
    obtain ⟨rfl, _⟩ := repl_get g1
    simp [emptP] at g2
  have hcnt := t.cnt
  have hload := t.load
  have hpos := t.pos
  have he0 : cntT T.elder = 0 := by rw [he]; rfl
  refine ⟨⟨⟨fun i p h h1 => ?_, fun i j p q h h2 h1 => ?_⟩, fun p hp => ?_, by show 2 <= (List.replicate _ _).length; simp; omega, t.row, fun _ => t.room t.cnt_row, fun i p hi => by simp [growT] at hi, by simp [growT], fun i j p q h h2 h1 => ?_, ?_, ?_⟩, by simp [growT], rfl, by simp [growT, leftT], fun key => ?_, hno⟩
  · obtain ⟨rfl, _⟩ := repl_get h
    simp [emptP] at h1
  · obtain ⟨rfl, _⟩ := repl_get h
    simp [emptP] at h1
  · have := List.eq_of_mem_replicate hp
    subst this; simp [emptP]
  · obtain ⟨rfl, _⟩ := repl_get h
    simp [emptP] at h1
  · have : cntT (List.replicate (2 * T.row.length) (emptP z)) = 0 := by
      unfold cntT
      rw [List.countP_eq_zero]
      intro p hp
      have := List.eq_of_mem_replicate hp
      subst this; simp [emptP]
    show cntT (List.replicate (2 * T.row.length) (emptP z)) + cntT T.row = T.count
    omega
  · show T.row.length - 0 + 4 * T.count <= 3 * (List.replicate (2 * T.row.length) (emptP z)).length
    simp; omega
  · unfold getM
    rw [valOf_none (hno key), he]
    show valOf T.row key = _
    rw [valOf_none (R := []) (fun j ⟨q, g1, _⟩ => by simp at g1)]
    cases valOf T.row key <;> rfl
theorem put'_ok {T : Tb α} (t : TOk T) (hr : Rest T) (key : ByteArray) (v : α) (hlow : leftT T + 4 * (T.count + 1) <= 3 * T.row.length ∨ (T.elder = [] ∧ 4 * (T.count + 1) > 3 * T.row.length)) :
    ∃ T', putM' z T key v = some T' ∧ TOk T' ∧ Rest T' ∧ (∀ k, getM T' k = if kL k = kL key then some v else getM T k) ∧ T'.count = T.count + (if (getM T key).isSome then 0 else 1) ∧
      ((getM T key = none ∧ 4 * (T.count + 1) > 3 * T.row.length ∧ T'.row.length = 2 * T.row.length ∧ leftT T' = T.row.length) ∨ ((getM T key).isSome = true ∨ 4 * (T.count + 1) <= 3 * T.row.length) ∧ T'.row.length = T.row.length ∧ leftT T' = leftT T) := by
  unfold putM'
  rcases where_ok t key with ⟨i, w, p, h1, h2, h3⟩ | ⟨i, w, ⟨p, h1, h2, h3⟩, hn⟩ | ⟨w, hn, hne⟩
  · rw [w]
    simp only
    rw [newP_eq h1]
    have r1 : RowOk (T.row.set i ⟨p.is_, p.key, v⟩) := t.row.anew h1 h2 h2 rfl
    have hg := get_row t h1 h2 h3
    refine ⟨_, rfl, ⟨r1, fun q hq => ?_, by simpa using t.pos, t.elder, t.eroom, t.behind, t.mle, fun a b q s hq hs hq1 hs1 => ?_, ?_, by simpa [leftT] using t.load⟩, hr, fun k => ?_, by rw [hg]; rfl, .inr ⟨.inl (by rw [hg]; rfl), by simp, rfl⟩⟩
    · obtain ⟨j, hj⟩ := List.mem_iff_getElem?.1 hq
      rcases set_get hj with ⟨_, rfl, _⟩ | ⟨_, hj⟩
      · show p.is_ <= 1; omega
      · exact t.row01 q (List.mem_of_getElem? hj)
    · rcases set_get hq with ⟨_, rfl, _⟩ | ⟨_, gq⟩
      · exact t.apart i b p s h1 hs h2 hs1
      · exact t.apart a b q s gq hs hq1 hs1
    · have c1 := cntT_set T.row i ⟨p.is_, p.key, v⟩ p h1
      have := t.cnt
      show cntT (T.row.set i ⟨p.is_, p.key, v⟩) + cntT T.elder = T.count
      simp only at c1; omega
    · show (match valOf (T.row.set i ⟨p.is_, p.key, v⟩) k with | some v => some v | none => valOf T.elder k) = _
      by_cases hk : kL k = kL key
      · rw [if_pos hk, valOf_hit r1 (i := i) (p := ⟨p.is_, p.key, v⟩) (by rw [List.getElem?_set, if_pos rfl, if_pos (List.getElem?_eq_some_iff.1 h1).1]) h2 (h3.trans hk.symm)]
      · rw [if_neg hk, valOf_set r1 t.row h1 k (fun h => hk (h.2.symm.trans h3)), if_neg (fun h => hk (h.2.symm.trans h3))]; rfl
  · rw [w]
    simp only
    rw [newP_eq h1]
    have r1 : RowOk (T.elder.set i ⟨p.is_, p.key, v⟩) := t.elder.anew h1 h2 h2 rfl
    have hg := get_elder t hn h1 h2 h3
    have hil := (List.getElem?_eq_some_iff.1 h1).1
    refine ⟨_, rfl, ⟨t.row, t.row01, t.pos, r1, fun hne => ?_, fun j q hj hq => ?_, by simpa using t.mle, fun a b q s hq hs hq1 hs1 => ?_, ?_, by simpa [leftT] using t.load⟩, ?_, fun k => ?_, by rw [hg]; rfl, .inr ⟨.inl (by rw [hg]; rfl), rfl, by simp [leftT]⟩⟩
    · obtain ⟨j, q, g1, g2⟩ := t.eroom (fun e => by rw [e] at h1; simp at h1)
      have : i ≠ j := fun e => by subst e; rw [h1] at g1; cases g1; omega
      exact ⟨j, q, by rw [List.getElem?_set, if_neg this]; exact g1, g2⟩
    · rcases set_get hq with ⟨rfl, rfl, _⟩ | ⟨_, gq⟩
      · exact t.behind i p hj h1
      · exact t.behind j q hj gq
    · rcases set_get hs with ⟨_, rfl, _⟩ | ⟨_, gs⟩
      · exact t.apart a i q p hq h1 hq1 h2
      · exact t.apart a b q s hq gs hq1 hs1
    · have c1 := cntT_set T.elder i ⟨p.is_, p.key, v⟩ p h1
      have := t.cnt
      show cntT T.row + cntT (T.elder.set i ⟨p.is_, p.key, v⟩) = T.count
      simp only at c1; omega
    · rcases hr with hr | hr
      · rw [hr] at h1; simp at h1
      · exact .inr (by simpa using hr)
    · show (match valOf T.row k with | some v => some v | none => valOf (T.elder.set i ⟨p.is_, p.key, v⟩) k) = _
      by_cases hk : kL k = kL key
      · rw [if_pos hk, valOf_none (fun j ⟨q, g1, g2, g3⟩ => hn j ⟨q, g1, g2, g3.trans hk⟩), valOf_hit r1 (i := i) (p := ⟨p.is_, p.key, v⟩) (by rw [List.getElem?_set, if_pos rfl, if_pos hil]) h2 (h3.trans hk.symm)]
      · rw [if_neg hk, valOf_set r1 t.elder h1 k (fun h => hk (h.2.symm.trans h3)), if_neg (fun h => hk (h.2.symm.trans h3))]; rfl
  · rw [w]
    have hg := get_none hn hne
    simp only
    by_cases hb : 4 * (T.count + 1) > 3 * T.row.length
    · rw [if_pos hb]
      have he : T.elder = [] := by
        rcases hlow with h | h
        · omega
        · exact h.1
      obtain ⟨T1, m1, m2, m3, m4, m5, m6, m7⟩ := move_ok (z := z) t (T.elder.length : Int)
      rw [m1]
      have he1 : T1.elder = [] := by
        rcases m3 with h | h
        · exact h
        · unfold leftT at m4
          rw [he] at m4
          simp at m4
          omega
      obtain ⟨g1, g2, g3, g4, g5, g6⟩ := grow_ok (z := z) m2 he1 (by omega)
      have hpos := t.pos
      have hld := t.load
      have hel : ∀ j, ¬ Hit (growT z T1).elder key j := fun j hj => by
        obtain ⟨q, a1, a2, a3⟩ := hj
        have : getM T1 key = some q.value := get_row m2 a1 a2 a3
        rw [m7, hg] at this; cases this
      obtain ⟨T2, l1, l2, l3, l4, l5, l6, l7⟩ := lay_ok (v := v) g1 (.inr (by show (growT z T1).moved < T1.row.length; show 0 < T1.row.length; omega)) (g6 key) hel (by rw [g2, g3, g4]; omega)
      simp only
      rw [l1]
      refine ⟨T2, rfl, l2, l3, fun k => ?_, by rw [hg, l5, g3, m6]; rfl, .inl ⟨hg, hb, by rw [l4, g2, m5], by rw [l6, g4, m5]⟩⟩
      rw [l7, g5, m7]
    · rw [if_neg hb]
      have hl : leftT T + 4 * (T.count + 1) <= 3 * T.row.length := by
        rcases hlow with h | h
        · exact h
        · omega
      obtain ⟨T2, l1, l2, l3, l4, l5, l6, l7⟩ := lay_ok (v := v) t hr hn hne hl
      exact ⟨T2, l1, l2, l3, l7, by rw [hg, l5]; rfl, .inr ⟨.inr (by omega), l4, l6⟩⟩
theorem put_ok {T : Tb α} (t : TOk T) (key : ByteArray) (v : α) :
    ∃ T', putM z T key v = some T' ∧ TOk T' ∧ Rest T' ∧ (∀ k, getM T' k = if kL k = kL key then some v else getM T k) ∧ T'.count = T.count + (if (getM T key).isSome then 0 else 1) ∧
      ((getM T key = none ∧ 4 * (T.count + 1) > 3 * T.row.length ∧ T'.row.length = 2 * T.row.length ∧ leftT T' = T.row.length ∧ leftT T < 4) ∨ ((getM T key).isSome = true ∨ 4 * (T.count + 1) <= 3 * T.row.length) ∧ T'.row.length = T.row.length ∧ leftT T' = leftT T - 4) := by
  obtain ⟨T1, m1, m2, m3, m4, m5, m6, m7⟩ := move_ok (z := z) t 4
  have hld := t.load
  have hlow : leftT T1 + 4 * (T1.count + 1) <= 3 * T1.row.length ∨ (T1.elder = [] ∧ 4 * (T1.count + 1) > 3 * T1.row.length) := by
    rw [m5, m6, m4]
    by_cases hb : 4 * (T.count + 1) > 3 * T.row.length
    · refine .inr ⟨?_, hb⟩
      rcases m3 with h | h
      · exact h
      · unfold leftT at m4; unfold leftT at hld; simp at m4; omega
    · refine .inl ?_
      simp; omega
  obtain ⟨T2, p1, p2, p3, p4, p5, p6⟩ := put'_ok (z := z) m2 m3 key v hlow
  unfold putM
  rw [m1]
  refine ⟨T2, p1, p2, p3, fun k => ?_, by rw [p5, m6, m7], ?_⟩
  · rw [p4, m7]
  · rw [m7, m6, m5, m4] at p6
    rcases p6 with ⟨a, b, c, d⟩ | ⟨a, b, c⟩
    · exact .inl ⟨a, b, c, d, by omega⟩
    · exact .inr ⟨a, b, by simpa using c⟩
def newT (z : α) : Tb α := ⟨List.replicate 8 (emptP z), [], 0, 0⟩
theorem new_ok (z : α) : TOk (newT z) ∧ Rest (newT z) ∧ ∀ key, getM (newT z) key = none := by
  have hno : ∀ key j, ¬ Hit (newT z).row key j := fun key j ⟨q, g1, g2, _⟩ => by
    obtain ⟨rfl, _⟩ := repl_get g1
    simp [emptP] at g2
  refine ⟨⟨⟨fun i p h h1 => ?_, fun i j p q h h2 h1 => ?_⟩, fun p hp => ?_, by simp [newT], RowOk.nil, fun h => absurd rfl h, fun i p hi => by simp [newT] at hi, Nat.le_refl _, fun i j p q h h2 => by simp [newT] at h2, ?_, by simp [newT, leftT]⟩, .inl rfl, fun key => get_none (hno key) fun j ⟨q, g1, _⟩ => by simp [newT] at g1⟩
  · obtain ⟨rfl, _⟩ := repl_get h
    simp [emptP] at h1
  · obtain ⟨rfl, _⟩ := repl_get h
    simp [emptP] at h1
  · have := List.eq_of_mem_replicate hp
    subst this; simp [emptP]
  · show cntT (List.replicate 8 (emptP z)) + cntT [] = 0
    rfl
end
section
variable {α : Type} (z : α)
def shiftM : Nat -> List (Pl α) -> Nat -> Nat -> Option (List (Pl α))
  | 0, _, _, _ => none
  | f + 1, R, at_, k => match R[k]? with
    | none => none
    | some p => if p.is_ = 0 then some (R.set at_ (emptP z)) else if dist R.length (homeM R p.key) k >= dist R.length at_ k then shiftM f (R.set at_ p) k ((k + 1) % R.length) else shiftM f R at_ ((k + 1) % R.length)
def dropM (T : Tb α) (key : ByteArray) : Option (Tb α × (α × Bool)) := match moveM z T 4 with
  | none => none
  | some T1 => match findM T1.elder key with
    | none => none
    | some (i, true) => (match T1.elder[i]? with
      | none => none
      | some p => some (⟨T1.row, T1.elder.set i (goneP z), T1.moved, T1.count - 1⟩, (p.value, true)))
    | some (_, false) => match findM T1.row key with
      | none => none
      | some (_, false) => some (T1, (z, false))
      | some (i, true) => match T1.row[i]? with
        | none => none
        | some p => match shiftM z (T1.row.length + 1) T1.row i ((i + 1) % T1.row.length) with
          | none => none
          | some R => some (⟨R, T1.elder, T1.moved, T1.count - 1⟩, (p.value, true))
end
section
variable {α : Type} {z : α}
theorem dist_succ {n k e : Nat} (hk : k < n) (he : e < n) (hne : k ≠ e) : dist n ((k + 1) % n) e + 1 = dist n k e := by
  rw [ring_val hk (show 1 < n by omega)]
  unfold dist
  split <;> split <;> split <;> omega
def Els (R : List (Pl α)) (a : Nat) (q : Pl α) : Prop := ∃ i, i ≠ a ∧ R[i]? = some q ∧ q.is_ = 1
structure Sh (R : List (Pl α)) (a k : Nat) : Prop where
  ha : a < R.length
  hk : k < R.length
  ne : a ≠ k
  uniq : ∀ (i j : Nat) (p q : Pl α), i ≠ a -> j ≠ a -> R[i]? = some p -> R[j]? = some q -> p.is_ = 1 -> q.is_ = 1 -> kL p.key = kL q.key -> i = j
  chain : ∀ (i : Nat) (p : Pl α), i ≠ a -> R[i]? = some p -> p.is_ = 1 -> Chain R p.key i
  full : ∀ i, i < R.length -> i ≠ a -> dist R.length a i < dist R.length a k -> Full R i
  off : ∀ (i : Nat) (p : Pl α), i ≠ a -> R[i]? = some p -> p.is_ = 1 -> dist R.length a i < dist R.length a k -> dist R.length (homeM R p.key) i < dist R.length a i
  stale : ∃ p, R[a]? = some p ∧ p.is_ = 1
  room : ∃ e, Empty R e
  r01 : ∀ p ∈ R, p.is_ <= 1
theorem home_set {R : List (Pl α)} {i : Nat} {p : Pl α} (key : ByteArray) : homeM (R.set i p) key = homeM R key := by unfold homeM; rw [List.length_set]
theorem chain_at {R : List (Pl α)} {key : ByteArray} {i j : Nat} (c : Chain R key i) (hi : i < R.length) (hj : j < R.length) (h : dist R.length (homeM R key) j < dist R.length (homeM R key) i) : Full R j := by
  have := c _ h
  rwa [ring_dist (home_lt (by omega)) hj] at this
theorem dist_meets {n h a i : Nat} (hh : h < n) (ha : a < n) (hi : i < n) (hne : a ≠ i) : dist n h i >= dist n a i ↔ dist n h a < dist n h i := by
  unfold dist
  split <;> split <;> split <;> omega
theorem dist_between {n h a k i : Nat} (hh : h < n) (ha : a < n) (hk : k < n) (hi : i < n) (h1 : dist n h a < dist n h i) (h2 : dist n a k < dist n a i) : dist n h k < dist n h i := by
  revert h1 h2
  unfold dist
  split <;> split <;> split <;> split <;> split <;> omega
theorem dist_zero {n a i : Nat} (ha : a < n) (hi : i < n) (h : dist n a i = 0) : a = i := by
  revert h; unfold dist; split <;> omega
theorem Sh.final {R : List (Pl α)} {a k : Nat} (s : Sh R a k) (hk : Empty R k) : RowOk (R.set a (emptP z)) := by
  have ha := s.ha
  have hkl := s.hk
  refine ⟨fun i p hp h1 => ?_, fun i j p q hp hq h1 h2 he => ?_⟩
  · rcases set_get hp with ⟨_, rfl, _⟩ | ⟨hne, hp⟩
    · simp [emptP] at h1
    · have hi := (List.getElem?_eq_some_iff.1 hp).1
      have c := s.chain i p (Ne.symm hne) hp h1
      have hh := home_lt (R := R) (key := p.key) (by omega)
      unfold Chain
      rw [home_set, List.length_set]
      intro x hx
      have f := c x hx
      obtain ⟨q, q1, q2⟩ := f
      have hxl : x < R.length := by have := dist_lt hh hi; omega
      have hne2 : a ≠ (homeM R p.key + x) % R.length := fun e => by
        have hd : dist R.length (homeM R p.key) a < dist R.length (homeM R p.key) i := by rw [e, dist_ring hh hxl]; exact hx
        by_cases hb : dist R.length a i < dist R.length a k
        · have := s.off i p (Ne.symm hne) hp h1 hb
          have := (dist_meets hh ha hi hne).2 hd
          omega
        · by_cases hki : k = i
          · subst hki
            obtain ⟨q', g1, g2⟩ := hk
            rw [hp] at g1; cases g1; omega
          · have hlt : dist R.length a k < dist R.length a i := by
              rcases Nat.lt_or_ge (dist R.length a k) (dist R.length a i) with h | h
              · exact h
              · exfalso
                have : dist R.length a k = dist R.length a i := by omega
                have e1 := ring_dist ha hkl
                have e2 := ring_dist ha hi
                rw [this, e2] at e1; exact hki e1.symm
            have := dist_between hh ha hkl hi hd hlt
            exact (chain_at c hi hkl this).not_empty hk
      exact ⟨q, by rw [List.getElem?_set, if_neg hne2]; exact q1, q2⟩
  · rcases set_get hp with ⟨_, rfl, _⟩ | ⟨hn1, hp⟩
    · simp [emptP] at h1
    · rcases set_get hq with ⟨_, rfl, _⟩ | ⟨hn2, hq⟩
      · simp [emptP] at h2
      · exact s.uniq i j p q (Ne.symm hn1) (Ne.symm hn2) hp hq h1 h2 he
theorem next_ne {n k e : Nat} (hk : k < n) (h : k ≠ e) (he : e < n) : (k + 1) % n ≠ k := by
  rw [ring_val hk (show 1 < n by omega)]
  split <;> omega
theorem Sh.skip {R : List (Pl α)} {a k : Nat} {p : Pl α} (s : Sh R a k) (hp : R[k]? = some p) (h1 : p.is_ = 1) (hd : dist R.length (homeM R p.key) k < dist R.length a k) : Sh R a ((k + 1) % R.length) := by
  have ha := s.ha
  have hk := s.hk
  obtain ⟨e, he⟩ := s.room
  have hel := he.lt
  obtain ⟨q, hq1, hq2⟩ := s.stale
  have hae : a ≠ e := fun h => by
    subst h; obtain ⟨q', g1, g2⟩ := he
    rw [hq1] at g1; cases g1; omega
  have hke : k ≠ e := fun h => by
    subst h; obtain ⟨q', g1, g2⟩ := he
    rw [hp] at g1; cases g1; omega
  have hnext : (k + 1) % R.length ≠ a := fun h => by
    -- then e lies nowhere
    have hf : dist R.length a e < dist R.length a k ∨ dist R.length a k < dist R.length a e := by
      rcases Nat.lt_trichotomy (dist R.length a e) (dist R.length a k) with g | g | g
      · exact .inl g
      · exfalso
        have e1 := ring_dist ha hk
        have e2 := ring_dist ha hel
        rw [← g, e2] at e1; exact hke e1.symm
      · exact .inr g
    rcases hf with hf | hf
    · exact (s.full e hel (Ne.symm hae) hf).not_empty he
    · have := dist_lt ha hel
      rw [ring_val hk (by omega)] at h
      revert hf this
      unfold dist
      split at h <;> split <;> split <;> omega
  have hdk : ∀ i, i < R.length -> i ≠ a -> dist R.length a i < dist R.length a ((k + 1) % R.length) -> i = k ∨ dist R.length a i < dist R.length a k := fun i hi hia hlt => by
    by_cases hik : i = k
    · exact .inl hik
    · right
      revert hlt
      rw [ring_val hk (by omega)] at hnext ⊢
      unfold dist
      split at hnext <;> split <;> split <;> split <;> omega
  refine ⟨ha, ring_lt (by omega), Ne.symm hnext, s.uniq, s.chain, fun i hi hia hlt => ?_, fun i q hia hq hq1 hlt => ?_, s.stale, s.room, s.r01⟩
  · rcases hdk i hi hia hlt with rfl | h
    · exact ⟨p, hp, by omega⟩
    · exact s.full i hi hia h
  · rcases hdk i (List.getElem?_eq_some_iff.1 hq).1 hia hlt with rfl | h
    · rw [hp] at hq; cases hq; exact hd
    · exact s.off i q hia hq hq1 h
theorem Sh.move {R : List (Pl α)} {a k : Nat} {p : Pl α} (s : Sh R a k) (hp : R[k]? = some p) (h1 : p.is_ = 1) (hd : dist R.length (homeM R p.key) k >= dist R.length a k) : Sh (R.set a p) k ((k + 1) % R.length) ∧ (∀ q, Els (R.set a p) k q ↔ Els R a q) ∧ cntT (R.set a p) = cntT R := by
  have ha := s.ha
  have hk := s.hk
  obtain ⟨e, he⟩ := s.room
  have hel := he.lt
  obtain ⟨q, hq1, hq2⟩ := s.stale
  have hae : a ≠ e := fun h => by
    subst h; obtain ⟨q', g1, g2⟩ := he
    rw [hq1] at g1; cases g1; omega
  have hke : k ≠ e := fun h => by
    subst h; obtain ⟨q', g1, g2⟩ := he
    rw [hp] at g1; cases g1; omega
  have hh := home_lt (R := R) (key := p.key) (by omega)
  have hat : (R.set a p)[a]? = some p := by rw [List.getElem?_set, if_pos rfl, if_pos ha]
  have hkt : (R.set a p)[k]? = some p := by rw [List.getElem?_set, if_neg s.ne]; exact hp
  refine ⟨⟨by simpa using hk, by rw [List.length_set]; exact ring_lt (by omega), Ne.symm (next_ne hk hke hel), ?_, ?_, ?_, ?_, ⟨p, hkt, h1⟩, ⟨e, ?_⟩, ?_⟩, fun x => ⟨fun ⟨i, h2, h3, h4⟩ => ?_, fun ⟨i, h2, h3, h4⟩ => ?_⟩, ?_⟩
  · intro i j x y hi hj hx hy hx1 hy1 hxy
    rcases set_get hx with ⟨gi, gx, _⟩ | ⟨gi, gx⟩
    · rcases set_get hy with ⟨gj, gy, _⟩ | ⟨gj, gy⟩
      · exact gi.symm.trans gj
      · subst gx
        exact absurd (s.uniq k j _ y (Ne.symm s.ne) (Ne.symm gj) hp gy h1 hy1 hxy).symm hj
    · rcases set_get hy with ⟨gj, gy, _⟩ | ⟨gj, gy⟩
      · subst gy
        exact absurd (s.uniq i k x _ (Ne.symm gi) (Ne.symm s.ne) gx hp hx1 h1 hxy) hi
      · exact s.uniq i j x y (Ne.symm gi) (Ne.symm gj) gx gy hx1 hy1 hxy
  · intro i x hi hx hx1
    rcases set_get hx with ⟨rfl, rfl, _⟩ | ⟨gi, hx⟩
    · refine set_chain (fun y hy => ?_) (by omega)
      have c := s.chain k x (Ne.symm s.ne) hp h1
      have := (dist_meets hh ha hk s.ne).1 hd
      exact c y (by omega)
    · exact set_chain (s.chain i x (Ne.symm gi) hx hx1) (by omega)
  · intro i hi hik hlt
    rw [List.length_set] at hi hlt
    exfalso
    revert hlt
    rw [ring_val hk (by omega)]
    unfold dist
    split <;> split <;> split <;> omega
  · intro i x hik hx hx1 hlt
    have hi := (List.getElem?_eq_some_iff.1 hx).1
    rw [List.length_set] at hi hlt
    exfalso
    revert hlt
    rw [ring_val hk (by omega)]
    unfold dist
    split <;> split <;> split <;> omega
  · obtain ⟨q', g1, g2⟩ := he
    exact ⟨q', by rw [List.getElem?_set, if_neg hae]; exact g1, g2⟩
  · intro x hx
    obtain ⟨j, hj⟩ := List.mem_iff_getElem?.1 hx
    rcases set_get hj with ⟨_, rfl, _⟩ | ⟨_, hj⟩
    · omega
    · exact s.r01 x (List.mem_of_getElem? hj)
  · rcases set_get h3 with ⟨rfl, rfl, _⟩ | ⟨gi, h3⟩
    · exact ⟨k, Ne.symm s.ne, hp, h4⟩
    · exact ⟨i, Ne.symm gi, h3, h4⟩
  · by_cases hik : i = k
    · subst hik; rw [hp] at h3; cases h3; exact ⟨a, s.ne, hat, h4⟩
    · exact ⟨i, hik, by rw [List.getElem?_set, if_neg (Ne.symm h2)]; exact h3, h4⟩
  · have := cntT_set R a p q hq1
    rw [if_pos hq2, if_pos h1] at this
    omega
theorem shift_loop : ∀ (f : Nat) (R : List (Pl α)) (a k : Nat), Sh R a k -> (∃ e, Empty R e ∧ dist R.length k e < f) -> ∃ R', shiftM z f R a k = some R' ∧ RowOk R' ∧ (∀ p ∈ R', p.is_ <= 1) ∧ R'.length = R.length ∧ cntT R' + 1 = cntT R ∧ ∀ q : Pl α, (∃ i : Nat, R'[i]? = some q ∧ q.is_ = 1) ↔ Els R a q
  | 0, R, a, k, s, ⟨e, _, h⟩ => by omega
  | f + 1, R, a, k, s, ⟨e, he, hf⟩ => by
    have hk := s.hk
    have ha := s.ha
    have hel := he.lt
    obtain ⟨p, hp⟩ : ∃ p, R[k]? = some p := ⟨_, List.getElem?_eq_getElem hk⟩
    unfold shiftM
    rw [hp]
    simp only
    by_cases h0 : p.is_ = 0
    · rw [if_pos h0]
      obtain ⟨q, hq1, hq2⟩ := s.stale
      refine ⟨_, rfl, s.final ⟨p, hp, h0⟩, fun x hx => ?_, by simp, ?_, fun x => ⟨fun ⟨i, g1, g2⟩ => ?_, fun ⟨i, g0, g1, g2⟩ => ⟨i, by rw [List.getElem?_set, if_neg (Ne.symm g0)]; exact g1, g2⟩⟩⟩
      · obtain ⟨j, hj⟩ := List.mem_iff_getElem?.1 hx
        rcases set_get hj with ⟨_, rfl, _⟩ | ⟨_, hj⟩
        · simp [emptP]
        · exact s.r01 x (List.mem_of_getElem? hj)
      · have := cntT_set R a (emptP z) q hq1
        rw [if_pos hq2, if_neg (by simp [emptP])] at this
        omega
      · rcases set_get g1 with ⟨_, rfl, _⟩ | ⟨gi, g1⟩
        · simp [emptP] at g2
        · exact ⟨i, Ne.symm gi, g1, g2⟩
    · rw [if_neg h0]
      have h1 : p.is_ = 1 := by have := s.r01 p (List.mem_of_getElem? hp); omega
      have hke : k ≠ e := fun h => by
        subst h; obtain ⟨q', g1, g2⟩ := he
        rw [hp] at g1; cases g1; omega
      have hds := dist_succ hk hel hke
      by_cases hd : dist R.length (homeM R p.key) k >= dist R.length a k
      · rw [if_pos hd]
        obtain ⟨s1, s2, s3⟩ := s.move hp h1 hd
        obtain ⟨q, hq1, hq2⟩ := s.stale
        have hae : a ≠ e := fun h => by
          subst h; obtain ⟨q', g1, g2⟩ := he
          rw [hq1] at g1; cases g1; omega
        obtain ⟨R', r1, r2, r3, r4, r5, r6⟩ := shift_loop f (R.set a p) k ((k + 1) % R.length) s1 ⟨e, by
          obtain ⟨q', g1, g2⟩ := he
          exact ⟨q', by rw [List.getElem?_set, if_neg hae]; exact g1, g2⟩, by rw [List.length_set]; omega⟩
        exact ⟨R', r1, r2, r3, by simpa using r4, by omega, fun x => (r6 x).trans (s2 x)⟩
      · rw [if_neg hd]
        exact shift_loop f R a _ (s.skip hp h1 (by omega)) ⟨e, he, by omega⟩
theorem shift_ok {R : List (Pl α)} {i : Nat} {d : Pl α} (r : RowOk R) (h01 : ∀ p ∈ R, p.is_ <= 1) (hroom : ∃ e, Empty R e) (hd : R[i]? = some d) (h1 : d.is_ = 1) :
    ∃ R', shiftM z (R.length + 1) R i ((i + 1) % R.length) = some R' ∧ RowOk R' ∧ (∀ p ∈ R', p.is_ <= 1) ∧ R'.length = R.length ∧ cntT R' + 1 = cntT R ∧ (∀ key, valOf R' key = if kL key = kL d.key then none else valOf R key) ∧
      ∀ q : Pl α, (∃ i : Nat, R'[i]? = some q ∧ q.is_ = 1) -> ∃ i : Nat, R[i]? = some q ∧ q.is_ = 1 := by
  have hi := (List.getElem?_eq_some_iff.1 hd).1
  obtain ⟨e, he⟩ := hroom
  have hel := he.lt
  have hie : i ≠ e := fun h => by
    subst h; obtain ⟨q', g1, g2⟩ := he
    rw [hd] at g1; cases g1; omega
  have hn1 : dist R.length i ((i + 1) % R.length) = 1 := by
    rw [ring_val hi (by omega)]
    unfold dist
    split <;> split <;> omega
  have s : Sh R i ((i + 1) % R.length) := ⟨hi, ring_lt (by omega), Ne.symm (next_ne hi hie hel), fun a b p q _ _ ha hb hp hq h => r.uniq a b p q ha hb hp hq h, fun a p _ hp hp1 => r.chain a p hp hp1, fun a ha hne hlt => by
      have := dist_zero hi ha (by omega)
      exact absurd this.symm hne, fun a p hne hp hp1 hlt => by
      have := dist_zero hi (List.getElem?_eq_some_iff.1 hp).1 (by omega)
      exact absurd this.symm hne, ⟨d, hd, h1⟩, ⟨e, he⟩, h01⟩
  obtain ⟨R', r1, r2, r3, r4, r5, r6⟩ := shift_loop (z := z) (R.length + 1) R i _ s ⟨e, he, by have := dist_lt (ring_lt (h := i) (k := 1) (n := R.length) (by omega)) hel; omega⟩
  refine ⟨R', r1, r2, r3, r4, r5, fun key => ?_, fun q hq => ?_⟩
  · split
    · rename_i hk
      refine valOf_none fun j ⟨q, g1, g2, g3⟩ => ?_
      obtain ⟨a, h2, h3, h4⟩ := (r6 q).1 ⟨j, g1, g2⟩
      exact h2 (r.uniq a i q d h3 hd h4 h1 (g3.trans hk))
    · rename_i hk
      cases hv : valOf R key with
      | none =>
        refine valOf_none fun j ⟨q, g1, g2, g3⟩ => ?_
        obtain ⟨a, h2, h3, h4⟩ := (r6 q).1 ⟨j, g1, g2⟩
        rw [valOf_hit r h3 h4 g3] at hv; cases hv
      | some v =>
        obtain ⟨a, q, g1, g2, g3, g4⟩ := valOf_some hv
        have hai : a ≠ i := fun h => by subst h; rw [hd] at g1; cases g1; exact hk g3.symm
        obtain ⟨b, h2, h3⟩ := (r6 q).2 ⟨a, hai, g1, g2⟩
        rw [valOf_hit r2 h2 h3 g3, g4]
  · obtain ⟨a, _, h3, h4⟩ := (r6 q).1 hq
    exact ⟨a, h3, h4⟩
theorem drop_ok {T : Tb α} (t : TOk T) (key : ByteArray) :
    ∃ T', dropM z T key = some (T', ((getM T key).getD z, (getM T key).isSome)) ∧ TOk T' ∧ Rest T' ∧ (∀ k, getM T' k = if kL k = kL key then none else getM T k) ∧ T'.count = T.count - (if (getM T key).isSome then 1 else 0) ∧ T'.row.length = T.row.length ∧ leftT T' = leftT T - 4 := by
  obtain ⟨T1, m1, m2, m3, m4, m5, m6, m7⟩ := move_ok (z := z) t 4
  unfold dropM
  rw [m1, ← m7, ← m5, ← m6]
  simp only
  have m4' : leftT T1 = leftT T - 4 := by rw [m4]; rfl
  rw [← m4']
  have back : ∀ k, getM T k = getM T1 k := fun k => (m7 k).symm
  simp only [back]
  clear m1 m7 m5 m6 m4 m4' back t
  rcases hit_or T1.elder key with ⟨i, hi⟩ | hne
  · rw [m2.elder.hit hi]
    obtain ⟨p, h1, h2, h3⟩ := hi
    simp only [h1]
    have hil := (List.getElem?_eq_some_iff.1 h1).1
    have hn : ∀ k, kL k = kL key -> ∀ j, ¬ Hit T1.row k j := fun k hk j ⟨q, g1, g2, g3⟩ => m2.apart j i q p g1 h1 g2 h2 (g3.trans (hk.trans h3.symm))
    have hg := get_elder m2 (hn key rfl) h1 h2 h3
    rw [hg]
    have r1 : RowOk (T1.elder.set i (goneP z)) := m2.elder.gone (by simp [goneP]) (by simp [goneP])
    have hc1 := m2.cnt_elder h1 h2
    have hcnt := m2.cnt
    refine ⟨_, rfl, ⟨m2.row, m2.row01, m2.pos, r1, fun hne => ?_, fun j q hj hq => ?_, by simpa using m2.mle, fun a b q s hq hs hq1 hs1 => ?_, ?_, ?_⟩, ?_, fun k => ?_, rfl, rfl, by simp [leftT]⟩
    · obtain ⟨j, q, g1, g2⟩ := m2.eroom (fun e => by rw [e] at h1; simp at h1)
      have : i ≠ j := fun e => by subst e; rw [h1] at g1; cases g1; omega
      exact ⟨j, q, by rw [List.getElem?_set, if_neg this]; exact g1, g2⟩
    · rcases set_get hq with ⟨_, rfl, _⟩ | ⟨_, gq⟩
      · simp [goneP]
      · exact m2.behind j q hj gq
    · rcases set_get hs with ⟨_, rfl, _⟩ | ⟨_, gs⟩
      · simp [goneP] at hs1
      · exact m2.apart a b q s hq gs hq1 hs1
    · have c1 := cntT_set T1.elder i (goneP z) p h1
      rw [if_pos h2, if_neg (by simp [goneP])] at c1
      show cntT T1.row + cntT (T1.elder.set i (goneP z)) = T1.count - 1
      omega
    · have := m2.load
      show (T1.elder.set i (goneP z)).length - T1.moved + 4 * (T1.count - 1) <= 3 * T1.row.length
      unfold leftT at this
      rw [List.length_set]; omega
    · rcases m3 with hr | hr
      · rw [hr] at h1; simp at h1
      · exact .inr (by simpa using hr)
    · show (match valOf T1.row k with | some v => some v | none => valOf (T1.elder.set i (goneP z)) k) = _
      by_cases hk : kL k = kL key
      · have a1 : valOf T1.row k = none := valOf_none (R := T1.row) (hn k hk)
        have a2 : valOf (T1.elder.set i (goneP z)) k = none := valOf_none (R := T1.elder.set i (goneP z)) fun j ⟨q, g1, g2, g3⟩ => by
          rcases set_get g1 with ⟨_, rfl, _⟩ | ⟨gi, g1⟩
          · simp [goneP] at g2
          · exact gi (m2.elder.uniq i j p q h1 g1 h2 g2 (h3.trans (hk.symm.trans g3.symm)))
        rw [if_pos hk, a1, a2]
      · rw [if_neg hk, valOf_set r1 m2.elder h1 k (fun h => hk (h.2.symm.trans h3)), if_neg (by simp [goneP])]; rfl
  · have hfe : ∃ i, findM T1.elder key = some (i, false) := by
      by_cases he : T1.elder = []
      · exact ⟨0, by rw [he]; rfl⟩
      · obtain ⟨j, g1, _, _⟩ := find_miss hne (m2.eroom he)
        exact ⟨j, g1⟩
    obtain ⟨j, hj⟩ := hfe
    rw [hj]
    simp only
    rcases hit_or T1.row key with ⟨i, hi⟩ | hn
    · rw [m2.row.hit hi]
      obtain ⟨p, h1, h2, h3⟩ := hi
      simp only [h1]
      obtain ⟨R', r1, r2, r3, r4, r5, r6, r7⟩ := shift_ok (z := z) m2.row m2.row01 (m2.room m2.cnt_row) h1 h2
      rw [r1]
      have hg := get_row m2 h1 h2 h3
      rw [hg]
      have hcnt := m2.cnt
      have hpos := m2.pos
      refine ⟨_, rfl, ⟨r2, r3, by show 2 <= R'.length; omega, m2.elder, m2.eroom, m2.behind, m2.mle, fun a b q s hq hs hq1 hs1 => ?_, ?_, ?_⟩, m3, fun k => ?_, rfl, r4, rfl⟩
      · obtain ⟨a', ha, hb⟩ := r7 q ⟨a, hq, hq1⟩
        exact m2.apart a' b q s ha hs hb hs1
      · show cntT R' + cntT T1.elder = T1.count - 1
        omega
      · have := m2.load
        show T1.elder.length - T1.moved + 4 * (T1.count - 1) <= 3 * R'.length
        unfold leftT at this
        omega
      · show (match valOf R' k with | some v => some v | none => valOf T1.elder k) = _
        rw [r6]
        by_cases hk : kL k = kL key
        · have a2 : valOf T1.elder k = none := valOf_none (R := T1.elder) fun j ⟨q, g1, g2, g3⟩ => hne j ⟨q, g1, g2, g3.trans hk⟩
          rw [if_pos hk, if_pos (hk.trans h3.symm), a2]
        · rw [if_neg hk, if_neg (fun h => hk (h.trans h3))]; rfl
    · obtain ⟨i, f1, _, _⟩ := find_miss hn (m2.room m2.cnt_row)
      rw [f1]
      have hg := get_none hn hne
      rw [hg]
      refine ⟨T1, rfl, m2, m3, fun k => ?_, by simp, rfl, rfl⟩
      by_cases hk : kL k = kL key
      · rw [if_pos hk]
        exact get_none (fun j ⟨q, g1, g2, g3⟩ => hn j ⟨q, g1, g2, g3.trans hk⟩) (fun j ⟨q, g1, g2, g3⟩ => hne j ⟨q, g1, g2, g3.trans hk⟩)
      · rw [if_neg hk]
end
end Go.Proofs.YtjjchpaomgmmdaaGreat.V
