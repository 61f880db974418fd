/- Parts of the proof of StorePlays; no condition. -/
import Derived.Test.YtjjchpaomgmmdaaGreatRStorePlays2
namespace Go.Proofs.YtjjchpaomgmmdaaGreat.V
open Go
set_option linter.unusedVariables false
set_option maxRecDepth 100000
def F.xer (p0:cO) (h:H) (Q:Bool->H->Prop):Prop:=
  new h p0.cells.toArray Cq fun a2 h1 =>
  ldL h1 ((a2.add 0).add 9) fun y3 =>
  ((decide ((y3.len:Int)<=100))=true ->
  ldL h1 ((a2.add 0).add 10) fun y6 =>
  Q (decide ((y6.len:Int)<=100)) h1) ∧
  ((decide ((y3.len:Int)<=100))=false ->
  Q false h1)
theorem F.xer_ok {p0:cO}{h:H}{Q:Bool->H->Prop}(H:F.xer p0 h Q):Fn PP 40 ([(.agg p0.cells.toArray)]:List Value).toArray h fun r h'=>∃ r0,r=(.bool r0)∧Q r0 h':=by
 unfold F.xer at H;refine aV Tryz.func40 Tryz.ntmps40 rfl rfl fun w0=>(az [(0,(.agg p0.cells.toArray))] ⟨rfl,tv⟩ (sr (te (cb (cs:=p0.cells.toArray) rfl rfl H) ?_)));rintro _ h1 ⟨a2,rfl,H⟩;refine qa rfl (nt (sr (tq (ay (off:=0) ZG bX rfl) (tq (ay (off:=9) ZI pN rfl) ?_))));obtain ⟨y3,k4,H⟩:=H;refine th (aD Tryz.isAgg41 rfl) k4 (tq (bB (ts:=#[]) ZL (o:=y3.ptr) (n:=y3.len) (cap:=y3.cap) rfl) (tq (lh rfl rfl) (qm rfl ?_)));refine aT (t:=8) rfl (fun g5=>?_) (fun g5=>?_)
 ·replace H:=H.1 g5;refine tq (ay (off:=0) ZG bX rfl) (tq (ay (off:=10) ZI pO rfl) ?_);obtain ⟨y6,k7,H⟩:=H;refine th (aD ZBK rfl) k7 (tq (bB (ts:=#[]) ZY (o:=y6.ptr) (n:=y6.len) (cap:=y6.cap) rfl) (tq (lh rfl rfl) (tq (aL rfl rfl) (qa rfl (nt (al ?_))))));exact an rfl rfl ⟨_,rfl,H⟩
 ·replace H:=H.2 g5;refine ts (ts (ts (ts (ts (tq (aH rfl rfl) (qa rfl (nt (al ?_))))))));exact an rfl rfl ⟨_,rfl,H⟩
def F.xdk (p0:Option Addr) (p1:ae) (h:H) (Q:(Option Addr)->H->Prop):Prop:=
  new h p1.cells.toArray cH fun a2 h1 =>
  nn p0 fun a3 =>
  ldL h1 (a3.add 0) fun y5 =>
  ldS h1 (a2.add 1) fun y7 =>
  F.xdp p0 y7 h1 fun r10 h9 =>
  aA h9 (a3.add 0)=some y5.enc ∧
  bD y5 r10 1 fun a12 =>
  ldP h9 a12 fun y14 =>
  Q y14 h9
theorem F.xdk_ok {p0:Option Addr}{p1:ae}{h:H}{Q:(Option Addr)->H->Prop}(H:F.xdk p0 p1 h Q):Fn PP 110 ([(.pointer p0),(.agg p1.cells.toArray)]:List Value).toArray h fun r h'=>∃ r0,r=(.pointer r0)∧Q r0 h':=by
 unfold F.xdk at H;refine aV Tryz.func110 Tryz.ntmps110 rfl rfl fun w0=>(az [(0,(.pointer p0)),(1,(.agg p1.cells.toArray))] ⟨rfl,rfl,tv⟩ (sr (te (cb (cs:=p1.cells.toArray) rfl rfl H) ?_)));rintro _ h1 ⟨a2,rfl,H⟩;refine qa rfl (nt (aj (bv mixed [0,1,3,7,0,0,32,112,255,511,1023] (by kernel_rfl) (gq 0 1 rfl (aw rfl) ?_))));obtain ⟨a3,e4,H⟩:=H;refine gq 1 3 rfl (bG rfl e4) (gq 2 7 rfl (ay (off:=0) Zg dY rfl) ?_);obtain ⟨y5,k6,H⟩:=H;refine gh 3 15 rfl (aD Zk rfl) k6 (gq 4 31 rfl (aw rfl) (gq 5 63 rfl (ay (off:=1) ZH dS rfl) ?_));obtain ⟨y7,k8,H⟩:=H;refine gh 6 127 rfl (aD ZP rfl) k8 (g_e 7 255 [(3,fun h=>aA h (a3.add 0)=some y5.enc)] (by kernel_rfl) rfl (by kernel_rfl) (av Tryz.call11 rfl (F.xdp_ok H)) rfl rfl ?_);rintro _ h9 ⟨r10,rfl,H⟩;obtain ⟨k11,H⟩:=H;refine ⟨And.intro k11 trivial,?_⟩;obtain ⟨a12,e13,H⟩:=H;refine gq 8 511 rfl (bf (s:=y5) Zm ZBD rfl rfl e13) ?_;obtain ⟨y14,k15,H⟩:=H;refine gh 9 1023 rfl (aD ZBE rfl) k15 (gq 10 2047 rfl (bp rfl) (g_d (by kernel_rfl) (aa (al ?_))));exact an rfl rfl ⟨_,rfl,H⟩
def F.xal.j3 (Q:Int->H->Prop) (x28:Bool) (h:H):Prop:=
  (x28=true ->
  Q 22 h) ∧
  (x28=false ->
  Q 0 h)
def F.xal.j2 (Q:Int->H->Prop) (x1:Addr) (h:H):Prop:=
  ldI .i64 h (x1.add 2) fun y4 =>
  ((decide (y4<(-2305843009213693952)))=true ->
  F.xal.j3 Q true h) ∧
  ((decide (y4<(-2305843009213693952)))=false ->
  ldI .i64 h (x1.add 2) fun y7 =>
  F.xal.j3 Q (decide (y7 > 2305843009213693952)) h)
def F.xal.j4 (Q:Int->H->Prop) (x1:Addr) (x20:Bool) (h:H):Prop:=
  (x20=true ->
  Q 21 h) ∧
  (x20=false ->
  F.xal.j2 Q x1 h)
def F.xal.j1 (Q:Int->H->Prop) (x1:Addr) (h:H):Prop:=
  ldS h (x1.add 1) fun y10 =>
  ((decide ((y10.size:Int)<1))=true ->
  F.xal.j4 Q x1 true h) ∧
  ((decide ((y10.size:Int)<1))=false ->
  ldS h (x1.add 1) fun y13 =>
  F.xal.j4 Q x1 (decide ((y13.size:Int) > 32)) h)
def F.xal.j5 (Q:Int->H->Prop) (x1:Addr) (x10:Bool) (h:H):Prop:=
  (x10=true ->
  Q 23 h) ∧
  (x10=false ->
  F.xal.j1 Q x1 h)
def F.xal (p0:ae) (h:H) (Q:Int->H->Prop):Prop:=
  new h p0.cells.toArray cH fun a2 h1 =>
  ldI .i64 h1 (a2.add 0) fun y16 =>
  ((decide (y16<0))=true ->
  F.xal.j5 Q a2 true h1) ∧
  ((decide (y16<0))=false ->
  ldI .i64 h1 (a2.add 0) fun y19 =>
  F.xal.j5 Q a2 (decide (y19>=4)) h1)
theorem F.xal_ok {p0:ae}{h:H}{Q:Int->H->Prop}(H:F.xal p0 h Q):Fn PP 131 ([(.agg p0.cells.toArray)]:List Value).toArray h fun r h'=>∃ r0,r=(.int .i64 r0)∧Q r0 h':=by
 unfold F.xal at H;refine aV Tryz.func131 Tryz.ntmps131 rfl rfl fun w0=>(az [(0,(.agg p0.cells.toArray))] ⟨rfl,tv⟩ (sr (te (cb (cs:=p0.cells.toArray) rfl rfl H) ?_)));rintro _ h1 ⟨a2,rfl,H⟩;refine qa rfl (nt ?_);refine aG (fun L' h=>∃ (x1:Addr),L'=[(1,(.pointer (some x1)))]∧F.xal.j1 Q x1 h) ?_ ?_
 ·rintro L' h ⟨x1,rfl,H⟩;unfold F.xal.j1 at H;refine aG (fun L' h=>∃ (x1:Addr),L'=[(1,(.pointer (some x1)))]∧F.xal.j2 Q x1 h) ?_ ?_
  ·rintro L' h ⟨x1,rfl,H⟩;unfold F.xal.j2 at H;refine aj ?_;refine aG (fun L' h=>∃ (x28:Bool),L'=[(28,(.bool x28))]∧F.xal.j3 Q x28 h) ?_ ?_
   ·rintro L' h ⟨x28,rfl,H⟩;unfold F.xal.j3 at H;refine am rfl (fun g3=>?_) (fun g3=>?_)
    ·replace H:=H.1 g3;refine sr (qa rfl (nt (al (aq ?_))));exact an rfl rfl ⟨_,rfl,H⟩
    ·replace H:=H.2 g3;refine au (aa (sr (qa rfl (nt (al ?_)))));exact an rfl rfl ⟨_,rfl,H⟩
   ·refine ai (tq (ay (off:=2) ZH gA rfl) ?_);obtain ⟨y4,k5,H⟩:=H;refine th (aD ZE rfl) k5 (tq (bN rfl rfl) (qm rfl ?_));refine aT (t:=24) rfl (fun g6=>?_) (fun g6=>?_)
    ·replace H:=H.1 g6;refine ts (ts (ts (tq (aL rfl rfl) (nt ?_))));exact ah [(28,(.bool true))] ⟨rfl,tv⟩ ⟨_,rfl,H⟩
    ·replace H:=H.2 g6;refine tq (ay (off:=2) ZH gA rfl) ?_;obtain ⟨y7,k8,H⟩:=H;refine th (aD ZE rfl) k8 (tq (df rfl rfl) (tq (aH rfl rfl) (nt ?_)));exact ah [(28,(.bool (decide (y7 > 2305843009213693952))))] ⟨rfl,tv⟩ ⟨_,rfl,H⟩
  ·refine aG (fun L' h=>∃ (x1:Addr) (x20:Bool),L'=[(1,(.pointer (some x1))),(20,(.bool x20))]∧F.xal.j4 Q x1 x20 h) ?_ ?_
   ·rintro L' h ⟨x1,x20,rfl,H⟩;unfold F.xal.j4 at H;refine am rfl (fun g9=>?_) (fun g9=>?_)
    ·replace H:=H.1 g9;refine sr (qa rfl (nt (al (aq ?_))));exact an rfl rfl ⟨_,rfl,H⟩
    ·replace H:=H.2 g9;refine au (aa ?_);exact ah [(1,(.pointer (some x1)))] ⟨rfl,tv⟩ ⟨_,rfl,H⟩
   ·refine ai (tq (ay (off:=1) ZH dS rfl) ?_);obtain ⟨y10,k11,H⟩:=H;refine th (aD ZP rfl) k11 (tq (jG Zb rfl) (tq (bN rfl rfl) (qm rfl ?_)));refine aT (t:=15) rfl (fun g12=>?_) (fun g12=>?_)
    ·replace H:=H.1 g12;refine ts (ts (ts (ts (tq (aL rfl rfl) (nt ?_)))));exact ah [(1,(.pointer (some x1))),(20,(.bool true))] ⟨rfl,rfl,tv⟩ ⟨_,_,rfl,H⟩
    ·replace H:=H.2 g12;refine tq (ay (off:=1) ZH dS rfl) ?_;obtain ⟨y13,k14,H⟩:=H;refine th (aD ZP rfl) k14 (tq (jG Zb rfl) (tq (df rfl rfl) (tq (aH rfl rfl) (nt ?_))));exact ah [(1,(.pointer (some x1))),(20,(.bool (decide ((y13.size:Int) > 32))))] ⟨rfl,rfl,tv⟩ ⟨_,_,rfl,H⟩
 ·refine aG (fun L' h=>∃ (x1:Addr) (x10:Bool),L'=[(1,(.pointer (some x1))),(10,(.bool x10))]∧F.xal.j5 Q x1 x10 h) ?_ ?_
  ·rintro L' h ⟨x1,x10,rfl,H⟩;unfold F.xal.j5 at H;refine am rfl (fun g15=>?_) (fun g15=>?_)
   ·replace H:=H.1 g15;refine sr (qa rfl (nt (al (aq ?_))));exact an rfl rfl ⟨_,rfl,H⟩
   ·replace H:=H.2 g15;refine au (aa ?_);exact ah [(1,(.pointer (some x1)))] ⟨rfl,tv⟩ ⟨_,rfl,H⟩
  ·refine ai (tq (ay (off:=0) ZH fS rfl) ?_);obtain ⟨y16,k17,H⟩:=H;refine th (aD ZC rfl) k17 (tq (bN rfl rfl) (qm rfl ?_));refine aT (t:=6) rfl (fun g18=>?_) (fun g18=>?_)
   ·replace H:=H.1 g18;refine ts (ts (ts (tq (aL rfl rfl) (nt ?_))));exact ah [(1,(.pointer (some a2))),(10,(.bool true))] ⟨rfl,rfl,tv⟩ ⟨_,_,rfl,H⟩
   ·replace H:=H.2 g18;refine tq (ay (off:=0) ZH fS rfl) ?_;obtain ⟨y19,k20,H⟩:=H;refine th (aD ZC rfl) k20 (tq (jT rfl rfl) (tq (aH rfl rfl) (nt ?_)));exact ah [(1,(.pointer (some a2))),(10,(.bool (decide (y19>=4))))] ⟨rfl,rfl,tv⟩ ⟨_,_,rfl,H⟩
def F.xdd (p0:ae) (p1:ae) (h:H) (Q:Bool->H->Prop):Prop:=
  new h p0.cells.toArray cH fun a2 h1 =>
  new h1 p1.cells.toArray cH fun a4 h3 =>
  ldI .i64 h3 (a2.add 0) fun y5 =>
  ldI .i64 h3 (a4.add 0) fun y7 =>
  (((y5 != y7))=true ->
  ldI .i64 h3 (a2.add 0) fun y10 =>
  ldI .i64 h3 (a4.add 0) fun y12 =>
  Q (decide (y10<y12)) h3) ∧
  (((y5 != y7))=false ->
  ldS h3 (a2.add 1) fun y14 =>
  ldS h3 (a4.add 1) fun y16 =>
  ((!(y14.toList == y16.toList))=true ->
  ldS h3 (a2.add 1) fun y19 =>
  ldS h3 (a4.add 1) fun y21 =>
  Q (Op.bytesLess y19.toList y21.toList) h3) ∧
  ((!(y14.toList == y16.toList))=false ->
  ldI .i64 h3 (a2.add 2) fun y23 =>
  ldI .i64 h3 (a4.add 2) fun y25 =>
  Q (decide (y23<y25)) h3))
theorem F.xdd_ok {p0:ae}{p1:ae}{h:H}{Q:Bool->H->Prop}(H:F.xdd p0 p1 h Q):Fn PP 118 ([(.agg p0.cells.toArray),(.agg p1.cells.toArray)]:List Value).toArray h fun r h'=>∃ r0,r=(.bool r0)∧Q r0 h':=by
 unfold F.xdd at H;refine aV Tryz.func118 Tryz.ntmps118 rfl rfl fun w0=>(az [(0,(.agg p0.cells.toArray)),(1,(.agg p1.cells.toArray))] ⟨rfl,rfl,tv⟩ (sr (te (cb (cs:=p0.cells.toArray) rfl rfl H) ?_)));rintro _ h1 ⟨a2,rfl,H⟩;refine te (cb (cs:=p1.cells.toArray) rfl rfl H) ?_;rintro _ h3 ⟨a4,rfl,H⟩;refine qa rfl (nt (aj (sr (tq (ay (off:=0) ZH fS rfl) ?_))));obtain ⟨y5,k6,H⟩:=H;refine th (aD ZC rfl) k6 (tq (ay (off:=0) ZH fS rfl) ?_);obtain ⟨y7,k8,H⟩:=H;refine th (aD ZC rfl) k8 (tq (ey rfl rfl) (nt ?_));refine am rfl (fun g9=>?_) (fun g9=>?_)
 ·replace H:=H.1 g9;refine sr (tq (ay (off:=0) ZH fS rfl) ?_);obtain ⟨y10,k11,H⟩:=H;refine th (aD ZC rfl) k11 (tq (ay (off:=0) ZH fS rfl) ?_);obtain ⟨y12,k13,H⟩:=H;refine th (aD ZC rfl) k13 (tq (bN rfl rfl) (qa rfl (nt (al (aq ?_)))));exact an rfl rfl ⟨_,rfl,H⟩
 ·replace H:=H.2 g9;refine au (aa (aj (sr (tq (ay (off:=1) ZH dS rfl) ?_))));obtain ⟨y14,k15,H⟩:=H;refine th (aD ZP rfl) k15 (tq (ay (off:=1) ZH dS rfl) ?_);obtain ⟨y16,k17,H⟩:=H;refine th (aD ZP rfl) k17 (tq (Dy rfl rfl) (nt ?_));refine am rfl (fun g18=>?_) (fun g18=>?_)
  ·replace H:=H.1 g18;refine sr (tq (ay (off:=1) ZH dS rfl) ?_);obtain ⟨y19,k20,H⟩:=H;refine th (aD ZP rfl) k20 (tq (ay (off:=1) ZH dS rfl) ?_);obtain ⟨y21,k22,H⟩:=H;refine th (aD ZP rfl) k22 (tq (Dx rfl rfl) (qa rfl (nt (al (aq ?_)))));exact an rfl rfl ⟨_,rfl,H⟩
  ·replace H:=H.2 g18;refine au (aa (sr (tq (ay (off:=2) ZH gA rfl) ?_)));obtain ⟨y23,k24,H⟩:=H;refine th (aD ZE rfl) k24 (tq (ay (off:=2) ZH gA rfl) ?_);obtain ⟨y25,k26,H⟩:=H;refine th (aD ZE rfl) k26 (tq (bN rfl rfl) (qa rfl (nt (al ?_))));exact an rfl rfl ⟨_,rfl,H⟩
def F.xcg.l1 (Q:Int->Bool->H->Prop):Nat->(Option Addr)->Addr->Int->H->Prop
  | 0,_,_,_,_=>False
  | q1+1,x0,x3,x6,h =>
    nn x0 fun a3 =>
    ldL h (a3.add 1) fun y5 =>
    ((decide (x6<(y5.len:Int)))=true ->
    nn x0 fun a8 =>
    ldL h (a8.add 1) fun y10 =>
    bD y10 x6 4 fun a12 =>
    ak h (a12.add 0) fun y14 =>
    ak h x3 fun y16 =>
    (((y14.View == y16.View) && ((y14.Key.toList == y16.Key.toList) && ((y14.Start == y16.Start) && true)))=true ->
    Q x6 true h) ∧
    (((y14.View == y16.View) && ((y14.Key.toList == y16.Key.toList) && ((y14.Start == y16.Start) && true)))=false ->
    ak h x3 fun y19 =>
    nn x0 fun a21 =>
    ldL h (a21.add 1) fun y23 =>
    bD y23 x6 4 fun a25 =>
    ak h (a25.add 0) fun y27 =>
    F.xdd y19 y27 h fun r30 h29 =>
    (r30=true ->
    Q x6 false h29) ∧
    (r30=false ->
    (F.xcg.l1 Q q1) x0 x3 (IntKind.wrap .i64 (x6+1)) h29))) ∧
    ((decide (x6<(y5.len:Int)))=false ->
    nn x0 fun a32 =>
    ldL h (a32.add 1) fun y34 =>
    Q (y34.len:Int) false h)
def F.xcg (p0:Option Addr) (p1:ae) (h:H) (Q:Int->Bool->H->Prop):Prop:=
  new h p1.cells.toArray cH fun a2 h1 =>
  ∃ m,F.xcg.l1 Q m p0 a2 0 h1
theorem F.xcg_ok {p0:Option Addr}{p1:ae}{h:H}{Q:Int->Bool->H->Prop}(H:F.xcg p0 p1 h Q):Fn PP 139 ([(.pointer p0),(.agg p1.cells.toArray)]:List Value).toArray h fun r h'=>∃ r0 r1,r=.tuple #[(.int .i64 r0),(.bool r1)]∧Q r0 r1 h':=by
 unfold F.xcg at H;refine aV Tryz.func139 Tryz.ntmps139 rfl rfl fun w0=>(az [(0,(.pointer p0)),(1,(.agg p1.cells.toArray))] ⟨rfl,rfl,tv⟩ (sr (te (cb (cs:=p1.cells.toArray) rfl rfl H) ?_)));rintro _ h1 ⟨a2,rfl,H⟩;refine qa rfl (qa rfl (nt (aj (sr (qa rfl (nt (aB ?_)))))));obtain ⟨m36,H⟩:=H;refine az [(0,(.pointer p0)),(3,(.pointer (some a2))),(6,(.int .i64 0))] ⟨rfl,rfl,rfl,tv⟩ ?_;refine aY (fun m L' h=>∃ (x0:Option Addr) (x3:Addr) (x6:Int),L'=[(0,(.pointer x0)),(3,(.pointer (some x3))),(6,(.int .i64 x6))]∧F.xcg.l1 Q m x0 x3 x6 h) ?_ ?_ m36 ⟨_,_,_,rfl,H⟩
 ·rintro L' h ⟨_,_,_,_,H⟩;exact H
 ·rintro q1 L' h ⟨x0,x3,x6,rfl,H⟩;unfold F.xcg.l1 at H;refine aj (sr (qm rfl (qm rfl ?_)));obtain ⟨a3,e4,H⟩:=H;refine tq (bG rfl e4) (tq (ay (off:=1) ZX dc rfl) ?_);obtain ⟨y5,k6,H⟩:=H;refine th (aD Ze rfl) k6 (tq (bB (ts:=#[]) Zf (o:=y5.ptr) (n:=y5.len) (cap:=y5.cap) rfl) (tq (bN rfl rfl) (nt ?_)));refine am rfl (fun g7=>?_) (fun g7=>?_)
  ·replace H:=H.1 g7;refine au (aa (aj (aB (aj (aj (bv mixed [0,1,3,7,0,31,63,127,0,511] (by kernel_rfl) (gq 0 1 rfl (aw rfl) ?_)))))));obtain ⟨a8,e9,H⟩:=H;refine gq 1 3 rfl (bG rfl e9) (gq 2 7 rfl (ay (off:=1) ZX dc rfl) ?_);obtain ⟨y10,k11,H⟩:=H;refine gh 3 15 rfl (aD Ze rfl) k11 (gq 4 31 rfl (aw rfl) ?_);obtain ⟨a12,e13,H⟩:=H;refine gq 5 63 rfl (bf (s:=y10) Zf Zy rfl rfl e13) (gq 6 127 rfl (ay (off:=0) Z4 ny rfl) ?_);obtain ⟨y14,k15,H⟩:=H;refine gh 7 255 rfl (aQ ZB ZA rfl rfl) k15 ?_;obtain ⟨y16,k17,H⟩:=H;refine gh 8 511 rfl (aQ ZB ZA rfl rfl) k17 (gq 9 1023 rfl (kX (b:=((y14.View == y16.View) && ((y14.Key.toList == y16.Key.toList) && ((y14.Start == y16.Start) && true)))) oC (fun w=>kN y14 y16 9998 w) rfl rfl) (g_d (by kernel_rfl) (aa ?_)));refine am rfl (fun g18=>?_) (fun g18=>?_)
   ·replace H:=H.1 g18;refine sr (qm rfl (qa rfl (qa rfl (nt (al (aq (aS (aq (aq (aS (aq ?_)))))))))));exact cw rfl rfl rfl ⟨_,_,rfl,H⟩
   ·replace H:=H.2 g18;refine au (aa (aj (bv mixed [0,0,2,6,14,0,62,126,254,511] (by kernel_rfl) ?_)));obtain ⟨y19,k20,H⟩:=H;refine gh 0 1 rfl (aQ ZB ZA rfl rfl) k20 (gq 1 3 rfl (aw rfl) ?_);obtain ⟨a21,e22,H⟩:=H;refine gq 2 7 rfl (bG rfl e22) (gq 3 15 rfl (ay (off:=1) ZX dc rfl) ?_);obtain ⟨y23,k24,H⟩:=H;refine gh 4 31 rfl (aD Ze rfl) k24 (gq 5 63 rfl (aw rfl) ?_);obtain ⟨a25,e26,H⟩:=H;refine gq 6 127 rfl (bf (s:=y23) Zf Zy rfl rfl e26) (gq 7 255 rfl (ay (off:=0) Z4 ny rfl) ?_);obtain ⟨y27,k28,H⟩:=H;refine gh 8 511 rfl (aQ ZB ZA rfl rfl) k28 (g_e 9 1023 [] (by kernel_rfl) rfl (by kernel_rfl) (av Tryz.call118 rfl (F.xdd_ok H)) rfl rfl ?_);rintro _ h29 ⟨r30,rfl,H⟩;refine ⟨trivial,?_⟩;refine g_d (by kernel_rfl) (aa ?_);refine am rfl (fun g31=>?_) (fun g31=>?_)
    ·replace H:=H.1 g31;refine sr (qm rfl (qa rfl (qa rfl (nt (al (aS (aq (aq (aS (aq ?_))))))))));exact cw rfl rfl rfl ⟨_,_,rfl,H⟩
    ·replace H:=H.2 g31;refine au (aI (aa (ai (qm rfl (tq (bE rfl rfl) (qa rfl (nt ?_)))))));exact ah [(0,(.pointer x0)),(3,(.pointer (some x3))),(6,(.int .i64 (IntKind.wrap .i64 (x6+1))))] ⟨rfl,rfl,rfl,tv⟩ ⟨_,_,_,rfl,H⟩
  ·replace H:=H.2 g7;refine bC (aF (aF (bV (aa (sr (qm rfl ?_))))));obtain ⟨a32,e33,H⟩:=H;refine tq (bG rfl e33) (tq (ay (off:=1) ZX dc rfl) ?_);obtain ⟨y34,k35,H⟩:=H;refine th (aD Ze rfl) k35 (tq (bB (ts:=#[]) Zf (o:=y34.ptr) (n:=y34.len) (cap:=y34.cap) rfl) (qa rfl (qa rfl (nt (al ?_)))));exact cw rfl rfl rfl ⟨_,_,rfl,H⟩
def F.xdn (p0:Option Addr) (p1:ae) (h:H) (Q:Sl->H->Prop):Prop:=
  new h p1.cells.toArray cH fun a2 h1 =>
  ak h1 a2 fun y3 =>
  F.xcg p0 y3 h1 fun r6 r7 h5 =>
  ((!r7)=true ->
  Q (⟨none,0,0⟩:Sl) h5) ∧
  ((!r7)=false ->
  nn p0 fun a9 =>
  ldL h5 (a9.add 1) fun y11 =>
  bD y11 r6 4 fun a13 =>
  ldL h5 (a13.add 3) fun y15 =>
  Q y15 h5)
theorem F.xdn_ok {p0:Option Addr}{p1:ae}{h:H}{Q:Sl->H->Prop}(H:F.xdn p0 p1 h Q):Fn PP 133 ([(.pointer p0),(.agg p1.cells.toArray)]:List Value).toArray h fun r h'=>∃ r0,r=r0.enc∧Q r0 h':=by
 unfold F.xdn at H;refine aV Tryz.func133 Tryz.ntmps133 rfl rfl fun w0=>(az [(0,(.pointer p0)),(1,(.agg p1.cells.toArray))] ⟨rfl,rfl,tv⟩ (sr (te (cb (cs:=p1.cells.toArray) rfl rfl H) ?_)));rintro _ h1 ⟨a2,rfl,H⟩;refine qa rfl (nt (sr (qm rfl ?_)));obtain ⟨y3,k4,H⟩:=H;refine th (aQ ZB ZA rfl rfl) k4 (te (av Tryz.call139 rfl (F.xcg_ok H)) ?_);rintro _ h5 ⟨r6,r7,rfl,H⟩;refine qm rfl (tq (bW rfl rfl) (tq (bW rfl rfl) (qa rfl (qa rfl (nt (aj (sr (qm rfl (tq (eI rfl) (nt ?_))))))))));refine am rfl (fun g8=>?_) (fun g8=>?_)
 ·replace H:=H.1 g8;refine sr (qa rfl (nt (al (aq ?_))));exact an rfl rfl ⟨_,rfl,H⟩
 ·replace H:=H.2 g8;refine au (aa (sr (qm rfl ?_)));obtain ⟨a9,e10,H⟩:=H;refine tq (bG rfl e10) (tq (ay (off:=1) ZX dc rfl) ?_);obtain ⟨y11,k12,H⟩:=H;refine th (aD Ze rfl) k12 (qm rfl ?_);obtain ⟨a13,e14,H⟩:=H;refine tq (bf (s:=y11) Zf Zy rfl rfl e14) (tq (ay (off:=3) Z4 iO rfl) ?_);obtain ⟨y15,k16,H⟩:=H;refine th (aD ZBL rfl) k16 (qa rfl (nt (al ?_)));exact an rfl rfl ⟨_,rfl,H⟩
def F.xdo (p0:Sl) (h:H) (Q:Int->H->Prop):Prop:=
  ((((p0.len:Int) == 0))=true ->
  Q 0 h) ∧
  ((((p0.len:Int) == 0))=false ->
  bD p0 (IntKind.wrap .i64 ((p0.len:Int)-1)) 6 fun a2 =>
  ldI .i64 h (a2.add 0) fun y4 =>
  Q y4 h)
theorem F.xdo_ok {p0:Sl}{h:H}{Q:Int->H->Prop}(H:F.xdo p0 h Q):Fn PP 134 ([p0.enc]:List Value).toArray h fun r h'=>∃ r0,r=(.int .i64 r0)∧Q r0 h':=by
 unfold F.xdo at H;refine aV Tryz.func134 Tryz.ntmps134 rfl rfl fun w0=>(az [(0,p0.enc)] ⟨rfl,tv⟩ (sr (qa rfl (nt (aj (sr (qm rfl (tq (bB (ts:=#[]) ZO (o:=p0.ptr) (n:=p0.len) (cap:=p0.cap) rfl) (tq (ct rfl rfl) (bo ?_))))))))));refine aa ?_;refine am rfl (fun g1=>?_) (fun g1=>?_)
 ·replace H:=H.1 g1;refine sr (qa rfl (nt (al (aq ?_))));exact an rfl rfl ⟨_,rfl,H⟩
 ·replace H:=H.2 g1;refine au (aa (sr (qm rfl (qm rfl (tq (bB (ts:=#[]) ZO (o:=p0.ptr) (n:=p0.len) (cap:=p0.cap) rfl) (tq (cJ rfl rfl) ?_))))));obtain ⟨a2,e3,H⟩:=H;refine tq (bf (s:=p0) ZO Zt rfl rfl e3) (tq (ay (off:=0) Z5 km rfl) ?_);obtain ⟨y4,k5,H⟩:=H;refine th (aD ZC rfl) k5 (qa rfl (nt (al ?_)));exact an rfl rfl ⟨_,rfl,H⟩
def F.xbe.j1 (Q:Sl->H->Prop) (x3:Addr) (x5:Sl) (h:H):Prop:=
  fk h x3 fun y5 =>
  fv h ((y5.cells).toArray) uk 1 fun s8 h7 =>
  dA PP (Builtin.append_ #[191,191] 191 #[x5.enc,s8.enc]) h7 fun s10 h9 =>
  Q s10 h9
def F.xbe.j2 (Q:Sl->H->Prop) (x3:Addr) (x5:Sl) (x6:Int) (x24:Bool) (h:H):Prop:=
  (x24=true ->
  fk h x3 fun y12 =>
  bD x5 (IntKind.wrap .i64 (x6-1)) 6 fun a14 =>
  stH h a14 y12.cells fun h16 =>
  Q x5 h16) ∧
  (x24=false ->
  F.xbe.j1 Q x3 x5 h)
def F.xbe (p0:Sl) (p1:bL) (h:H) (Q:Sl->H->Prop):Prop:=
  new h p1.cells.toArray uk fun a2 h1 =>
  dA PP (Builtin.append_ #[191,191] 191 #[(⟨none,0,0⟩:Sl).enc,p0.enc]) h1 fun s4 h3 =>
  ((decide ((s4.len:Int) > 0))=true ->
  bD s4 (IntKind.wrap .i64 ((s4.len:Int)-1)) 6 fun a18 =>
  ldI .i64 h3 (a18.add 0) fun y20 =>
  ldI .i64 h3 (a2.add 0) fun y22 =>
  F.xbe.j2 Q a2 s4 (s4.len:Int) ((y20 == y22)) h3) ∧
  ((decide ((s4.len:Int) > 0))=false ->
  F.xbe.j2 Q a2 s4 (s4.len:Int) false h3)
theorem F.xbe_ok {p0:Sl}{p1:bL}{h:H}{Q:Sl->H->Prop}(H:F.xbe p0 p1 h Q):Fn PP 135 ([p0.enc,(.agg p1.cells.toArray)]:List Value).toArray h fun r h'=>∃ r0,r=r0.enc∧Q r0 h':=by
 unfold F.xbe at H;refine aV Tryz.func135 Tryz.ntmps135 rfl rfl fun w0=>(az [(0,p0.enc),(1,(.agg p1.cells.toArray))] ⟨rfl,rfl,tv⟩ (sr (te (cb (cs:=p1.cells.toArray) rfl rfl H) ?_)));rintro _ h1 ⟨a2,rfl,H⟩;refine qa rfl (nt (sr (qa rfl (nt (sr (qm rfl (qm rfl (te (dV rfl H) ?_))))))));rintro _ h3 ⟨s4,rfl,H⟩;refine qa rfl (nt (sr (qm rfl (tq (bB (ts:=#[]) ZO (o:=s4.ptr) (n:=s4.len) (cap:=s4.cap) rfl) (qa rfl (nt ?_))))));refine aG (fun L' h=>∃ (x3:Addr) (x5:Sl),L'=[(3,(.pointer (some x3))),(5,x5.enc)]∧F.xbe.j1 Q x3 x5 h) ?_ ?_
 ·rintro L' h ⟨x3,x5,rfl,H⟩;unfold F.xbe.j1 at H;refine sr (qm rfl ?_);obtain ⟨y5,k6,H⟩:=H;refine th (aQ Tryz.isAgg196 Zt rfl rfl) k6 (te (co (cs:=(y5.cells).toArray) rfl rfl (qr y5) H) ?_);rintro _ h7 ⟨s8,rfl,H⟩;refine te (dV rfl H) ?_;rintro _ h9 ⟨s10,rfl,H⟩;refine qa rfl (nt (al ?_));exact an rfl rfl ⟨_,rfl,H⟩
 ·refine aG (fun L' h=>∃ (x3:Addr) (x5:Sl) (x6:Int) (x24:Bool),L'=[(3,(.pointer (some x3))),(5,x5.enc),(6,(.int .i64 x6)),(24,(.bool x24))]∧F.xbe.j2 Q x3 x5 x6 x24 h) ?_ ?_
  ·rintro L' h ⟨x3,x5,x6,x24,rfl,H⟩;unfold F.xbe.j2 at H;refine am rfl (fun g11=>?_) (fun g11=>?_)
   ·replace H:=H.1 g11;refine sr (qm rfl (qm rfl (tq (cJ rfl rfl) ?_)));obtain ⟨y12,k13,H⟩:=H;refine th (aQ Tryz.isAgg196 Zt rfl rfl) k13 ?_;obtain ⟨a14,e15,H⟩:=H;refine tq (bf (s:=x5) ZO Zt rfl rfl e15) (te (aK (vs:=y12.cells) Zt rfl rfl ax rfl (by intro v hv;exact gv _ v hv) H) ?_);rintro _ h16 ⟨rfl,H⟩;refine nt (sr (qm rfl (qa rfl (nt (al (aq ?_))))));exact an rfl rfl ⟨_,rfl,H⟩
   ·replace H:=H.2 g11;refine au (aa ?_);exact ah [(3,(.pointer (some x3))),(5,x5.enc)] ⟨rfl,rfl,tv⟩ ⟨_,_,rfl,H⟩
  ·refine bv mixed [0,1,3,7,7,23,63,127,255,7,519,2047,4095] (by kernel_rfl) (gq 0 1 rfl (aw rfl) (gq 1 3 rfl (df rfl rfl) (gq 2 7 rfl (aw rfl) ?_)));refine eO (t:=14) rfl (fun g17=>?_) (fun g17=>?_)
   ·replace H:=H.1 g17;refine gq 3 15 rfl (aw rfl) (gq 4 31 rfl (aw rfl) (gq 5 63 rfl (cJ rfl rfl) ?_));obtain ⟨a18,e19,H⟩:=H;refine gq 6 127 rfl (bf (s:=s4) ZO Zt rfl rfl e19) (gq 7 255 rfl (ay (off:=0) Z5 km rfl) ?_);obtain ⟨y20,k21,H⟩:=H;refine gh 8 511 rfl (aD ZC rfl) k21 (gq 9 1023 rfl (ay (off:=0) Z5 km rfl) ?_);obtain ⟨y22,k23,H⟩:=H;refine gh 10 2047 rfl (aD ZC rfl) k23 (gq 11 4095 rfl (ct rfl rfl) (gq 12 8191 rfl (aL rfl rfl) (g_d (by kernel_rfl) (aa ?_))));exact ah [(3,(.pointer (some a2))),(5,s4.enc),(6,(.int .i64 (s4.len:Int))),(24,(.bool ((y20 == y22))))] ⟨rfl,rfl,rfl,rfl,tv⟩ ⟨_,_,_,_,rfl,H⟩
   ·replace H:=H.2 g17;refine gs 3 15 rfl (gs 4 31 rfl (gs 5 63 rfl (gs 6 127 rfl (gs 7 255 rfl (gs 8 511 rfl (gs 9 1023 rfl (gs 10 2047 rfl (gs 11 4095 rfl (gq 12 8191 rfl (aH rfl rfl) (g_d (by kernel_rfl) (aa ?_)))))))))));exact ah [(3,(.pointer (some a2))),(5,s4.enc),(6,(.int .i64 (s4.len:Int))),(24,(.bool false))] ⟨rfl,rfl,rfl,rfl,tv⟩ ⟨_,_,_,_,rfl,H⟩
def F.xay.j1 (Q:Int->H->Prop) (x3:Int) (h:H):Prop:=
  Q x3 h
def F.xay.j2 (Q:Int->H->Prop) (x3:Int) (x16:Bool) (h:H):Prop:=
  (x16=true ->
  F.xay.j1 Q (IntKind.wrap .i64 (x3+1)) h) ∧
  (x16=false ->
  F.xay.j1 Q x3 h)
def F.xay (p0:Sl) (h:H) (Q:Int->H->Prop):Prop:=
  ((decide ((p0.len:Int) > 0))=true ->
  bD p0 (IntKind.wrap .i64 ((p0.len:Int)-1)) 6 fun a3 =>
  ldB h (a3.add 5) fun y5 =>
  F.xay.j2 Q (p0.len:Int) (!y5) h) ∧
  ((decide ((p0.len:Int) > 0))=false ->
  F.xay.j2 Q (p0.len:Int) false h)
theorem F.xay_ok {p0:Sl}{h:H}{Q:Int->H->Prop}(H:F.xay p0 h Q):Fn PP 136 ([p0.enc]:List Value).toArray h fun r h'=>∃ r0,r=(.int .i64 r0)∧Q r0 h':=by
 unfold F.xay at H;refine aV Tryz.func136 Tryz.ntmps136 rfl rfl fun w0=>(az [(0,p0.enc)] ⟨rfl,tv⟩ (sr (qa rfl (nt (sr (qm rfl (tq (bB (ts:=#[]) ZO (o:=p0.ptr) (n:=p0.len) (cap:=p0.cap) rfl) (qa rfl (nt ?_)))))))));refine aG (fun L' h=>∃ (x3:Int),L'=[(3,(.int .i64 x3))]∧F.xay.j1 Q x3 h) ?_ ?_
 ·rintro L' h ⟨x3,rfl,H⟩;unfold F.xay.j1 at H;refine sr (qm rfl (qa rfl (nt (al ?_))));exact an rfl rfl ⟨_,rfl,H⟩
 ·refine aG (fun L' h=>∃ (x3:Int) (x16:Bool),L'=[(3,(.int .i64 x3)),(16,(.bool x16))]∧F.xay.j2 Q x3 x16 h) ?_ ?_
  ·rintro L' h ⟨x3,x16,rfl,H⟩;unfold F.xay.j2 at H;refine am rfl (fun g1=>?_) (fun g1=>?_)
   ·replace H:=H.1 g1;refine ai (qm rfl (tq (bE rfl rfl) (qa rfl (nt ?_))));exact ah [(3,(.int .i64 (IntKind.wrap .i64 (x3+1))))] ⟨rfl,tv⟩ ⟨_,rfl,H⟩
   ·replace H:=H.2 g1;refine au (aa ?_);exact ah [(3,(.int .i64 x3))] ⟨rfl,tv⟩ ⟨_,rfl,H⟩
  ·refine ai (qm rfl (tq (df rfl rfl) (qm rfl ?_)));refine aT (t:=8) rfl (fun g2=>?_) (fun g2=>?_)
   ·replace H:=H.1 g2;refine qm rfl (qm rfl (tq (cJ rfl rfl) ?_));obtain ⟨a3,e4,H⟩:=H;refine tq (bf (s:=p0) ZO Zt rfl rfl e4) (tq (ay (off:=5) Z5 lF rfl) ?_);obtain ⟨y5,k6,H⟩:=H;refine th (aD Zj rfl) k6 (tq (eI rfl) (tq (aL rfl rfl) (nt ?_)));exact ah [(3,(.int .i64 (p0.len:Int))),(16,(.bool (!y5)))] ⟨rfl,rfl,tv⟩ ⟨_,_,rfl,H⟩
   ·replace H:=H.2 g2;refine ts (ts (ts (ts (ts (ts (ts (tq (aH rfl rfl) (nt ?_))))))));exact ah [(3,(.int .i64 (p0.len:Int))),(16,(.bool false))] ⟨rfl,rfl,tv⟩ ⟨_,_,rfl,H⟩
def F.xbh.l1 (Q:Int->H->Prop):Nat->(Option Addr)->Int->Int->H->Prop
  | 0,_,_,_,_=>False
  | q1+1,x0,x3,x4,h =>
    nn x0 fun a1 =>
    ldL h (a1.add 1) fun y3 =>
    ((decide (x4<(y3.len:Int)))=true ->
    nn x0 fun a6 =>
    ldL h (a6.add 1) fun y8 =>
    bD y8 x4 4 fun a10 =>
    ldL h (a10.add 3) fun y12 =>
    F.xay y12 h fun r15 h14 =>
    (F.xbh.l1 Q q1) x0 (IntKind.wrap .i64 (x3+r15)) (IntKind.wrap .i64 (x4+1)) h14) ∧
    ((decide (x4<(y3.len:Int)))=false ->
    Q x3 h)
def F.xbh (p0:Option Addr) (h:H) (Q:Int->H->Prop):Prop:=
  ∃ m,F.xbh.l1 Q m p0 0 0 h
theorem F.xbh_ok {p0:Option Addr}{h:H}{Q:Int->H->Prop}(H:F.xbh p0 h Q):Fn PP 119 ([(.pointer p0)]:List Value).toArray h fun r h'=>∃ r0,r=(.int .i64 r0)∧Q r0 h':=by
 unfold F.xbh at H;refine aV Tryz.func119 Tryz.ntmps119 rfl rfl fun w0=>(az [(0,(.pointer p0))] ⟨rfl,tv⟩ (sr (qa rfl (nt (sr (qa rfl (nt (aj (aj ?_)))))))));refine ai (qa rfl (nt (aB ?_)));obtain ⟨m16,H⟩:=H;refine az [(0,(.pointer p0)),(3,(.int .i64 0)),(4,(.int .i64 0))] ⟨rfl,rfl,rfl,tv⟩ ?_;refine aY (fun m L' h=>∃ (x0:Option Addr) (x3:Int) (x4:Int),L'=[(0,(.pointer x0)),(3,(.int .i64 x3)),(4,(.int .i64 x4))]∧F.xbh.l1 Q m x0 x3 x4 h) ?_ ?_ m16 ⟨_,_,_,rfl,H⟩
 ·rintro L' h ⟨_,_,_,_,H⟩;exact H
 ·rintro q1 L' h ⟨x0,x3,x4,rfl,H⟩;unfold F.xbh.l1 at H;refine aj (sr (qm rfl (qm rfl ?_)));obtain ⟨a1,e2,H⟩:=H;refine tq (bG rfl e2) (tq (ay (off:=1) ZX dc rfl) ?_);obtain ⟨y3,k4,H⟩:=H;refine th (aD Ze rfl) k4 (tq (bB (ts:=#[]) Zf (o:=y3.ptr) (n:=y3.len) (cap:=y3.cap) rfl) (tq (bN rfl rfl) (nt ?_)));refine am rfl (fun g5=>?_) (fun g5=>?_)
  ·replace H:=H.1 g5;refine au (aa (aj (aB (ai (qm rfl (qm rfl ?_))))));obtain ⟨a6,e7,H⟩:=H;refine tq (bG rfl e7) (tq (ay (off:=1) ZX dc rfl) ?_);obtain ⟨y8,k9,H⟩:=H;refine th (aD Ze rfl) k9 (qm rfl ?_);obtain ⟨a10,e11,H⟩:=H;refine tq (bf (s:=y8) Zf Zy rfl rfl e11) (tq (ay (off:=3) Z4 iO rfl) ?_);obtain ⟨y12,k13,H⟩:=H;refine th (aD ZBL rfl) k13 (te (av Tryz.call136 rfl (F.xay_ok H)) ?_);rintro _ h14 ⟨r15,rfl,H⟩;refine tq (bE rfl rfl) (qa rfl (bo (aI (aa (ai (qm rfl (tq (bE rfl rfl) (qa rfl (nt ?_)))))))));exact ah [(0,(.pointer x0)),(3,(.int .i64 (IntKind.wrap .i64 (x3+r15)))),(4,(.int .i64 (IntKind.wrap .i64 (x4+1))))] ⟨rfl,rfl,rfl,tv⟩ ⟨_,_,_,rfl,H⟩
  ·replace H:=H.2 g5;refine bC (aF (aF (bV (aa (sr (qm rfl (qa rfl (nt (al ?_)))))))));exact an rfl rfl ⟨_,rfl,H⟩
def F.xch.j1 (Q:H->Prop) (x0:Option Addr) (x6:Int) (x8:Sl) (h:H):Prop:=
  nn x0 fun a22 =>
  ldL h (a22.add 1) fun y24 =>
  ly y24 x6 (y24.len:Int) 4 fun s27 =>
  dA PP (Builtin.append_ #[137,137] 137 #[x8.enc,s27.enc]) h fun s29 h28 =>
  nn x0 fun a30 =>
  stH h28 (a30.add 1) [s29.enc] fun h32 =>
  Q h32
def F.xch (p0:Option Addr) (p1:ae) (p2:Sl) (h:H) (Q:H->Prop):Prop:=
  new h p1.cells.toArray cH fun a2 h1 =>
  ak h1 a2 fun y3 =>
  F.xcg p0 y3 h1 fun r6 r7 h5 =>
  nn p0 fun a8 =>
  ldL h5 (a8.add 1) fun y10 =>
  ly y10 0 r6 4 fun s13 =>
  dA PP (Builtin.append_ #[137,137] 137 #[(⟨none,0,0⟩:Sl).enc,s13.enc]) h5 fun s15 h14 =>
  ak h14 a2 fun y16 =>
  fv h14 (((⟨y16,p2⟩:ci).cells).toArray) wL 1 fun s19 h18 =>
  dA PP (Builtin.append_ #[137,137] 137 #[s15.enc,s19.enc]) h18 fun s21 h20 =>
  (r7=true ->
  F.xch.j1 Q p0 (IntKind.wrap .i64 (r6+1)) s21 h20) ∧
  (r7=false ->
  F.xch.j1 Q p0 r6 s21 h20)
theorem F.xch_ok {p0:Option Addr}{p1:ae}{p2:Sl}{h:H}{Q:H->Prop}(H:F.xch p0 p1 p2 h Q):Fn PP 137 ([(.pointer p0),(.agg p1.cells.toArray),p2.enc]:List Value).toArray h fun r h'=>r=.tuple #[]∧Q  h':=by
 unfold F.xch at H;refine aV Tryz.func137 Tryz.ntmps137 rfl rfl fun w0=>(az [(0,(.pointer p0)),(1,(.agg p1.cells.toArray)),(2,p2.enc)] ⟨rfl,rfl,rfl,tv⟩ (sr (te (cb (cs:=p1.cells.toArray) rfl rfl H) ?_)));rintro _ h1 ⟨a2,rfl,H⟩;refine nt (sr (qm rfl ?_));obtain ⟨y3,k4,H⟩:=H;refine th (aQ ZB ZA rfl rfl) k4 (te (av Tryz.call139 rfl (F.xcg_ok H)) ?_);rintro _ h5 ⟨r6,r7,rfl,H⟩;refine qm rfl (tq (bW rfl rfl) (tq (bW rfl rfl) (qa rfl (qa rfl (nt (sr (qa rfl (nt (sr ?_)))))))));refine qm rfl (qm rfl ?_);obtain ⟨a8,e9,H⟩:=H;refine tq (bG rfl e9) (tq (ay (off:=1) ZX dc rfl) ?_);obtain ⟨y10,k11,H⟩:=H;refine th (aD Ze rfl) k11 (qm rfl ?_);obtain ⟨s13,e12,H⟩:=H;refine tq (gU (s:=y10) none (some (.i64,r6)) Zf Zy rfl rfl rfl e12) (te (dV rfl H) ?_);rintro _ h14 ⟨s15,rfl,H⟩;refine qa rfl (nt (sr (qm rfl ?_)));obtain ⟨y16,k17,H⟩:=H;refine th (aQ ZB ZA rfl rfl) k17 (qm rfl (tq (bO rfl (qo y16 p2)) (te (co (cs:=((⟨y16,p2⟩:ci).cells).toArray) rfl rfl (qp (⟨y16,p2⟩:ci)) H) ?_)));rintro _ h18 ⟨s19,rfl,H⟩;refine te (dV rfl H) ?_;rintro _ h20 ⟨s21,rfl,H⟩;refine qa rfl (nt ?_);refine aG (fun L' h=>∃ (x0:Option Addr) (x6:Int) (x8:Sl),L'=[(0,(.pointer x0)),(6,(.int .i64 x6)),(8,x8.enc)]∧F.xch.j1 Q x0 x6 x8 h) ?_ ?_
 ·rintro L' h ⟨x0,x6,x8,rfl,H⟩;unfold F.xch.j1 at H;refine ai (qm rfl (qm rfl (qm rfl ?_)));obtain ⟨a22,e23,H⟩:=H;refine tq (bG rfl e23) (tq (ay (off:=1) ZX dc rfl) ?_);obtain ⟨y24,k25,H⟩:=H;refine th (aD Ze rfl) k25 (qm rfl ?_);obtain ⟨s27,e26,H⟩:=H;refine tq (gU (s:=y24) (some (.i64,x6)) none Zf Zy rfl rfl rfl e26) (te (dV rfl H) ?_);rintro _ h28 ⟨s29,rfl,H⟩;obtain ⟨a30,e31,H⟩:=H;refine tq (bG rfl e31) (tq (ay (off:=1) ZX dc rfl) (te (aK (vs:=[s29.enc]) Tryz.sizeOf137 rfl rfl rfl rfl (de rfl) H) ?_));rintro _ h32 ⟨rfl,H⟩;refine bo ?_;exact jk rfl ⟨rfl,H⟩
 ·refine sr (qm rfl (nt ?_));refine am rfl (fun g33=>?_) (fun g33=>?_)
  ·replace H:=H.1 g33;refine ai (qm rfl (tq (bE rfl rfl) (qa rfl (nt ?_))));exact ah [(0,(.pointer p0)),(6,(.int .i64 (IntKind.wrap .i64 (r6+1)))),(8,s21.enc)] ⟨rfl,rfl,rfl,tv⟩ ⟨_,_,_,rfl,H⟩
  ·replace H:=H.2 g33;refine au (aa ?_);exact ah [(0,(.pointer p0)),(6,(.int .i64 r6)),(8,s21.enc)] ⟨rfl,rfl,rfl,tv⟩ ⟨_,_,_,rfl,H⟩
def F.xdu (p0:Int) (h:H) (Q:Int->H->Prop):Prop:=
  ((decide (p0<0))=true ->
  Q (IntKind.wrap .u64 (0-(IntKind.wrap .u64 p0))) h) ∧
  ((decide (p0<0))=false ->
  Q (IntKind.wrap .u64 p0) h)
theorem F.xdu_ok {p0:Int}{h:H}{Q:Int->H->Prop}(H:F.xdu p0 h Q):Fn PP 165 ([(.int .i64 p0)]:List Value).toArray h fun r h'=>∃ r0,r=(.int .u64 r0)∧Q r0 h':=by
 unfold F.xdu at H;refine aV Tryz.func165 Tryz.ntmps165 rfl rfl fun w0=>(az [(0,(.int .i64 p0))] ⟨rfl,tv⟩ (sr (qa rfl (nt (aj (sr (qm rfl (tq (bN rfl rfl) (nt ?_)))))))));refine am rfl (fun g1=>?_) (fun g1=>?_)
 ·replace H:=H.1 g1;refine sr (qm rfl (tq (fN ZBA Zl rfl) (tq (cJ rfl rfl) (qa rfl (nt (al (aq ?_)))))));exact an rfl rfl ⟨_,rfl,H⟩
 ·replace H:=H.2 g1;refine au (aa (sr (qm rfl (tq (fN ZBA Zl rfl) (qa rfl (nt (al ?_)))))));exact an rfl rfl ⟨_,rfl,H⟩
def F.xax.j1 (Q:ad->H->Prop) (x4:Addr) (x14:Addr) (h:H):Prop:=
  aX h x14 fun y15 =>
  stH h x4 y15.cells fun h17 =>
  aX h17 x4 fun y18 =>
  Q y18 h17
def F.xax.j2 (Q:ad->H->Prop) (x4:Addr) (x14:Addr) (x67:Bool) (h:H):Prop:=
  (x67=true ->
  stH h (x14.add 0) [(.bool false)] fun h21 =>
  F.xax.j1 Q x4 x14 h21) ∧
  (x67=false ->
  F.xax.j1 Q x4 x14 h)
def F.xax (p0:Int) (p1:Int) (h:H) (Q:ad->H->Prop):Prop:=
  new h (((⟨false,0,0⟩:ad):ad).cells.toArray) eZ fun a2 h1 =>
  F.xdu p0 h1 fun r4 h3 =>
  F.xdu p1 h3 fun r6 h5 =>
  0<=(32:Int) ∧
  0<=(32:Int) ∧
  0<=(32:Int) ∧
  0<=(32:Int) ∧
  0<=(32:Int) ∧
  new h5 (((⟨false,0,0⟩:ad):ad).cells.toArray) eZ fun a13 h12 =>
  stH h12 a13 ((⟨(!((decide (p0<0)) == (decide (p1<0)))),(IntKind.wrap .u64 ((IntKind.wrap .u64 ((IntKind.wrap .u64 ((Int.fdiv r4 (2 ^ (min (32:Int).toNat (IntKind.bits .u64)):Int))*(Int.fdiv r6 (2 ^ (min (32:Int).toNat (IntKind.bits .u64)):Int))))+(Int.fdiv (IntKind.wrap .u64 ((IntKind.wrap .u64 ((Int.fdiv r4 (2 ^ (min (32:Int).toNat (IntKind.bits .u64)):Int))*(cj .and .u64 r6 4294967295)))+(Int.fdiv (IntKind.wrap .u64 ((cj .and .u64 r4 4294967295)*(cj .and .u64 r6 4294967295))) (2 ^ (min (32:Int).toNat (IntKind.bits .u64)):Int)))) (2 ^ (min (32:Int).toNat (IntKind.bits .u64)):Int))))+(Int.fdiv (IntKind.wrap .u64 ((IntKind.wrap .u64 ((cj .and .u64 r4 4294967295)*(Int.fdiv r6 (2 ^ (min (32:Int).toNat (IntKind.bits .u64)):Int))))+(cj .and .u64 (IntKind.wrap .u64 ((IntKind.wrap .u64 ((Int.fdiv r4 (2 ^ (min (32:Int).toNat (IntKind.bits .u64)):Int))*(cj .and .u64 r6 4294967295)))+(Int.fdiv (IntKind.wrap .u64 ((cj .and .u64 r4 4294967295)*(cj .and .u64 r6 4294967295))) (2 ^ (min (32:Int).toNat (IntKind.bits .u64)):Int)))) 4294967295))) (2 ^ (min (32:Int).toNat (IntKind.bits .u64)):Int)))),(IntKind.wrap .u64 (r4*r6))⟩:ad).cells) fun h14 =>
  ldI .u64 h14 (a13.add 1) fun y22 =>
  (((y22 == 0))=true ->
  ldI .u64 h14 (a13.add 2) fun y25 =>
  F.xax.j2 Q a2 a13 ((y25 == 0)) h14) ∧
  (((y22 == 0))=false ->
  F.xax.j2 Q a2 a13 false h14)
theorem F.xax_ok {p0:Int}{p1:Int}{h:H}{Q:ad->H->Prop}(H:F.xax p0 p1 h Q):Fn PP 148 ([(.int .i64 p0),(.int .i64 p1)]:List Value).toArray h fun r h'=>∃ r0,r=(.agg r0.cells.toArray)∧Q r0 h':=by
 unfold F.xax at H;refine aV Tryz.func148 Tryz.ntmps148 rfl rfl fun w0=>(az [(0,(.int .i64 p0)),(1,(.int .i64 p1))] ⟨rfl,rfl,tv⟩ (sr (te (bJ (cs:=((⟨false,0,0⟩:ad):ad).cells.toArray) Zz rfl H) ?_)));rintro _ h1 ⟨a2,rfl,H⟩;refine nt (sr (qm rfl (te (av Tryz.call165 rfl (F.xdu_ok H)) ?_)));rintro _ h3 ⟨r4,rfl,H⟩;refine qa rfl (nt (sr (qm rfl (te (av Tryz.call165 rfl (F.xdu_ok H)) ?_))));rintro _ h5 ⟨r6,rfl,H⟩;refine qa rfl (nt (sr (qm rfl ?_)));obtain ⟨e7,H⟩:=H;refine tq (li rfl rfl e7) (qa rfl (nt (sr (qm rfl (tq (tc rfl rfl) (qa rfl (nt (sr (qm rfl ?_)))))))));obtain ⟨e8,H⟩:=H;refine tq (li rfl rfl e8) (qa rfl (nt (sr (qm rfl (tq (tc rfl rfl) (qa rfl (nt (sr (qm rfl ?_)))))))));refine qm rfl (tq (i8 rfl rfl) (qa rfl (nt (sr (qm rfl (qm rfl (tq (i8 rfl rfl) (qm rfl ?_))))))));obtain ⟨e9,H⟩:=H;refine tq (li rfl rfl e9) (tq (bE rfl rfl) (qa rfl (nt (sr (qm rfl (qm rfl (tq (i8 rfl rfl) (qm rfl (tq (tc rfl rfl) (tq (bE rfl rfl) (qa rfl ?_)))))))))));refine nt (sr (qm rfl (tq (bN rfl rfl) (qm rfl (tq (bN rfl rfl) (tq (wQ ZBQ rfl rfl) (qm rfl (qm rfl (tq (i8 rfl rfl) (qm rfl ?_))))))))));obtain ⟨e10,H⟩:=H;refine tq (li rfl rfl e10) (tq (bE rfl rfl) (qm rfl ?_));obtain ⟨e11,H⟩:=H;refine tq (li rfl rfl e11) (tq (bE rfl rfl) (qm rfl (qm rfl (tq (i8 rfl rfl) (tq (bO rfl (fg (!((decide (p0<0)) == (decide (p1<0)))) (IntKind.wrap .u64 ((IntKind.wrap .u64 ((IntKind.wrap .u64 ((Int.fdiv r4 (2 ^ (min (32:Int).toNat (IntKind.bits .u64)):Int))*(Int.fdiv r6 (2 ^ (min (32:Int).toNat (IntKind.bits .u64)):Int))))+(Int.fdiv (IntKind.wrap .u64 ((IntKind.wrap .u64 ((Int.fdiv r4 (2 ^ (min (32:Int).toNat (IntKind.bits .u64)):Int))*(cj .and .u64 r6 4294967295)))+(Int.fdiv (IntKind.wrap .u64 ((cj .and .u64 r4 4294967295)*(cj .and .u64 r6 4294967295))) (2 ^ (min (32:Int).toNat (IntKind.bits .u64)):Int)))) (2 ^ (min (32:Int).toNat (IntKind.bits .u64)):Int))))+(Int.fdiv (IntKind.wrap .u64 ((IntKind.wrap .u64 ((cj .and .u64 r4 4294967295)*(Int.fdiv r6 (2 ^ (min (32:Int).toNat (IntKind.bits .u64)):Int))))+(cj .and .u64 (IntKind.wrap .u64 ((IntKind.wrap .u64 ((Int.fdiv r4 (2 ^ (min (32:Int).toNat (IntKind.bits .u64)):Int))*(cj .and .u64 r6 4294967295)))+(Int.fdiv (IntKind.wrap .u64 ((cj .and .u64 r4 4294967295)*(cj .and .u64 r6 4294967295))) (2 ^ (min (32:Int).toNat (IntKind.bits .u64)):Int)))) 4294967295))) (2 ^ (min (32:Int).toNat (IntKind.bits .u64)):Int)))) (IntKind.wrap .u64 (r4*r6)))) (te (bJ (cs:=((⟨false,0,0⟩:ad):ad).cells.toArray) Zz rfl H) ?_))))));rintro _ h12 ⟨a13,rfl,H⟩;refine te (aK (vs:=(⟨(!((decide (p0<0)) == (decide (p1<0)))),(IntKind.wrap .u64 ((IntKind.wrap .u64 ((IntKind.wrap .u64 ((Int.fdiv r4 (2 ^ (min (32:Int).toNat (IntKind.bits .u64)):Int))*(Int.fdiv r6 (2 ^ (min (32:Int).toNat (IntKind.bits .u64)):Int))))+(Int.fdiv (IntKind.wrap .u64 ((IntKind.wrap .u64 ((Int.fdiv r4 (2 ^ (min (32:Int).toNat (IntKind.bits .u64)):Int))*(cj .and .u64 r6 4294967295)))+(Int.fdiv (IntKind.wrap .u64 ((cj .and .u64 r4 4294967295)*(cj .and .u64 r6 4294967295))) (2 ^ (min (32:Int).toNat (IntKind.bits .u64)):Int)))) (2 ^ (min (32:Int).toNat (IntKind.bits .u64)):Int))))+(Int.fdiv (IntKind.wrap .u64 ((IntKind.wrap .u64 ((cj .and .u64 r4 4294967295)*(Int.fdiv r6 (2 ^ (min (32:Int).toNat (IntKind.bits .u64)):Int))))+(cj .and .u64 (IntKind.wrap .u64 ((IntKind.wrap .u64 ((Int.fdiv r4 (2 ^ (min (32:Int).toNat (IntKind.bits .u64)):Int))*(cj .and .u64 r6 4294967295)))+(Int.fdiv (IntKind.wrap .u64 ((cj .and .u64 r4 4294967295)*(cj .and .u64 r6 4294967295))) (2 ^ (min (32:Int).toNat (IntKind.bits .u64)):Int)))) 4294967295))) (2 ^ (min (32:Int).toNat (IntKind.bits .u64)):Int)))),(IntKind.wrap .u64 (r4*r6))⟩:ad).cells) ZJ rfl rfl ax rfl (by intro v hv;exact bi _ v hv) H) ?_;rintro _ h14 ⟨rfl,H⟩;refine nt ?_;refine aG (fun L' h=>∃ (x4:Addr) (x14:Addr),L'=[(4,(.pointer (some x4))),(14,(.pointer (some x14)))]∧F.xax.j1 Q x4 x14 h) ?_ ?_
 ·rintro L' h ⟨x4,x14,rfl,H⟩;unfold F.xax.j1 at H;refine sr ?_;obtain ⟨y15,k16,H⟩:=H;refine th (aQ Za ZJ rfl rfl) k16 (te (aK (vs:=y15.cells) ZJ rfl rfl ax rfl (by intro v hv;exact bi _ v hv) H) ?_);rintro _ h17 ⟨rfl,H⟩;refine nt (al ?_);obtain ⟨y18,k19,H⟩:=H;exact eY rfl (bY Za ZJ rfl rfl k19) ⟨_,rfl,H⟩
 ·refine aG (fun L' h=>∃ (x4:Addr) (x14:Addr) (x67:Bool),L'=[(4,(.pointer (some x4))),(14,(.pointer (some x14))),(67,(.bool x67))]∧F.xax.j2 Q x4 x14 x67 h) ?_ ?_
  ·rintro L' h ⟨x4,x14,x67,rfl,H⟩;unfold F.xax.j2 at H;refine am rfl (fun g20=>?_) (fun g20=>?_)
   ·replace H:=H.1 g20;refine ai (tq (ay (off:=0) ZS gX rfl) (te (aK (vs:=[(.bool false)]) Z2 rfl rfl rfl rfl (de rfl) H) ?_));rintro _ h21 ⟨rfl,H⟩;refine nt ?_;exact ah [(4,(.pointer (some x4))),(14,(.pointer (some x14)))] ⟨rfl,rfl,tv⟩ ⟨_,_,rfl,H⟩
   ·replace H:=H.2 g20;refine au (aa ?_);exact ah [(4,(.pointer (some x4))),(14,(.pointer (some x14)))] ⟨rfl,rfl,tv⟩ ⟨_,_,rfl,H⟩
  ·refine ai (tq (ay (off:=1) ZS gY rfl) ?_);obtain ⟨y22,k23,H⟩:=H;refine th (aD ZV rfl) k23 (tq (ct rfl rfl) (qm rfl ?_));refine aT (t:=63) rfl (fun g24=>?_) (fun g24=>?_)
   ·replace H:=H.1 g24;refine tq (ay (off:=2) ZS gl rfl) ?_;obtain ⟨y25,k26,H⟩:=H;refine th (aD ZV rfl) k26 (tq (ct rfl rfl) (tq (aL rfl rfl) (nt ?_)));exact ah [(4,(.pointer (some a2))),(14,(.pointer (some a13))),(67,(.bool ((y25 == 0))))] ⟨rfl,rfl,rfl,tv⟩ ⟨_,_,_,rfl,H⟩
   ·replace H:=H.2 g24;refine ts (ts (ts (tq (aH rfl rfl) (nt ?_))));exact ah [(4,(.pointer (some a2))),(14,(.pointer (some a13))),(67,(.bool false))] ⟨rfl,rfl,rfl,tv⟩ ⟨_,_,_,rfl,H⟩
def F.xbx (p0:Int) (h:H) (Q:ad->H->Prop):Prop:=
  new h (((⟨false,0,0⟩:ad):ad).cells.toArray) eZ fun a2 h1 =>
  F.xax p0 1 h1 fun r4 h3 =>
  stH h3 a2 r4.cells fun h5 =>
  aX h5 a2 fun y6 =>
  Q y6 h5
theorem F.xbx_ok {p0:Int}{h:H}{Q:ad->H->Prop}(H:F.xbx p0 h Q):Fn PP 147 ([(.int .i64 p0)]:List Value).toArray h fun r h'=>∃ r0,r=(.agg r0.cells.toArray)∧Q r0 h':=by
 unfold F.xbx at H;refine aV Tryz.func147 Tryz.ntmps147 rfl rfl fun w0=>(az [(0,(.int .i64 p0))] ⟨rfl,tv⟩ (sr (te (bJ (cs:=((⟨false,0,0⟩:ad):ad).cells.toArray) Zz rfl H) ?_)));rintro _ h1 ⟨a2,rfl,H⟩;refine nt (sr (qm rfl (te (av Tryz.call148 rfl (F.xax_ok H)) ?_)));rintro _ h3 ⟨r4,rfl,H⟩;refine te (aK (vs:=r4.cells) ZJ rfl rfl ax rfl (by intro v hv;exact bi _ v hv) H) ?_;rintro _ h5 ⟨rfl,H⟩;refine nt (al ?_);obtain ⟨y6,k7,H⟩:=H;exact eY rfl (bY Za ZJ rfl rfl k7) ⟨_,rfl,H⟩
def F.xds (p0:ad) (p1:ad) (h:H) (Q:Bool->H->Prop):Prop:=
  new h p0.cells.toArray eZ fun a2 h1 =>
  new h1 p1.cells.toArray eZ fun a4 h3 =>
  ldI .u64 h3 (a2.add 1) fun y5 =>
  ldI .u64 h3 (a4.add 1) fun y7 =>
  ((decide (y5 > y7))=true ->
  Q true h3) ∧
  ((decide (y5 > y7))=false ->
  ldI .u64 h3 (a2.add 1) fun y10 =>
  ldI .u64 h3 (a4.add 1) fun y12 =>
  (((y10 == y12))=true ->
  ldI .u64 h3 (a2.add 2) fun y15 =>
  ldI .u64 h3 (a4.add 2) fun y17 =>
  Q (decide (y15 > y17)) h3) ∧
  (((y10 == y12))=false ->
  Q false h3))
theorem F.xds_ok {p0:ad}{p1:ad}{h:H}{Q:Bool->H->Prop}(H:F.xds p0 p1 h Q):Fn PP 164 ([(.agg p0.cells.toArray),(.agg p1.cells.toArray)]:List Value).toArray h fun r h'=>∃ r0,r=(.bool r0)∧Q r0 h':=by
 unfold F.xds at H;refine aV Tryz.func164 Tryz.ntmps164 rfl rfl fun w0=>(az [(0,(.agg p0.cells.toArray)),(1,(.agg p1.cells.toArray))] ⟨rfl,rfl,tv⟩ (sr (te (cb (cs:=p0.cells.toArray) rfl rfl H) ?_)));rintro _ h1 ⟨a2,rfl,H⟩;refine te (cb (cs:=p1.cells.toArray) rfl rfl H) ?_;rintro _ h3 ⟨a4,rfl,H⟩;refine qa rfl (nt (sr (tq (ay (off:=1) ZS gY rfl) ?_)));obtain ⟨y5,k6,H⟩:=H;refine th (aD ZV rfl) k6 (tq (ay (off:=1) ZS gY rfl) ?_);obtain ⟨y7,k8,H⟩:=H;refine th (aD ZV rfl) k8 (tq (df rfl rfl) (qm rfl ?_));refine aT (t:=10) rfl (fun g9=>?_) (fun g9=>?_)
 ·replace H:=H.1 g9;refine ts (ts (ts (ts (ts (ts (ts (ts (ts (ts (ts (ts (tq (aL rfl rfl) (qa rfl ?_)))))))))))));refine nt (al ?_);exact an rfl rfl ⟨_,rfl,H⟩
 ·replace H:=H.2 g9;refine tq (ay (off:=1) ZS gY rfl) ?_;obtain ⟨y10,k11,H⟩:=H;refine th (aD ZV rfl) k11 (tq (ay (off:=1) ZS gY rfl) ?_);obtain ⟨y12,k13,H⟩:=H;refine th (aD ZV rfl) k13 (tq (ct rfl rfl) (qm rfl ?_));refine aT (t:=16) rfl (fun g14=>?_) (fun g14=>?_)
  ·replace H:=H.1 g14;refine tq (ay (off:=2) ZS gl rfl) ?_;obtain ⟨y15,k16,H⟩:=H;refine th (aD ZV rfl) k16 (tq (ay (off:=2) ZS gl rfl) ?_);obtain ⟨y17,k18,H⟩:=H;refine th (aD ZV rfl) k18 (tq (df rfl rfl) (tq (aL rfl rfl) (tq (aH rfl rfl) (qa rfl (nt (al ?_))))));exact an rfl rfl ⟨_,rfl,H⟩
  ·replace H:=H.2 g14;refine ts (ts (ts (ts (ts (tq (aH rfl rfl) (tq (aH rfl rfl) (qa rfl (nt (al ?_)))))))));exact an rfl rfl ⟨_,rfl,H⟩
def F.xec (p0:ad) (p1:ad) (h:H) (Q:Bool->H->Prop):Prop:=
  new h p0.cells.toArray eZ fun a2 h1 =>
  new h1 p1.cells.toArray eZ fun a4 h3 =>
  ldB h3 (a2.add 0) fun y5 =>
  ldB h3 (a4.add 0) fun y7 =>
  ((!(y5 == y7))=true ->
  ldB h3 (a2.add 0) fun y10 =>
  Q y10 h3) ∧
  ((!(y5 == y7))=false ->
  ldB h3 (a2.add 0) fun y12 =>
  (y12=true ->
  aX h3 a4 fun y15 =>
  aX h3 a2 fun y17 =>
  F.xds y15 y17 h3 fun r20 h19 =>
  Q (!r20) h19) ∧
  (y12=false ->
  aX h3 a2 fun y21 =>
  aX h3 a4 fun y23 =>
  F.xds y21 y23 h3 fun r26 h25 =>
  Q (!r26) h25))
theorem F.xec_ok {p0:ad}{p1:ad}{h:H}{Q:Bool->H->Prop}(H:F.xec p0 p1 h Q):Fn PP 149 ([(.agg p0.cells.toArray),(.agg p1.cells.toArray)]:List Value).toArray h fun r h'=>∃ r0,r=(.bool r0)∧Q r0 h':=by
 unfold F.xec at H;refine aV Tryz.func149 Tryz.ntmps149 rfl rfl fun w0=>(az [(0,(.agg p0.cells.toArray)),(1,(.agg p1.cells.toArray))] ⟨rfl,rfl,tv⟩ (sr (te (cb (cs:=p0.cells.toArray) rfl rfl H) ?_)));rintro _ h1 ⟨a2,rfl,H⟩;refine te (cb (cs:=p1.cells.toArray) rfl rfl H) ?_;rintro _ h3 ⟨a4,rfl,H⟩;refine qa rfl (nt (aj (sr (tq (ay (off:=0) ZS gX rfl) ?_))));obtain ⟨y5,k6,H⟩:=H;refine th (aD Zj rfl) k6 (tq (ay (off:=0) ZS gX rfl) ?_);obtain ⟨y7,k8,H⟩:=H;refine th (aD Zj rfl) k8 (tq (wQ ZBQ rfl rfl) (nt ?_));refine am rfl (fun g9=>?_) (fun g9=>?_)
 ·replace H:=H.1 g9;refine sr (tq (ay (off:=0) ZS gX rfl) ?_);obtain ⟨y10,k11,H⟩:=H;refine th (aD Zj rfl) k11 (qa rfl (nt (al (aq ?_))));exact an rfl rfl ⟨_,rfl,H⟩
 ·replace H:=H.2 g9;refine au (aa (aj (sr (tq (ay (off:=0) ZS gX rfl) ?_))));obtain ⟨y12,k13,H⟩:=H;refine th (aD Zj rfl) k13 (nt ?_);refine am rfl (fun g14=>?_) (fun g14=>?_)
  ·replace H:=H.1 g14;refine sr ?_;obtain ⟨y15,k16,H⟩:=H;refine th (aQ Za ZJ rfl rfl) k16 ?_;obtain ⟨y17,k18,H⟩:=H;refine th (aQ Za ZJ rfl rfl) k18 (te (av Tryz.call164 rfl (F.xds_ok H)) ?_);rintro _ h19 ⟨r20,rfl,H⟩;refine tq (eI rfl) (qa rfl (nt (al (aq ?_))));exact an rfl rfl ⟨_,rfl,H⟩
  ·replace H:=H.2 g14;refine au (aa (sr ?_));obtain ⟨y21,k22,H⟩:=H;refine th (aQ Za ZJ rfl rfl) k22 ?_;obtain ⟨y23,k24,H⟩:=H;refine th (aQ Za ZJ rfl rfl) k24 (te (av Tryz.call164 rfl (F.xds_ok H)) ?_);rintro _ h25 ⟨r26,rfl,H⟩;refine tq (eI rfl) (qa rfl (nt (al ?_)));exact an rfl rfl ⟨_,rfl,H⟩
def F.xaf.j1 (R:ad->ad->H->(ad->H->Prop)->Prop) (Q:ad->H->Prop) (x2:Addr) (x4:Addr) (x5:Int) (x6:Int) (h:H):Prop:=
  ldB h (x2.add 0) fun y20 =>
  (y20=true ->
  (((x6 != 0))=true ->
  stH h x4 ((⟨true,x6,x5⟩:ad).cells) fun h24 =>
  aX h24 x4 fun y25 =>
  Q y25 h24) ∧
  (((x6 != 0))=false ->
  stH h x4 ((⟨((x5 != 0)),x6,x5⟩:ad).cells) fun h27 =>
  aX h27 x4 fun y28 =>
  Q y28 h27)) ∧
  (y20=false ->
  stH h x4 ((⟨false,x6,x5⟩:ad).cells) fun h30 =>
  aX h30 x4 fun y31 =>
  Q y31 h30)
def F.xaf.j2 (R:ad->ad->H->(ad->H->Prop)->Prop) (Q:ad->H->Prop) (x2:Addr) (x4:Addr) (x7:Int) (x8:Int) (h:H):Prop:=
  ldB h (x2.add 0) fun y60 =>
  (y60=true ->
  (((x8 != 0))=true ->
  stH h x4 ((⟨true,x8,x7⟩:ad).cells) fun h64 =>
  aX h64 x4 fun y65 =>
  Q y65 h64) ∧
  (((x8 != 0))=false ->
  stH h x4 ((⟨((x7 != 0)),x8,x7⟩:ad).cells) fun h67 =>
  aX h67 x4 fun y68 =>
  Q y68 h67)) ∧
  (y60=false ->
  stH h x4 ((⟨false,x8,x7⟩:ad).cells) fun h70 =>
  aX h70 x4 fun y71 =>
  Q y71 h70)
def F.xaf.fu:Nat->ad->ad->H->(ad->H->Prop)->Prop
  | 0,_,_,_,_=>False
  | m0+1,p0,p1,h,Q =>
    new h p0.cells.toArray eZ fun a2 h1 =>
    new h1 p1.cells.toArray eZ fun a4 h3 =>
    new h3 (((⟨false,0,0⟩:ad):ad).cells.toArray) eZ fun a6 h5 =>
    ldB h5 (a2.add 0) fun y7 =>
    ldB h5 (a4.add 0) fun y9 =>
    ((y7 == y9)=true ->
    ldI .u64 h5 (a2.add 2) fun y12 =>
    ldI .u64 h5 (a4.add 2) fun y14 =>
    ldI .u64 h5 (a2.add 1) fun y16 =>
    ldI .u64 h5 (a4.add 1) fun y18 =>
    ldI .u64 h5 (a2.add 2) fun y33 =>
    ((decide ((IntKind.wrap .u64 (y12+y14))<y33))=true ->
    F.xaf.j1 (F.xaf.fu m0) Q a2 a6 (IntKind.wrap .u64 (y12+y14)) (IntKind.wrap .u64 ((IntKind.wrap .u64 (y16+y18))+1)) h5) ∧
    ((decide ((IntKind.wrap .u64 (y12+y14))<y33))=false ->
    F.xaf.j1 (F.xaf.fu m0) Q a2 a6 (IntKind.wrap .u64 (y12+y14)) (IntKind.wrap .u64 (y16+y18)) h5)) ∧
    ((y7 == y9)=false ->
    aX h5 a4 fun y36 =>
    aX h5 a2 fun y38 =>
    F.xds y36 y38 h5 fun r41 h40 =>
    (r41=true ->
    aX h40 a4 fun y43 =>
    aX h40 a2 fun y45 =>
    (F.xaf.fu m0) y43 y45 h40 fun r48 h47 =>
    stH h47 a6 r48.cells fun h49 =>
    aX h49 a6 fun y50 =>
    Q y50 h49) ∧
    (r41=false ->
    ldI .u64 h40 (a2.add 2) fun y52 =>
    ldI .u64 h40 (a4.add 2) fun y54 =>
    ldI .u64 h40 (a2.add 1) fun y56 =>
    ldI .u64 h40 (a4.add 1) fun y58 =>
    ldI .u64 h40 (a2.add 2) fun y73 =>
    ldI .u64 h40 (a4.add 2) fun y75 =>
    ((decide (y73<y75))=true ->
    F.xaf.j2 (F.xaf.fu m0) Q a2 a6 (IntKind.wrap .u64 (y52-y54)) (IntKind.wrap .u64 ((IntKind.wrap .u64 (y56-y58))-1)) h40) ∧
    ((decide (y73<y75))=false ->
    F.xaf.j2 (F.xaf.fu m0) Q a2 a6 (IntKind.wrap .u64 (y52-y54)) (IntKind.wrap .u64 (y56-y58)) h40)))
theorem F.xaf.fu_ok:∀ (m0:Nat){p0:ad}{p1:ad}{h:H}{Q:ad->H->Prop},F.xaf.fu m0 p0 p1 h Q->Fn PP 146 ([(.agg p0.cells.toArray),(.agg p1.cells.toArray)]:List Value).toArray h fun r h'=>∃ r0,r=(.agg r0.cells.toArray)∧Q r0 h':=by
  intro m0
  induction m0 with
  | zero=>intro p0 p1 h Q H;unfold F.xaf.fu at H;exact H.elim
  | succ m0 IH =>
  intro p0 p1 h Q H
  unfold F.xaf.fu at H
  refine aV Tryz.func146 Tryz.ntmps146 rfl rfl fun w0=>?_
  refine az [(0,(.agg p0.cells.toArray)),(1,(.agg p1.cells.toArray))] ⟨rfl,rfl,tv⟩ ?_
  refine aj ?_
  refine ai ?_
  refine te (cb (cs:=p0.cells.toArray) rfl rfl H) ?_
  rintro _ h1 ⟨a2,rfl,H⟩
  refine te (cb (cs:=p1.cells.toArray) rfl rfl H) ?_
  rintro _ h3 ⟨a4,rfl,H⟩
  refine te (bJ (cs:=((⟨false,0,0⟩:ad):ad).cells.toArray) Zz rfl H) ?_
  rintro _ h5 ⟨a6,rfl,H⟩
  refine bo ?_
  refine aa ?_
  refine aj ?_
  refine aj ?_
  refine ai ?_
  refine cm (ay (off:=0) ZS gX rfl) rfl rfl ?_
  obtain ⟨y7,k8,H⟩:=H
  refine th (aD Zj rfl) k8 ?_
  refine cm (ay (off:=0) ZS gX rfl) rfl rfl ?_
  obtain ⟨y9,k10,H⟩:=H
  refine th (aD Zj rfl) k10 ?_
  refine cm (A1 ZBQ rfl rfl) rfl rfl ?_
  refine bo ?_
  refine aa ?_
  refine am rfl (fun g11=>?_) (fun g11=>?_)
  · replace H:=H.1 g11
    refine aj ?_
    refine ai ?_
    refine cm (ay (off:=2) ZS gl rfl) rfl rfl ?_
    obtain ⟨y12,k13,H⟩:=H
    refine th (aD ZV rfl) k13 ?_
    refine cm (ay (off:=2) ZS gl rfl) rfl rfl ?_
    obtain ⟨y14,k15,H⟩:=H
    refine th (aD ZV rfl) k15 ?_
    refine cm (bE rfl rfl) rfl rfl ?_
    refine cm (bp rfl) rfl rfl ?_
    refine bo ?_
    refine aa ?_
    refine aj ?_
    refine ai ?_
    refine cm (ay (off:=1) ZS gY rfl) rfl rfl ?_
    obtain ⟨y16,k17,H⟩:=H
    refine th (aD ZV rfl) k17 ?_
    refine cm (ay (off:=1) ZS gY rfl) rfl rfl ?_
    obtain ⟨y18,k19,H⟩:=H
    refine th (aD ZV rfl) k19 ?_
    refine cm (bE rfl rfl) rfl rfl ?_
    refine cm (bp rfl) rfl rfl ?_
    refine bo ?_
    refine aa ?_
    refine aG (fun L' h=>∃ (x2:Addr) (x4:Addr) (x5:Int) (x6:Int),L'=[(2,(.pointer (some x2))),(4,(.pointer (some x4))),(5,(.int .u64 x5)),(6,(.int .u64 x6))]∧F.xaf.j1 (F.xaf.fu m0) Q x2 x4 x5 x6 h) ?_ ?_
    · rintro L' h ⟨x2,x4,x5,x6,rfl,H⟩
      unfold F.xaf.j1 at H
      refine aj ?_
      refine ai ?_
      refine cm (ay (off:=0) ZS gX rfl) rfl rfl ?_
      obtain ⟨y20,k21,H⟩:=H
      refine th (aD Zj rfl) k21 ?_
      refine cm (aw rfl) rfl rfl ?_
      refine aT (t:=32) rfl (fun g22=>?_) (fun g22=>?_)
      · replace H:=H.1 g22
        refine cm (aw rfl) rfl rfl ?_
        refine cm (ey rfl rfl) rfl rfl ?_
        refine cm (aw rfl) rfl rfl ?_
        refine aT (t:=35) rfl (fun g23=>?_) (fun g23=>?_)
        · replace H:=H.1 g23
          refine kE rfl rfl ?_
          refine kE rfl rfl ?_
          refine cm (aL rfl rfl) rfl rfl ?_
          refine cm (aL rfl rfl) rfl rfl ?_
          refine cm (aw rfl) rfl rfl ?_
          refine cm (aw rfl) rfl rfl ?_
          refine cm (bO rfl (fg true x6 x5)) rfl rfl ?_
          refine te (aK (vs:=(⟨true,x6,x5⟩:ad).cells) ZJ rfl rfl ax rfl (by intro v hv;exact bi _ v hv) H) ?_
          rintro _ h24 ⟨rfl,H⟩
          refine bo ?_
          refine aa ?_
          refine al ?_
          refine aq ?_
          obtain ⟨y25,k26,H⟩:=H
          exact eY rfl (bY Za ZJ rfl rfl k26) ⟨_,rfl,H⟩
        · replace H:=H.2 g23
          refine cm (aw rfl) rfl rfl ?_
          refine cm (ey rfl rfl) rfl rfl ?_
          refine cm (aH rfl rfl) rfl rfl ?_
          refine cm (aL rfl rfl) rfl rfl ?_
          refine cm (aw rfl) rfl rfl ?_
          refine cm (aw rfl) rfl rfl ?_
          refine cm (bO rfl (fg ((x5 != 0)) x6 x5)) rfl rfl ?_
          refine te (aK (vs:=(⟨((x5 != 0)),x6,x5⟩:ad).cells) ZJ rfl rfl ax rfl (by intro v hv;exact bi _ v hv) H) ?_
          rintro _ h27 ⟨rfl,H⟩
          refine bo ?_
          refine aa ?_
          refine al ?_
          refine aq ?_
          obtain ⟨y28,k29,H⟩:=H
          exact eY rfl (bY Za ZJ rfl rfl k29) ⟨_,rfl,H⟩
      · replace H:=H.2 g22
        refine kE rfl rfl ?_
        refine kE rfl rfl ?_
        refine kE rfl rfl ?_
        refine kE rfl rfl ?_
        refine kE rfl rfl ?_
        refine kE rfl rfl ?_
        refine cm (aH rfl rfl) rfl rfl ?_
        refine cm (aw rfl) rfl rfl ?_
        refine cm (aw rfl) rfl rfl ?_
        refine cm (bO rfl (fg false x6 x5)) rfl rfl ?_
        refine te (aK (vs:=(⟨false,x6,x5⟩:ad).cells) ZJ rfl rfl ax rfl (by intro v hv;exact bi _ v hv) H) ?_
        rintro _ h30 ⟨rfl,H⟩
        refine bo ?_
        refine aa ?_
        refine al ?_
        refine aq ?_
        obtain ⟨y31,k32,H⟩:=H
        exact eY rfl (bY Za ZJ rfl rfl k32) ⟨_,rfl,H⟩
    · refine aj ?_
      refine ai ?_
      refine cm (aw rfl) rfl rfl ?_
      refine cm (ay (off:=2) ZS gl rfl) rfl rfl ?_
      obtain ⟨y33,k34,H⟩:=H
      refine th (aD ZV rfl) k34 ?_
      refine cm (bN rfl rfl) rfl rfl ?_
      refine bo ?_
      refine aa ?_
      refine am rfl (fun g35=>?_) (fun g35=>?_)
      · replace H:=H.1 g35
        refine ai ?_
        refine cm (aw rfl) rfl rfl ?_
        refine cm (bE rfl rfl) rfl rfl ?_
        refine cm (bp rfl) rfl rfl ?_
        refine bo ?_
        refine aa ?_
        exact ah [(2,(.pointer (some a2))),(4,(.pointer (some a6))),(5,(.int .u64 (IntKind.wrap .u64 (y12+y14)))),(6,(.int .u64 (IntKind.wrap .u64 ((IntKind.wrap .u64 (y16+y18))+1))))] ⟨rfl,rfl,rfl,rfl,tv⟩ ⟨_,_,_,_,rfl,H⟩
      · replace H:=H.2 g35
        refine au ?_
        refine aa ?_
        exact ah [(2,(.pointer (some a2))),(4,(.pointer (some a6))),(5,(.int .u64 (IntKind.wrap .u64 (y12+y14)))),(6,(.int .u64 (IntKind.wrap .u64 (y16+y18))))] ⟨rfl,rfl,rfl,rfl,tv⟩ ⟨_,_,_,_,rfl,H⟩
  · replace H:=H.2 g11
    refine au ?_
    refine aa ?_
    refine aj ?_
    refine aj ?_
    refine ai ?_
    obtain ⟨y36,k37,H⟩:=H
    refine th (aQ Za ZJ rfl rfl) k37 ?_
    obtain ⟨y38,k39,H⟩:=H
    refine th (aQ Za ZJ rfl rfl) k39 ?_
    refine te (av Tryz.call164 rfl (F.xds_ok H)) ?_
    rintro _ h40 ⟨r41,rfl,H⟩
    refine bo ?_
    refine aa ?_
    refine am rfl (fun g42=>?_) (fun g42=>?_)
    · replace H:=H.1 g42
      refine aj ?_
      refine ai ?_
      obtain ⟨y43,k44,H⟩:=H
      refine th (aQ Za ZJ rfl rfl) k44 ?_
      obtain ⟨y45,k46,H⟩:=H
      refine th (aQ Za ZJ rfl rfl) k46 ?_
      refine te (av Z6 rfl (IH H)) ?_
      rintro _ h47 ⟨r48,rfl,H⟩
      refine te (aK (vs:=r48.cells) ZJ rfl rfl ax rfl (by intro v hv;exact bi _ v hv) H) ?_
      rintro _ h49 ⟨rfl,H⟩
      refine bo ?_
      refine aa ?_
      refine al ?_
      refine aq ?_
      obtain ⟨y50,k51,H⟩:=H
      exact eY rfl (bY Za ZJ rfl rfl k51) ⟨_,rfl,H⟩
    · replace H:=H.2 g42
      refine au ?_
      refine aa ?_
      refine aj ?_
      refine ai ?_
      refine cm (ay (off:=2) ZS gl rfl) rfl rfl ?_
      obtain ⟨y52,k53,H⟩:=H
      refine th (aD ZV rfl) k53 ?_
      refine cm (ay (off:=2) ZS gl rfl) rfl rfl ?_
      obtain ⟨y54,k55,H⟩:=H
      refine th (aD ZV rfl) k55 ?_
      refine cm (cJ rfl rfl) rfl rfl ?_
      refine cm (bp rfl) rfl rfl ?_
      refine bo ?_
      refine aa ?_
      refine aj ?_
      refine ai ?_
      refine cm (ay (off:=1) ZS gY rfl) rfl rfl ?_
      obtain ⟨y56,k57,H⟩:=H
      refine th (aD ZV rfl) k57 ?_
      refine cm (ay (off:=1) ZS gY rfl) rfl rfl ?_
      obtain ⟨y58,k59,H⟩:=H
      refine th (aD ZV rfl) k59 ?_
      refine cm (cJ rfl rfl) rfl rfl ?_
      refine cm (bp rfl) rfl rfl ?_
      refine bo ?_
      refine aa ?_
      refine aG (fun L' h=>∃ (x2:Addr) (x4:Addr) (x7:Int) (x8:Int),L'=[(2,(.pointer (some x2))),(4,(.pointer (some x4))),(7,(.int .u64 x7)),(8,(.int .u64 x8))]∧F.xaf.j2 (F.xaf.fu m0) Q x2 x4 x7 x8 h) ?_ ?_
      · rintro L' h ⟨x2,x4,x7,x8,rfl,H⟩
        unfold F.xaf.j2 at H
        refine aj ?_
        refine ai ?_
        refine cm (ay (off:=0) ZS gX rfl) rfl rfl ?_
        obtain ⟨y60,k61,H⟩:=H
        refine th (aD Zj rfl) k61 ?_
        refine cm (aw rfl) rfl rfl ?_
        refine aT (t:=68) rfl (fun g62=>?_) (fun g62=>?_)
        · replace H:=H.1 g62
          refine cm (aw rfl) rfl rfl ?_
          refine cm (ey rfl rfl) rfl rfl ?_
          refine cm (aw rfl) rfl rfl ?_
          refine aT (t:=71) rfl (fun g63=>?_) (fun g63=>?_)
          · replace H:=H.1 g63
            refine kE rfl rfl ?_
            refine kE rfl rfl ?_
            refine cm (aL rfl rfl) rfl rfl ?_
            refine cm (aL rfl rfl) rfl rfl ?_
            refine cm (aw rfl) rfl rfl ?_
            refine cm (aw rfl) rfl rfl ?_
            refine cm (bO rfl (fg true x8 x7)) rfl rfl ?_
            refine te (aK (vs:=(⟨true,x8,x7⟩:ad).cells) ZJ rfl rfl ax rfl (by intro v hv;exact bi _ v hv) H) ?_
            rintro _ h64 ⟨rfl,H⟩
            refine bo ?_
            refine aa ?_
            refine al ?_
            obtain ⟨y65,k66,H⟩:=H
            exact eY rfl (bY Za ZJ rfl rfl k66) ⟨_,rfl,H⟩
          · replace H:=H.2 g63
            refine cm (aw rfl) rfl rfl ?_
            refine cm (ey rfl rfl) rfl rfl ?_
            refine cm (aH rfl rfl) rfl rfl ?_
            refine cm (aL rfl rfl) rfl rfl ?_
            refine cm (aw rfl) rfl rfl ?_
            refine cm (aw rfl) rfl rfl ?_
            refine cm (bO rfl (fg ((x7 != 0)) x8 x7)) rfl rfl ?_
            refine te (aK (vs:=(⟨((x7 != 0)),x8,x7⟩:ad).cells) ZJ rfl rfl ax rfl (by intro v hv;exact bi _ v hv) H) ?_
            rintro _ h67 ⟨rfl,H⟩
            refine bo ?_
            refine aa ?_
            refine al ?_
            obtain ⟨y68,k69,H⟩:=H
            exact eY rfl (bY Za ZJ rfl rfl k69) ⟨_,rfl,H⟩
        · replace H:=H.2 g62
          refine kE rfl rfl ?_
          refine kE rfl rfl ?_
          refine kE rfl rfl ?_
          refine kE rfl rfl ?_
          refine kE rfl rfl ?_
          refine kE rfl rfl ?_
          refine cm (aH rfl rfl) rfl rfl ?_
          refine cm (aw rfl) rfl rfl ?_
          refine cm (aw rfl) rfl rfl ?_
          refine cm (bO rfl (fg false x8 x7)) rfl rfl ?_
          refine te (aK (vs:=(⟨false,x8,x7⟩:ad).cells) ZJ rfl rfl ax rfl (by intro v hv;exact bi _ v hv) H) ?_
          rintro _ h70 ⟨rfl,H⟩
          refine bo ?_
          refine aa ?_
          refine al ?_
          obtain ⟨y71,k72,H⟩:=H
          exact eY rfl (bY Za ZJ rfl rfl k72) ⟨_,rfl,H⟩
      · refine aj ?_
        refine ai ?_
        refine cm (ay (off:=2) ZS gl rfl) rfl rfl ?_
        obtain ⟨y73,k74,H⟩:=H
        refine th (aD ZV rfl) k74 ?_
        refine cm (ay (off:=2) ZS gl rfl) rfl rfl ?_
        obtain ⟨y75,k76,H⟩:=H
        refine th (aD ZV rfl) k76 ?_
        refine cm (bN rfl rfl) rfl rfl ?_
        refine bo ?_
        refine aa ?_
        refine am rfl (fun g77=>?_) (fun g77=>?_)
        · replace H:=H.1 g77
          refine ai ?_
          refine cm (aw rfl) rfl rfl ?_
          refine cm (cJ rfl rfl) rfl rfl ?_
          refine cm (bp rfl) rfl rfl ?_
          refine bo ?_
          refine aa ?_
          exact ah [(2,(.pointer (some a2))),(4,(.pointer (some a6))),(7,(.int .u64 (IntKind.wrap .u64 (y52-y54)))),(8,(.int .u64 (IntKind.wrap .u64 ((IntKind.wrap .u64 (y56-y58))-1))))] ⟨rfl,rfl,rfl,rfl,tv⟩ ⟨_,_,_,_,rfl,H⟩
        · replace H:=H.2 g77
          refine au ?_
          refine aa ?_
          exact ah [(2,(.pointer (some a2))),(4,(.pointer (some a6))),(7,(.int .u64 (IntKind.wrap .u64 (y52-y54)))),(8,(.int .u64 (IntKind.wrap .u64 (y56-y58))))] ⟨rfl,rfl,rfl,rfl,tv⟩ ⟨_,_,_,_,rfl,H⟩
def F.xaf (p0:ad) (p1:ad) (h:H) (Q:ad->H->Prop):Prop:=∃ m0,F.xaf.fu m0 p0 p1 h Q
theorem F.xaf_ok {p0:ad}{p1:ad}{h:H}{Q:ad->H->Prop}(H:F.xaf p0 p1 h Q):Fn PP 146 ([(.agg p0.cells.toArray),(.agg p1.cells.toArray)]:List Value).toArray h fun r h'=>∃ r0,r=(.agg r0.cells.toArray)∧Q r0 h':=by
 obtain ⟨m0,H⟩:=H;exact F.xaf.fu_ok m0 H
def F.xaq.j3 (Q:Bool->H->Prop) (x1:Addr) (x4:Addr) (x5:Addr) (h:H):Prop:=
  aX h x4 fun y25 =>
  ldI .i64 h (x1.add 1) fun y27 =>
  F.xbx y27 h fun r30 h29 =>
  Cells h29 x4 y25.cells ∧
  F.xec y25 r30 h29 fun r33 h32 =>
  (r33=true ->
  ldI .i64 h32 (x1.add 1) fun y35 =>
  aX h32 x5 fun y37 =>
  F.xbx y35 h32 fun r40 h39 =>
  Cells h39 x5 y37.cells ∧
  F.xec r40 y37 h39 fun r43 h42 =>
  Q r43 h42) ∧
  (r33=false ->
  Q false h32)
def F.xaq.j2 (Q:Bool->H->Prop) (x1:Addr) (x3:Addr) (x4:Addr) (h:H):Prop:=
  aX h x3 fun y44 =>
  ldI .i64 h (x1.add 0) fun y46 =>
  ldI .i64 h (x1.add 3) fun y48 =>
  (F.xax (IntKind.wrap .i64 (y46-2)) y48 h fun r51 h50 =>
  Cells h50 x3 y44.cells ∧
  (F.xaf y44 r51 h50 fun r54 h53 =>
  new h53 (((⟨false,0,0⟩:ad):ad).cells.toArray) eZ fun a56 h55 =>
  stH h55 a56 r54.cells fun h57 =>
  F.xaq.j3 Q x1 x4 a56 h57) ∧
  (new h50 (((⟨false,0,0⟩:ad):ad).cells.toArray) eZ fun a59 h58 =>
  Cells h58 x3 y44.cells ∧
  F.xaf y44 r51 h58 fun r62 h61 =>
  stH h61 a59 r62.cells fun h63 =>
  F.xaq.j3 Q x1 x4 a59 h63)) ∧
  (new h (((⟨false,0,0⟩:ad):ad).cells.toArray) eZ fun a65 h64 =>
  aA h64 (x1.add 3)=some (.int .i64 y48) ∧
  aA h64 (x1.add 0)=some (.int .i64 y46) ∧
  Cells h64 x3 y44.cells ∧
  F.xax (IntKind.wrap .i64 (y46-2)) y48 h64 fun r70 h69 =>
  Cells h69 x3 y44.cells ∧
  F.xaf y44 r70 h69 fun r73 h72 =>
  stH h72 a65 r73.cells fun h74 =>
  F.xaq.j3 Q x1 x4 a65 h74)
def F.xaq.j1 (Q:Bool->H->Prop) (x1:Addr) (x3:Addr) (h:H):Prop:=
  aX h x3 fun y75 =>
  ldI .i64 h (x1.add 0) fun y77 =>
  ldI .i64 h (x1.add 2) fun y79 =>
  (F.xax (IntKind.wrap .i64 (y77-2)) y79 h fun r82 h81 =>
  Cells h81 x3 y75.cells ∧
  (F.xaf y75 r82 h81 fun r85 h84 =>
  new h84 (((⟨false,0,0⟩:ad):ad).cells.toArray) eZ fun a87 h86 =>
  stH h86 a87 r85.cells fun h88 =>
  F.xaq.j2 Q x1 x3 a87 h88) ∧
  (new h81 (((⟨false,0,0⟩:ad):ad).cells.toArray) eZ fun a90 h89 =>
  Cells h89 x3 y75.cells ∧
  F.xaf y75 r82 h89 fun r93 h92 =>
  stH h92 a90 r93.cells fun h94 =>
  F.xaq.j2 Q x1 x3 a90 h94)) ∧
  (new h (((⟨false,0,0⟩:ad):ad).cells.toArray) eZ fun a96 h95 =>
  aA h95 (x1.add 2)=some (.int .i64 y79) ∧
  aA h95 (x1.add 0)=some (.int .i64 y77) ∧
  Cells h95 x3 y75.cells ∧
  F.xax (IntKind.wrap .i64 (y77-2)) y79 h95 fun r101 h100 =>
  Cells h100 x3 y75.cells ∧
  F.xaf y75 r101 h100 fun r104 h103 =>
  stH h103 a96 r104.cells fun h105 =>
  F.xaq.j2 Q x1 x3 a96 h105)
def F.xaq (p0:ag) (h:H) (Q:Bool->H->Prop):Prop:=
  new h p0.cells.toArray gz fun a2 h1 =>
  ldI .i64 h1 (a2.add 0) fun y3 =>
  ((decide (y3<=0))=true ->
  bh h1 a2 fun y6 =>
  Q ((y6.Count == (⟨0,0,0,0⟩:ag).Count) && ((y6.Sum == (⟨0,0,0,0⟩:ag).Sum) && ((y6.Min == (⟨0,0,0,0⟩:ag).Min) && ((y6.Max == (⟨0,0,0,0⟩:ag).Max) && true)))) h1) ∧
  ((decide (y3<=0))=false ->
  ldI .i64 h1 (a2.add 0) fun y8 =>
  (((y8 == 1))=true ->
  ldI .i64 h1 (a2.add 1) fun y11 =>
  ldI .i64 h1 (a2.add 2) fun y13 =>
  (((y11 == y13))=true ->
  ldI .i64 h1 (a2.add 1) fun y16 =>
  ldI .i64 h1 (a2.add 3) fun y18 =>
  Q ((y16 == y18)) h1) ∧
  (((y11 == y13))=false ->
  Q false h1)) ∧
  (((y8 == 1))=false ->
  ldI .i64 h1 (a2.add 2) fun y20 =>
  ldI .i64 h1 (a2.add 3) fun y22 =>
  ((decide (y20 > y22))=true ->
  Q false h1) ∧
  ((decide (y20 > y22))=false ->
  ldI .i64 h1 (a2.add 2) fun y106 =>
  ldI .i64 h1 (a2.add 3) fun y108 =>
  (F.xbx y106 h1 fun r111 h110 =>
  aA h110 (a2.add 3)=some (.int .i64 y108) ∧
  (F.xbx y108 h110 fun r114 h113 =>
  (F.xaf r111 r114 h113 fun r116 h115 =>
  new h115 (((⟨false,0,0⟩:ad):ad).cells.toArray) eZ fun a118 h117 =>
  stH h117 a118 r116.cells fun h119 =>
  F.xaq.j1 Q a2 a118 h119) ∧
  (new h113 (((⟨false,0,0⟩:ad):ad).cells.toArray) eZ fun a121 h120 =>
  F.xaf r111 r114 h120 fun r123 h122 =>
  stH h122 a121 r123.cells fun h124 =>
  F.xaq.j1 Q a2 a121 h124)) ∧
  (new h110 (((⟨false,0,0⟩:ad):ad).cells.toArray) eZ fun a126 h125 =>
  aA h125 (a2.add 3)=some (.int .i64 y108) ∧
  F.xbx y108 h125 fun r129 h128 =>
  F.xaf r111 r129 h128 fun r131 h130 =>
  stH h130 a126 r131.cells fun h132 =>
  F.xaq.j1 Q a2 a126 h132)) ∧
  (new h1 (((⟨false,0,0⟩:ad):ad).cells.toArray) eZ fun a134 h133 =>
  aA h133 (a2.add 3)=some (.int .i64 y108) ∧
  aA h133 (a2.add 2)=some (.int .i64 y106) ∧
  F.xbx y106 h133 fun r138 h137 =>
  aA h137 (a2.add 3)=some (.int .i64 y108) ∧
  F.xbx y108 h137 fun r141 h140 =>
  F.xaf r138 r141 h140 fun r143 h142 =>
  stH h142 a134 r143.cells fun h144 =>
  F.xaq.j1 Q a2 a134 h144))))
theorem F.xaq_ok {p0:ag}{h:H}{Q:Bool->H->Prop}(H:F.xaq p0 h Q):Fn PP 132 ([(.agg p0.cells.toArray)]:List Value).toArray h fun r h'=>∃ r0,r=(.bool r0)∧Q r0 h':=by
 unfold F.xaq at H;refine aV Tryz.func132 Tryz.ntmps132 rfl rfl fun w0=>(az [(0,(.agg p0.cells.toArray))] ⟨rfl,tv⟩ (sr (te (cb (cs:=p0.cells.toArray) rfl rfl H) ?_)));rintro _ h1 ⟨a2,rfl,H⟩;refine qa rfl (nt (aj (sr (tq (ay (off:=0) ZM iI rfl) ?_))));obtain ⟨y3,k4,H⟩:=H;refine th (aD ZE rfl) k4 (tq (lh rfl rfl) (nt ?_));refine am rfl (fun g5=>?_) (fun g5=>?_)
 ·replace H:=H.1 g5;refine sr ?_;obtain ⟨y6,k7,H⟩:=H;refine th (aQ ZK ZD rfl rfl) k7 (tq (bO rfl (od )) (tq (kX (b:=((y6.Count == (⟨0,0,0,0⟩:ag).Count) && ((y6.Sum == (⟨0,0,0,0⟩:ag).Sum) && ((y6.Min == (⟨0,0,0,0⟩:ag).Min) && ((y6.Max == (⟨0,0,0,0⟩:ag).Max) && true))))) tE (fun w=>ns y6 (⟨0,0,0,0⟩:ag) 9998 w) rfl rfl) (qa rfl (nt (al (aq ?_))))));exact an rfl rfl ⟨_,rfl,H⟩
 ·replace H:=H.2 g5;refine au (aa (aj (sr (tq (ay (off:=0) ZM iI rfl) ?_))));obtain ⟨y8,k9,H⟩:=H;refine th (aD ZE rfl) k9 (tq (ct rfl rfl) (nt ?_));refine am rfl (fun g10=>?_) (fun g10=>?_)
  ·replace H:=H.1 g10;refine sr (tq (ay (off:=1) ZM jL rfl) ?_);obtain ⟨y11,k12,H⟩:=H;refine th (aD ZE rfl) k12 (tq (ay (off:=2) ZM jM rfl) ?_);obtain ⟨y13,k14,H⟩:=H;refine th (aD ZE rfl) k14 (tq (ct rfl rfl) (qm rfl ?_));refine aT (t:=20) rfl (fun g15=>?_) (fun g15=>?_)
   ·replace H:=H.1 g15;refine tq (ay (off:=1) ZM jL rfl) ?_;obtain ⟨y16,k17,H⟩:=H;refine th (aD ZE rfl) k17 (tq (ay (off:=3) ZM jN rfl) ?_);obtain ⟨y18,k19,H⟩:=H;refine th (aD ZE rfl) k19 (tq (ct rfl rfl) (tq (aL rfl rfl) (qa rfl (nt (al (aq ?_))))));exact an rfl rfl ⟨_,rfl,H⟩
   ·replace H:=H.2 g15;refine ts (ts (ts (ts (ts (tq (aH rfl rfl) (qa rfl (nt (al (aq ?_)))))))));exact an rfl rfl ⟨_,rfl,H⟩
  ·replace H:=H.2 g10;refine au (aa (aj (sr (tq (ay (off:=2) ZM jM rfl) ?_))));obtain ⟨y20,k21,H⟩:=H;refine th (aD ZE rfl) k21 (tq (ay (off:=3) ZM jN rfl) ?_);obtain ⟨y22,k23,H⟩:=H;refine th (aD ZE rfl) k23 (tq (df rfl rfl) (nt ?_));refine am rfl (fun g24=>?_) (fun g24=>?_)
   ·replace H:=H.1 g24;refine sr (qa rfl (nt (al (aq ?_))));exact an rfl rfl ⟨_,rfl,H⟩
   ·replace H:=H.2 g24;refine au (aa ?_);refine aG (fun L' h=>∃ (x1:Addr) (x3:Addr),L'=[(1,(.pointer (some x1))),(3,(.pointer (some x3)))]∧F.xaq.j1 Q x1 x3 h) ?_ ?_
    ·rintro L' h ⟨x1,x3,rfl,H⟩;unfold F.xaq.j1 at H;refine aG (fun L' h=>∃ (x1:Addr) (x3:Addr) (x4:Addr),L'=[(1,(.pointer (some x1))),(3,(.pointer (some x3))),(4,(.pointer (some x4)))]∧F.xaq.j2 Q x1 x3 x4 h) ?_ ?_
     ·rintro L' h ⟨x1,x3,x4,rfl,H⟩;unfold F.xaq.j2 at H;refine aG (fun L' h=>∃ (x1:Addr) (x4:Addr) (x5:Addr),L'=[(1,(.pointer (some x1))),(4,(.pointer (some x4))),(5,(.pointer (some x5)))]∧F.xaq.j3 Q x1 x4 x5 h) ?_ ?_
      ·rintro L' h ⟨x1,x4,x5,rfl,H⟩;unfold F.xaq.j3 at H;refine aj (bv mixed [0,0,2,6,15,31,63,127,255,63,1023,2047,4095] (by kernel_rfl) ?_);obtain ⟨y25,k26,H⟩:=H;refine gh 0 1 rfl (aQ Za ZJ rfl rfl) k26 (gq 1 3 rfl (ay (off:=1) ZM jL rfl) ?_);obtain ⟨y27,k28,H⟩:=H;refine gh 2 7 rfl (aD ZE rfl) k28 (g_e 3 15 [(0,fun h=>Cells h x4 y25.cells)] (by kernel_rfl) rfl (by kernel_rfl) (av Tryz.call147 rfl (F.xbx_ok H)) rfl rfl ?_);rintro _ h29 ⟨r30,rfl,H⟩;obtain ⟨k31,H⟩:=H;refine ⟨And.intro k31 trivial,?_⟩;refine g_e 4 31 [] (by kernel_rfl) rfl (by kernel_rfl) (av Tryz.call149 rfl (F.xec_ok H)) rfl rfl ?_;rintro _ h32 ⟨r33,rfl,H⟩;refine ⟨trivial,?_⟩;refine gq 5 63 rfl (aw rfl) ?_;refine eO (t:=60) rfl (fun g34=>?_) (fun g34=>?_)
       ·replace H:=H.1 g34;refine gq 6 127 rfl (ay (off:=1) ZM jL rfl) ?_;obtain ⟨y35,k36,H⟩:=H;refine gh 7 255 rfl (aD ZE rfl) k36 ?_;obtain ⟨y37,k38,H⟩:=H;refine gh 9 767 rfl (aQ Za ZJ rfl rfl) k38 (g_e 8 1023 [(9,fun h=>Cells h x5 y37.cells)] (by kernel_rfl) rfl (by kernel_rfl) (av Tryz.call147 rfl (F.xbx_ok H)) rfl rfl ?_);rintro _ h39 ⟨r40,rfl,H⟩;obtain ⟨k41,H⟩:=H;refine ⟨And.intro k41 trivial,?_⟩;refine g_e 10 2047 [] (by kernel_rfl) rfl (by kernel_rfl) (av Tryz.call149 rfl (F.xec_ok H)) rfl rfl ?_;rintro _ h42 ⟨r43,rfl,H⟩;refine ⟨trivial,?_⟩;refine gq 11 4095 rfl (aL rfl rfl) (gq 12 8191 rfl (bp rfl) (g_d (by kernel_rfl) (aa (al ?_))));exact an rfl rfl ⟨_,rfl,H⟩
       ·replace H:=H.2 g34;refine gs 6 127 rfl (gs 7 255 rfl (gs 8 511 rfl (gs 9 1023 rfl (gs 10 2047 rfl (gq 11 4095 rfl (aH rfl rfl) (gq 12 8191 rfl (bp rfl) (g_d (by kernel_rfl) (aa (al ?_)))))))));exact an rfl rfl ⟨_,rfl,H⟩
      ·refine bv mixed [0,0,2,6,0,16,62,127,0,511] (by kernel_rfl) ?_;obtain ⟨y44,k45,H⟩:=H;refine gh 0 1 rfl (aQ Za ZJ rfl rfl) k45 (gq 1 3 rfl (ay (off:=0) ZM iI rfl) ?_);obtain ⟨y46,k47,H⟩:=H;refine gh 2 7 rfl (aD ZE rfl) k47 (gq 3 15 rfl (cJ rfl rfl) (gq 4 31 rfl (ay (off:=3) ZM jN rfl) ?_));obtain ⟨y48,k49,H⟩:=H;refine gh 5 63 rfl (aD ZE rfl) k49 ?_;refine rF 6 127 8 319 [(0,fun h=>Cells h x3 y44.cells)] [(5,fun h=>aA h (x1.add 3)=some (.int .i64 y48)),(2,fun h=>aA h (x1.add 0)=some (.int .i64 y46)),(0,fun h=>Cells h x3 y44.cells)] (by kernel_rfl) (by kernel_rfl) (by kernel_rfl) (by kernel_rfl) (by kernel_rfl) rfl rfl rfl rfl rfl rfl ?_ ?_
       ·replace H:=H.1;refine ⟨_,(av Tryz.call148 rfl (F.xax_ok H)),?_⟩;rintro _ h50 ⟨r51,rfl,H⟩;obtain ⟨k52,H⟩:=H;refine ⟨And.intro k52 trivial,?_⟩;refine rF 7 255 8 383 [] [(0,fun h=>Cells h x3 y44.cells)] (by kernel_rfl) (by kernel_rfl) (by kernel_rfl) (by kernel_rfl) (by kernel_rfl) rfl rfl rfl rfl rfl rfl ?_ ?_
        ·replace H:=H.1;refine ⟨_,(av Z6 rfl (F.xaf_ok H)),?_⟩;rintro _ h53 ⟨r54,rfl,H⟩;refine ⟨trivial,?_⟩;refine g_e 8 511 [] (by kernel_rfl) rfl (by kernel_rfl) (bJ (cs:=((⟨false,0,0⟩:ad):ad).cells.toArray) Zz rfl H) rfl rfl ?_;rintro _ h55 ⟨a56,rfl,H⟩;refine ⟨trivial,?_⟩;refine g_e 9 1023 [] (by kernel_rfl) rfl (by kernel_rfl) (aK (vs:=r54.cells) ZJ rfl rfl ax rfl (by intro v hv;exact bi _ v hv) H) rfl rfl ?_;rintro _ h57 ⟨rfl,H⟩;refine ⟨trivial,?_⟩;refine g_d (by kernel_rfl) (aa ?_);exact ah [(1,(.pointer (some x1))),(4,(.pointer (some x4))),(5,(.pointer (some a56)))] ⟨rfl,rfl,rfl,tv⟩ ⟨_,_,_,rfl,H⟩
        ·replace H:=H.2;refine ⟨_,(bJ (cs:=((⟨false,0,0⟩:ad):ad).cells.toArray) Zz rfl H),?_⟩;rintro _ h58 ⟨a59,rfl,H⟩;obtain ⟨k60,H⟩:=H;refine ⟨And.intro k60 trivial,?_⟩;refine g_e 7 511 [] (by kernel_rfl) rfl (by kernel_rfl) (av Z6 rfl (F.xaf_ok H)) rfl rfl ?_;rintro _ h61 ⟨r62,rfl,H⟩;refine ⟨trivial,?_⟩;refine g_e 9 1023 [] (by kernel_rfl) rfl (by kernel_rfl) (aK (vs:=r62.cells) ZJ rfl rfl ax rfl (by intro v hv;exact bi _ v hv) H) rfl rfl ?_;rintro _ h63 ⟨rfl,H⟩;refine ⟨trivial,?_⟩;refine g_d (by kernel_rfl) (aa ?_);exact ah [(1,(.pointer (some x1))),(4,(.pointer (some x4))),(5,(.pointer (some a59)))] ⟨rfl,rfl,rfl,tv⟩ ⟨_,_,_,rfl,H⟩
       ·replace H:=H.2;refine ⟨_,(bJ (cs:=((⟨false,0,0⟩:ad):ad).cells.toArray) Zz rfl H),?_⟩;rintro _ h64 ⟨a65,rfl,H⟩;obtain ⟨k66,k67,k68,H⟩:=H;refine ⟨And.intro k66 (And.intro k67 (And.intro k68 trivial)),?_⟩;refine g_e 6 383 [(0,fun h=>Cells h x3 y44.cells)] (by kernel_rfl) rfl (by kernel_rfl) (av Tryz.call148 rfl (F.xax_ok H)) rfl rfl ?_;rintro _ h69 ⟨r70,rfl,H⟩;obtain ⟨k71,H⟩:=H;refine ⟨And.intro k71 trivial,?_⟩;refine g_e 7 511 [] (by kernel_rfl) rfl (by kernel_rfl) (av Z6 rfl (F.xaf_ok H)) rfl rfl ?_;rintro _ h72 ⟨r73,rfl,H⟩;refine ⟨trivial,?_⟩;refine g_e 9 1023 [] (by kernel_rfl) rfl (by kernel_rfl) (aK (vs:=r73.cells) ZJ rfl rfl ax rfl (by intro v hv;exact bi _ v hv) H) rfl rfl ?_;rintro _ h74 ⟨rfl,H⟩;refine ⟨trivial,?_⟩;refine g_d (by kernel_rfl) (aa ?_);exact ah [(1,(.pointer (some x1))),(4,(.pointer (some x4))),(5,(.pointer (some a65)))] ⟨rfl,rfl,rfl,tv⟩ ⟨_,_,_,rfl,H⟩
     ·refine bv mixed [0,0,2,6,0,16,62,127,0,511] (by kernel_rfl) ?_;obtain ⟨y75,k76,H⟩:=H;refine gh 0 1 rfl (aQ Za ZJ rfl rfl) k76 (gq 1 3 rfl (ay (off:=0) ZM iI rfl) ?_);obtain ⟨y77,k78,H⟩:=H;refine gh 2 7 rfl (aD ZE rfl) k78 (gq 3 15 rfl (cJ rfl rfl) (gq 4 31 rfl (ay (off:=2) ZM jM rfl) ?_));obtain ⟨y79,k80,H⟩:=H;refine gh 5 63 rfl (aD ZE rfl) k80 ?_;refine rF 6 127 8 319 [(0,fun h=>Cells h x3 y75.cells)] [(5,fun h=>aA h (x1.add 2)=some (.int .i64 y79)),(2,fun h=>aA h (x1.add 0)=some (.int .i64 y77)),(0,fun h=>Cells h x3 y75.cells)] (by kernel_rfl) (by kernel_rfl) (by kernel_rfl) (by kernel_rfl) (by kernel_rfl) rfl rfl rfl rfl rfl rfl ?_ ?_
      ·replace H:=H.1;refine ⟨_,(av Tryz.call148 rfl (F.xax_ok H)),?_⟩;rintro _ h81 ⟨r82,rfl,H⟩;obtain ⟨k83,H⟩:=H;refine ⟨And.intro k83 trivial,?_⟩;refine rF 7 255 8 383 [] [(0,fun h=>Cells h x3 y75.cells)] (by kernel_rfl) (by kernel_rfl) (by kernel_rfl) (by kernel_rfl) (by kernel_rfl) rfl rfl rfl rfl rfl rfl ?_ ?_
       ·replace H:=H.1;refine ⟨_,(av Z6 rfl (F.xaf_ok H)),?_⟩;rintro _ h84 ⟨r85,rfl,H⟩;refine ⟨trivial,?_⟩;refine g_e 8 511 [] (by kernel_rfl) rfl (by kernel_rfl) (bJ (cs:=((⟨false,0,0⟩:ad):ad).cells.toArray) Zz rfl H) rfl rfl ?_;rintro _ h86 ⟨a87,rfl,H⟩;refine ⟨trivial,?_⟩;refine g_e 9 1023 [] (by kernel_rfl) rfl (by kernel_rfl) (aK (vs:=r85.cells) ZJ rfl rfl ax rfl (by intro v hv;exact bi _ v hv) H) rfl rfl ?_;rintro _ h88 ⟨rfl,H⟩;refine ⟨trivial,?_⟩;refine g_d (by kernel_rfl) (aa ?_);exact ah [(1,(.pointer (some x1))),(3,(.pointer (some x3))),(4,(.pointer (some a87)))] ⟨rfl,rfl,rfl,tv⟩ ⟨_,_,_,rfl,H⟩
       ·replace H:=H.2;refine ⟨_,(bJ (cs:=((⟨false,0,0⟩:ad):ad).cells.toArray) Zz rfl H),?_⟩;rintro _ h89 ⟨a90,rfl,H⟩;obtain ⟨k91,H⟩:=H;refine ⟨And.intro k91 trivial,?_⟩;refine g_e 7 511 [] (by kernel_rfl) rfl (by kernel_rfl) (av Z6 rfl (F.xaf_ok H)) rfl rfl ?_;rintro _ h92 ⟨r93,rfl,H⟩;refine ⟨trivial,?_⟩;refine g_e 9 1023 [] (by kernel_rfl) rfl (by kernel_rfl) (aK (vs:=r93.cells) ZJ rfl rfl ax rfl (by intro v hv;exact bi _ v hv) H) rfl rfl ?_;rintro _ h94 ⟨rfl,H⟩;refine ⟨trivial,?_⟩;refine g_d (by kernel_rfl) (aa ?_);exact ah [(1,(.pointer (some x1))),(3,(.pointer (some x3))),(4,(.pointer (some a90)))] ⟨rfl,rfl,rfl,tv⟩ ⟨_,_,_,rfl,H⟩
      ·replace H:=H.2;refine ⟨_,(bJ (cs:=((⟨false,0,0⟩:ad):ad).cells.toArray) Zz rfl H),?_⟩;rintro _ h95 ⟨a96,rfl,H⟩;obtain ⟨k97,k98,k99,H⟩:=H;refine ⟨And.intro k97 (And.intro k98 (And.intro k99 trivial)),?_⟩;refine g_e 6 383 [(0,fun h=>Cells h x3 y75.cells)] (by kernel_rfl) rfl (by kernel_rfl) (av Tryz.call148 rfl (F.xax_ok H)) rfl rfl ?_;rintro _ h100 ⟨r101,rfl,H⟩;obtain ⟨k102,H⟩:=H;refine ⟨And.intro k102 trivial,?_⟩;refine g_e 7 511 [] (by kernel_rfl) rfl (by kernel_rfl) (av Z6 rfl (F.xaf_ok H)) rfl rfl ?_;rintro _ h103 ⟨r104,rfl,H⟩;refine ⟨trivial,?_⟩;refine g_e 9 1023 [] (by kernel_rfl) rfl (by kernel_rfl) (aK (vs:=r104.cells) ZJ rfl rfl ax rfl (by intro v hv;exact bi _ v hv) H) rfl rfl ?_;rintro _ h105 ⟨rfl,H⟩;refine ⟨trivial,?_⟩;refine g_d (by kernel_rfl) (aa ?_);exact ah [(1,(.pointer (some x1))),(3,(.pointer (some x3))),(4,(.pointer (some a96)))] ⟨rfl,rfl,rfl,tv⟩ ⟨_,_,_,rfl,H⟩
    ·refine bv mixed [0,1,3,0,8,31,63,0,255] (by kernel_rfl) (gq 0 1 rfl (ay (off:=2) ZM jM rfl) ?_);obtain ⟨y106,k107,H⟩:=H;refine gh 1 3 rfl (aD ZE rfl) k107 (gq 3 11 rfl (ay (off:=3) ZM jN rfl) ?_);obtain ⟨y108,k109,H⟩:=H;refine gh 4 27 rfl (aD ZE rfl) k109 ?_;refine rF 2 31 7 155 [(4,fun h=>aA h (a2.add 3)=some (.int .i64 y108))] [(4,fun h=>aA h (a2.add 3)=some (.int .i64 y108)),(1,fun h=>aA h (a2.add 2)=some (.int .i64 y106))] (by kernel_rfl) (by kernel_rfl) (by kernel_rfl) (by kernel_rfl) (by kernel_rfl) rfl rfl rfl rfl rfl rfl ?_ ?_
     ·replace H:=H.1;refine ⟨_,(av Tryz.call147 rfl (F.xbx_ok H)),?_⟩;rintro _ h110 ⟨r111,rfl,H⟩;obtain ⟨k112,H⟩:=H;refine ⟨And.intro k112 trivial,?_⟩;refine rF 5 63 7 159 [] [(4,fun h=>aA h (a2.add 3)=some (.int .i64 y108))] (by kernel_rfl) (by kernel_rfl) (by kernel_rfl) (by kernel_rfl) (by kernel_rfl) rfl rfl rfl rfl rfl rfl ?_ ?_
      ·replace H:=H.1;refine ⟨_,(av Tryz.call147 rfl (F.xbx_ok H)),?_⟩;rintro _ h113 ⟨r114,rfl,H⟩;refine ⟨trivial,?_⟩;refine rF 6 127 7 191 [] [] (by kernel_rfl) (by kernel_rfl) (by kernel_rfl) (by kernel_rfl) (by kernel_rfl) rfl rfl rfl rfl rfl rfl ?_ ?_
       ·replace H:=H.1;refine ⟨_,(av Z6 rfl (F.xaf_ok H)),?_⟩;rintro _ h115 ⟨r116,rfl,H⟩;refine ⟨trivial,?_⟩;refine g_e 7 255 [] (by kernel_rfl) rfl (by kernel_rfl) (bJ (cs:=((⟨false,0,0⟩:ad):ad).cells.toArray) Zz rfl H) rfl rfl ?_;rintro _ h117 ⟨a118,rfl,H⟩;refine ⟨trivial,?_⟩;refine g_e 8 511 [] (by kernel_rfl) rfl (by kernel_rfl) (aK (vs:=r116.cells) ZJ rfl rfl ax rfl (by intro v hv;exact bi _ v hv) H) rfl rfl ?_;rintro _ h119 ⟨rfl,H⟩;refine ⟨trivial,?_⟩;refine g_d (by kernel_rfl) (aa ?_);exact ah [(1,(.pointer (some a2))),(3,(.pointer (some a118)))] ⟨rfl,rfl,tv⟩ ⟨_,_,rfl,H⟩
       ·replace H:=H.2;refine ⟨_,(bJ (cs:=((⟨false,0,0⟩:ad):ad).cells.toArray) Zz rfl H),?_⟩;rintro _ h120 ⟨a121,rfl,H⟩;refine ⟨trivial,?_⟩;refine g_e 6 255 [] (by kernel_rfl) rfl (by kernel_rfl) (av Z6 rfl (F.xaf_ok H)) rfl rfl ?_;rintro _ h122 ⟨r123,rfl,H⟩;refine ⟨trivial,?_⟩;refine g_e 8 511 [] (by kernel_rfl) rfl (by kernel_rfl) (aK (vs:=r123.cells) ZJ rfl rfl ax rfl (by intro v hv;exact bi _ v hv) H) rfl rfl ?_;rintro _ h124 ⟨rfl,H⟩;refine ⟨trivial,?_⟩;refine g_d (by kernel_rfl) (aa ?_);exact ah [(1,(.pointer (some a2))),(3,(.pointer (some a121)))] ⟨rfl,rfl,tv⟩ ⟨_,_,rfl,H⟩
      ·replace H:=H.2;refine ⟨_,(bJ (cs:=((⟨false,0,0⟩:ad):ad).cells.toArray) Zz rfl H),?_⟩;rintro _ h125 ⟨a126,rfl,H⟩;obtain ⟨k127,H⟩:=H;refine ⟨And.intro k127 trivial,?_⟩;refine g_e 5 191 [] (by kernel_rfl) rfl (by kernel_rfl) (av Tryz.call147 rfl (F.xbx_ok H)) rfl rfl ?_;rintro _ h128 ⟨r129,rfl,H⟩;refine ⟨trivial,?_⟩;refine g_e 6 255 [] (by kernel_rfl) rfl (by kernel_rfl) (av Z6 rfl (F.xaf_ok H)) rfl rfl ?_;rintro _ h130 ⟨r131,rfl,H⟩;refine ⟨trivial,?_⟩;refine g_e 8 511 [] (by kernel_rfl) rfl (by kernel_rfl) (aK (vs:=r131.cells) ZJ rfl rfl ax rfl (by intro v hv;exact bi _ v hv) H) rfl rfl ?_;rintro _ h132 ⟨rfl,H⟩;refine ⟨trivial,?_⟩;refine g_d (by kernel_rfl) (aa ?_);exact ah [(1,(.pointer (some a2))),(3,(.pointer (some a126)))] ⟨rfl,rfl,tv⟩ ⟨_,_,rfl,H⟩
     ·replace H:=H.2;refine ⟨_,(bJ (cs:=((⟨false,0,0⟩:ad):ad).cells.toArray) Zz rfl H),?_⟩;rintro _ h133 ⟨a134,rfl,H⟩;obtain ⟨k135,k136,H⟩:=H;refine ⟨And.intro k135 (And.intro k136 trivial),?_⟩;refine g_e 2 159 [(4,fun h=>aA h (a2.add 3)=some (.int .i64 y108))] (by kernel_rfl) rfl (by kernel_rfl) (av Tryz.call147 rfl (F.xbx_ok H)) rfl rfl ?_;rintro _ h137 ⟨r138,rfl,H⟩;obtain ⟨k139,H⟩:=H;refine ⟨And.intro k139 trivial,?_⟩;refine g_e 5 191 [] (by kernel_rfl) rfl (by kernel_rfl) (av Tryz.call147 rfl (F.xbx_ok H)) rfl rfl ?_;rintro _ h140 ⟨r141,rfl,H⟩;refine ⟨trivial,?_⟩;refine g_e 6 255 [] (by kernel_rfl) rfl (by kernel_rfl) (av Z6 rfl (F.xaf_ok H)) rfl rfl ?_;rintro _ h142 ⟨r143,rfl,H⟩;refine ⟨trivial,?_⟩;refine g_e 8 511 [] (by kernel_rfl) rfl (by kernel_rfl) (aK (vs:=r143.cells) ZJ rfl rfl ax rfl (by intro v hv;exact bi _ v hv) H) rfl rfl ?_;rintro _ h144 ⟨rfl,H⟩;refine ⟨trivial,?_⟩;refine g_d (by kernel_rfl) (aa ?_);exact ah [(1,(.pointer (some a2))),(3,(.pointer (some a134)))] ⟨rfl,rfl,tv⟩ ⟨_,_,rfl,H⟩
def F.xbq.j1 (Q:Int->H->Prop) (x0:Option Addr) (x1:Int) (x5:Addr) (h:H):Prop:=
  ak h (x5.add 0) fun y8 =>
  F.xdn x0 y8 h fun r11 h10 =>
  F.xdo r11 h10 fun r13 h12 =>
  ((decide (r13 > x1))=true ->
  Q 32 h12) ∧
  ((decide (r13 > x1))=false ->
  bh h12 (x5.add 3) fun y15 =>
  F.xbe r11 (⟨x1,y15,false⟩:bL) h12 fun r18 h17 =>
  nn x0 fun a19 =>
  ldI .i64 h17 (a19.add 0) fun y21 =>
  F.xbh x0 h17 fun r24 h23 =>
  aA h23 (a19.add 0)=some (.int .i64 y21) ∧
  F.xay r11 h23 fun r27 h26 =>
  aA h26 (a19.add 0)=some (.int .i64 y21) ∧
  F.xay r18 h26 fun r30 h29 =>
  aA h29 (a19.add 0)=some (.int .i64 y21) ∧
  ((decide ((IntKind.wrap .i64 ((IntKind.wrap .i64 (r24-r27))+r30)) > y21))=true ->
  Q 31 h29) ∧
  ((decide ((IntKind.wrap .i64 ((IntKind.wrap .i64 (r24-r27))+r30)) > y21))=false ->
  ak h29 (x5.add 0) fun y33 =>
  F.xch x0 y33 r18 h29 fun h35 =>
  Q 0 h35))
def F.xbq.j2 (Q:Int->H->Prop) (x0:Option Addr) (x1:Int) (x5:Addr) (x33:Bool) (h:H):Prop:=
  (x33=true ->
  Q 1 h) ∧
  (x33=false ->
  F.xbq.j1 Q x0 x1 x5 h)
def F.xbq (p0:Option Addr) (p1:Int) (p2:aO) (h:H) (Q:Int->H->Prop):Prop:=
  new h p2.cells.toArray mx fun a2 h1 =>
  ak h1 (a2.add 0) fun y3 =>
  F.xal y3 h1 fun r6 h5 =>
  (((r6 != 0))=true ->
  Q r6 h5) ∧
  (((r6 != 0))=false ->
  ((decide (p1<1))=true ->
  F.xbq.j2 Q p0 p1 a2 true h5) ∧
  ((decide (p1<1))=false ->
  ((decide (p1 > 1099511627776))=true ->
  F.xbq.j2 Q p0 p1 a2 true h5) ∧
  ((decide (p1 > 1099511627776))=false ->
  bh h5 (a2.add 3) fun y39 =>
  F.xaq y39 h5 fun r42 h41 =>
  ((!r42)=true ->
  F.xbq.j2 Q p0 p1 a2 true h41) ∧
  ((!r42)=false ->
  ldI .i64 h41 ((a2.add 3).add 0) fun y44 =>
  F.xbq.j2 Q p0 p1 a2 ((y44 == 0)) h41))))
theorem F.xbq_ok {p0:Option Addr}{p1:Int}{p2:aO}{h:H}{Q:Int->H->Prop}(H:F.xbq p0 p1 p2 h Q):Fn PP 111 ([(.pointer p0),(.int .i64 p1),(.agg p2.cells.toArray)]:List Value).toArray h fun r h'=>∃ r0,r=(.int .i64 r0)∧Q r0 h':=by
 unfold F.xbq at H;refine aV Tryz.func111 Tryz.ntmps111 rfl rfl fun w0=>(az [(0,(.pointer p0)),(1,(.int .i64 p1)),(2,(.agg p2.cells.toArray))] ⟨rfl,rfl,rfl,tv⟩ (sr (te (cb (cs:=p2.cells.toArray) rfl rfl H) ?_)));rintro _ h1 ⟨a2,rfl,H⟩;refine qa rfl (nt (sr (tq (ay (off:=0) Zq gZ rfl) ?_)));obtain ⟨y3,k4,H⟩:=H;refine th (aQ ZB ZA rfl rfl) k4 (te (av Tryz.call131 rfl (F.xal_ok H)) ?_);rintro _ h5 ⟨r6,rfl,H⟩;refine qa rfl (nt (aj (sr (qm rfl (tq (ey rfl rfl) (nt ?_))))));refine am rfl (fun g7=>?_) (fun g7=>?_)
 ·replace H:=H.1 g7;refine sr (qm rfl (qa rfl (nt (al (aq ?_)))));exact an rfl rfl ⟨_,rfl,H⟩
 ·replace H:=H.2 g7;refine au (aa ?_);refine aG (fun L' h=>∃ (x0:Option Addr) (x1:Int) (x5:Addr),L'=[(0,(.pointer x0)),(1,(.int .i64 x1)),(5,(.pointer (some x5)))]∧F.xbq.j1 Q x0 x1 x5 h) ?_ ?_
  ·rintro L' h ⟨x0,x1,x5,rfl,H⟩;unfold F.xbq.j1 at H;refine sr (qm rfl (tq (ay (off:=0) Zq gZ rfl) ?_));obtain ⟨y8,k9,H⟩:=H;refine th (aQ ZB ZA rfl rfl) k9 (te (av Tryz.call133 rfl (F.xdn_ok H)) ?_);rintro _ h10 ⟨r11,rfl,H⟩;refine qa rfl (nt (aj (sr (qm rfl (te (av Tryz.call134 rfl (F.xdo_ok H)) ?_)))));rintro _ h12 ⟨r13,rfl,H⟩;refine qm rfl (tq (df rfl rfl) (nt ?_));refine am rfl (fun g14=>?_) (fun g14=>?_)
   ·replace H:=H.1 g14;refine sr (qa rfl (nt (al (aq ?_))));exact an rfl rfl ⟨_,rfl,H⟩
   ·replace H:=H.2 g14;refine au (aa (sr (qm rfl (qm rfl (tq (ay (off:=3) Zq kQ rfl) ?_)))));obtain ⟨y15,k16,H⟩:=H;refine th (aQ ZK ZD rfl rfl) k16 (tq (bO rfl (vQ x1 y15)) (te (av Tryz.call135 rfl (F.xbe_ok H)) ?_));rintro _ h17 ⟨r18,rfl,H⟩;refine qa rfl (nt (aj (aj (bv mixed [0,1,0,7,15,0,47,127,0,256,768,1792,4095] (by kernel_rfl) (gq 0 1 rfl (aw rfl) (gq 2 5 rfl (aw rfl) (gq 5 37 rfl (aw rfl) (gq 8 293 rfl (aw rfl) ?_))))))));obtain ⟨a19,e20,H⟩:=H;refine gq 9 805 rfl (bG rfl e20) (gq 10 1829 rfl (ay (off:=0) ZX uG rfl) ?_);obtain ⟨y21,k22,H⟩:=H;refine gh 11 3877 rfl (aD ZC rfl) k22 (g_e 1 3879 [(11,fun h=>aA h (a19.add 0)=some (.int .i64 y21))] (by kernel_rfl) rfl (by kernel_rfl) (av Tryz.call119 rfl (F.xbh_ok H)) rfl rfl ?_);rintro _ h23 ⟨r24,rfl,H⟩;obtain ⟨k25,H⟩:=H;refine ⟨And.intro k25 trivial,?_⟩;refine g_e 3 3887 [(11,fun h=>aA h (a19.add 0)=some (.int .i64 y21))] (by kernel_rfl) rfl (by kernel_rfl) (av Tryz.call136 rfl (F.xay_ok H)) rfl rfl ?_;rintro _ h26 ⟨r27,rfl,H⟩;obtain ⟨k28,H⟩:=H;refine ⟨And.intro k28 trivial,?_⟩;refine gq 4 3903 rfl (cJ rfl rfl) (g_e 6 3967 [(11,fun h=>aA h (a19.add 0)=some (.int .i64 y21))] (by kernel_rfl) rfl (by kernel_rfl) (av Tryz.call136 rfl (F.xay_ok H)) rfl rfl ?_);rintro _ h29 ⟨r30,rfl,H⟩;obtain ⟨k31,H⟩:=H;refine ⟨And.intro k31 trivial,?_⟩;refine gq 7 4095 rfl (bE rfl rfl) (gq 12 8191 rfl (df rfl rfl) (g_d (by kernel_rfl) (aa ?_)));refine am rfl (fun g32=>?_) (fun g32=>?_)
    ·replace H:=H.1 g32;refine sr (qa rfl (nt (al (aq ?_))));exact an rfl rfl ⟨_,rfl,H⟩
    ·replace H:=H.2 g32;refine au (aa (sr (qm rfl (tq (ay (off:=0) Zq gZ rfl) ?_))));obtain ⟨y33,k34,H⟩:=H;refine th (aQ ZB ZA rfl rfl) k34 (qm rfl (te (av Tryz.call137 rfl (F.xch_ok H)) ?_));rintro _ h35 ⟨rfl,H⟩;refine nt (sr (qa rfl (nt (al ?_))));exact an rfl rfl ⟨_,rfl,H⟩
  ·refine aG (fun L' h=>∃ (x0:Option Addr) (x1:Int) (x5:Addr) (x33:Bool),L'=[(0,(.pointer x0)),(1,(.int .i64 x1)),(5,(.pointer (some x5))),(33,(.bool x33))]∧F.xbq.j2 Q x0 x1 x5 x33 h) ?_ ?_
   ·rintro L' h ⟨x0,x1,x5,x33,rfl,H⟩;unfold F.xbq.j2 at H;refine am rfl (fun g36=>?_) (fun g36=>?_)
    ·replace H:=H.1 g36;refine sr (qa rfl (nt (al (aq ?_))));exact an rfl rfl ⟨_,rfl,H⟩
    ·replace H:=H.2 g36;refine au (aa ?_);exact ah [(0,(.pointer x0)),(1,(.int .i64 x1)),(5,(.pointer (some x5)))] ⟨rfl,rfl,rfl,tv⟩ ⟨_,_,_,rfl,H⟩
   ·refine ai (qm rfl (tq (bN rfl rfl) (qm rfl ?_)));refine aT (t:=18) rfl (fun g37=>?_) (fun g37=>?_)
    ·replace H:=H.1 g37;refine ts (ts (tq (aL rfl rfl) (qm rfl (ts (ts (ts (ts (tq (aL rfl rfl) (qm rfl (ts (ts (ts (ts ?_)))))))))))));refine tq (aL rfl rfl) (nt ?_);exact ah [(0,(.pointer p0)),(1,(.int .i64 p1)),(5,(.pointer (some a2))),(33,(.bool true))] ⟨rfl,rfl,rfl,rfl,tv⟩ ⟨_,_,_,_,rfl,H⟩
    ·replace H:=H.2 g37;refine qm rfl (tq (df rfl rfl) (tq (aH rfl rfl) (qm rfl ?_)));refine aT (t:=22) rfl (fun g38=>?_) (fun g38=>?_)
     ·replace H:=H.1 g38;refine ts (ts (ts (ts (tq (aL rfl rfl) (qm rfl (ts (ts (ts (ts (tq (aL rfl rfl) (nt ?_)))))))))));exact ah [(0,(.pointer p0)),(1,(.int .i64 p1)),(5,(.pointer (some a2))),(33,(.bool true))] ⟨rfl,rfl,rfl,rfl,tv⟩ ⟨_,_,_,_,rfl,H⟩
     ·replace H:=H.2 g38;refine tq (ay (off:=3) Zq kQ rfl) ?_;obtain ⟨y39,k40,H⟩:=H;refine th (aQ ZK ZD rfl rfl) k40 (te (av Tryz.call132 rfl (F.xaq_ok H)) ?_);rintro _ h41 ⟨r42,rfl,H⟩;refine tq (eI rfl) (tq (aH rfl rfl) (qm rfl ?_));refine aT (t:=28) rfl (fun g43=>?_) (fun g43=>?_)
      ·replace H:=H.1 g43;refine ts (ts (ts (ts (tq (aL rfl rfl) (nt ?_)))));exact ah [(0,(.pointer p0)),(1,(.int .i64 p1)),(5,(.pointer (some a2))),(33,(.bool true))] ⟨rfl,rfl,rfl,rfl,tv⟩ ⟨_,_,_,_,rfl,H⟩
      ·replace H:=H.2 g43;refine tq (ay (off:=3) Zq kQ rfl) (tq (ay (off:=0) ZM iI rfl) ?_);obtain ⟨y44,k45,H⟩:=H;refine th (aD ZE rfl) k45 (tq (ct rfl rfl) (tq (aH rfl rfl) (nt ?_)));exact ah [(0,(.pointer p0)),(1,(.int .i64 p1)),(5,(.pointer (some a2))),(33,(.bool ((y44 == 0))))] ⟨rfl,rfl,rfl,rfl,tv⟩ ⟨_,_,_,_,rfl,H⟩
def F.xel (p0:Option Addr) (p1:Int) (p2:aO) (h:H) (Q:Int->H->Prop):Prop:=
  new h p2.cells.toArray mx fun a2 h1 =>
  ak h1 (a2.add 0) fun y3 =>
  ec h1 a2 fun y5 =>
  F.xdk p0 y3 h1 fun r8 h7 =>
  Cells h7 a2 y5.cells ∧
  F.xbq r8 p1 y5 h7 fun r11 h10 =>
  Q r11 h10
theorem F.xel_ok {p0:Option Addr}{p1:Int}{p2:aO}{h:H}{Q:Int->H->Prop}(H:F.xel p0 p1 p2 h Q):Fn PP 74 ([(.pointer p0),(.int .i64 p1),(.agg p2.cells.toArray)]:List Value).toArray h fun r h'=>∃ r0,r=(.int .i64 r0)∧Q r0 h':=by
 unfold F.xel at H;refine aV Tryz.func74 Tryz.ntmps74 rfl rfl fun w0=>(az [(0,(.pointer p0)),(1,(.int .i64 p1)),(2,(.agg p2.cells.toArray))] ⟨rfl,rfl,rfl,tv⟩ (sr (te (cb (cs:=p2.cells.toArray) rfl rfl H) ?_)));rintro _ h1 ⟨a2,rfl,H⟩;refine qa rfl (nt (aj (bv mixed [0,0,2,7,0,0,63,127] (by kernel_rfl) (gq 0 1 rfl (aw rfl) (gq 1 3 rfl (ay (off:=0) Zq gZ rfl) ?_)))));obtain ⟨y3,k4,H⟩:=H;refine gh 2 7 rfl (aQ ZB ZA rfl rfl) k4 (gq 4 23 rfl (aw rfl) ?_);obtain ⟨y5,k6,H⟩:=H;refine gh 5 55 rfl (aQ ZBJ ZZ rfl rfl) k6 (g_e 3 63 [(5,fun h=>Cells h a2 y5.cells)] (by kernel_rfl) rfl (by kernel_rfl) (av Tryz.call110 rfl (F.xdk_ok H)) rfl rfl ?_);rintro _ h7 ⟨r8,rfl,H⟩;obtain ⟨k9,H⟩:=H;refine ⟨And.intro k9 trivial,?_⟩;refine g_e 6 127 [] (by kernel_rfl) rfl (by kernel_rfl) (av Tryz.call111 rfl (F.xbq_ok H)) rfl rfl ?_;rintro _ h10 ⟨r11,rfl,H⟩;refine ⟨trivial,?_⟩;refine gq 7 255 rfl (bp rfl) (g_d (by kernel_rfl) (aa (al ?_)));exact an rfl rfl ⟨_,rfl,H⟩
end Go.Proofs.YtjjchpaomgmmdaaGreat.V
