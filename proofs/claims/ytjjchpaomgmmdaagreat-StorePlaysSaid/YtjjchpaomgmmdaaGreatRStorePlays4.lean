/- Parts of the proof of StorePlays; no condition. -/
import Derived.Test.YtjjchpaomgmmdaaGreatRStorePlays3
namespace Go.Proofs.YtjjchpaomgmmdaaGreat.V
open Go
set_option linter.unusedVariables false
set_option maxRecDepth 100000
def F.xau.j2 (Q:Int->H->Prop) (x0:Option Addr) (x1:Int) (x5:Addr) (x8:Sl) (h:H):Prop:=
  ak h x5 fun y15 =>
  F.xbe x8 (⟨x1,(⟨0,0,0,0⟩:ag),true⟩:bL) h fun r18 h17 =>
  Cells h17 x5 y15.cells ∧
  F.xch x0 y15 r18 h17 fun h20 =>
  Q 0 h20
def F.xau.j3 (Q:Int->H->Prop) (x0:Option Addr) (x1:Int) (x5:Addr) (x8:Sl) (x38:Bool) (h:H):Prop:=
  (x38=true ->
  Q 44 h) ∧
  (x38=false ->
  F.xau.j2 Q x0 x1 x5 x8 h)
def F.xau.j1 (Q:Int->H->Prop) (x0:Option Addr) (x1:Int) (x5:Addr) (h:H):Prop:=
  ak h x5 fun y8 =>
  F.xdn x0 y8 h fun r11 h10 =>
  F.xdo r11 h10 fun r13 h12 =>
  ((decide (r13 > x1))=true ->
  Q 32 h12) ∧
  ((decide (r13 > x1))=false ->
  ((((r11.len:Int) == 0))=true ->
  F.xau.j3 Q x0 x1 x5 r11 true h12) ∧
  ((((r11.len:Int) == 0))=false ->
  bD r11 (IntKind.wrap .i64 ((r11.len:Int)-1)) 6 fun a23 =>
  ldB h12 (a23.add 5) fun y25 =>
  F.xau.j3 Q x0 x1 x5 r11 y25 h12))
def F.xau.j4 (Q:Int->H->Prop) (x0:Option Addr) (x1:Int) (x5:Addr) (x19:Bool) (h:H):Prop:=
  (x19=true ->
  Q 1 h) ∧
  (x19=false ->
  F.xau.j1 Q x0 x1 x5 h)
def F.xau (p0:Option Addr) (p1:Int) (p2:ae) (h:H) (Q:Int->H->Prop):Prop:=
  new h p2.cells.toArray cH fun a2 h1 =>
  ak h1 a2 fun y3 =>
  F.xal y3 h1 fun r6 h5 =>
  (((r6 != 0))=true ->
  Q r6 h5) ∧
  (((r6 != 0))=false ->
  ((decide (p1<1))=true ->
  F.xau.j4 Q p0 p1 a2 true h5) ∧
  ((decide (p1<1))=false ->
  F.xau.j4 Q p0 p1 a2 (decide (p1 > 1099511627776)) h5))
theorem F.xau_ok {p0:Option Addr}{p1:Int}{p2:ae}{h:H}{Q:Int->H->Prop}(H:F.xau p0 p1 p2 h Q):Fn PP 112 ([(.pointer p0),(.int .i64 p1),(.agg p2.cells.toArray)]:List Value).toArray h fun r h'=>∃ r0,r=(.int .i64 r0)∧Q r0 h':=by
 unfold F.xau at H;refine aV Tryz.func112 Tryz.ntmps112 rfl rfl fun w0=>(az [(0,(.pointer p0)),(1,(.int .i64 p1)),(2,(.agg p2.cells.toArray))] ⟨rfl,rfl,rfl,tv⟩ (sr (te (cb (cs:=p2.cells.toArray) rfl rfl H) ?_)));rintro _ h1 ⟨a2,rfl,H⟩;refine qa rfl (nt (sr ?_));obtain ⟨y3,k4,H⟩:=H;refine th (aQ ZB ZA rfl rfl) k4 (te (av Tryz.call131 rfl (F.xal_ok H)) ?_);rintro _ h5 ⟨r6,rfl,H⟩;refine qa rfl (nt (aj (sr (qm rfl (tq (ey rfl rfl) (nt ?_))))));refine am rfl (fun g7=>?_) (fun g7=>?_)
 ·replace H:=H.1 g7;refine sr (qm rfl (qa rfl (nt (al (aq ?_)))));exact an rfl rfl ⟨_,rfl,H⟩
 ·replace H:=H.2 g7;refine au (aa ?_);refine aG (fun L' h=>∃ (x0:Option Addr) (x1:Int) (x5:Addr),L'=[(0,(.pointer x0)),(1,(.int .i64 x1)),(5,(.pointer (some x5)))]∧F.xau.j1 Q x0 x1 x5 h) ?_ ?_
  ·rintro L' h ⟨x0,x1,x5,rfl,H⟩;unfold F.xau.j1 at H;refine sr (qm rfl ?_);obtain ⟨y8,k9,H⟩:=H;refine th (aQ ZB ZA rfl rfl) k9 (te (av Tryz.call133 rfl (F.xdn_ok H)) ?_);rintro _ h10 ⟨r11,rfl,H⟩;refine qa rfl (nt (aj (sr (qm rfl (te (av Tryz.call134 rfl (F.xdo_ok H)) ?_)))));rintro _ h12 ⟨r13,rfl,H⟩;refine qm rfl (tq (df rfl rfl) (nt ?_));refine am rfl (fun g14=>?_) (fun g14=>?_)
   ·replace H:=H.1 g14;refine sr (qa rfl (nt (al (aq ?_))));exact an rfl rfl ⟨_,rfl,H⟩
   ·replace H:=H.2 g14;refine au (aa ?_);refine aG (fun L' h=>∃ (x0:Option Addr) (x1:Int) (x5:Addr) (x8:Sl),L'=[(0,(.pointer x0)),(1,(.int .i64 x1)),(5,(.pointer (some x5))),(8,x8.enc)]∧F.xau.j2 Q x0 x1 x5 x8 h) ?_ ?_
    ·rintro L' h ⟨x0,x1,x5,x8,rfl,H⟩;unfold F.xau.j2 at H;refine aj (bv mixed [0,0,0,0,8,28,63] (by kernel_rfl) (gq 0 1 rfl (aw rfl) ?_));obtain ⟨y15,k16,H⟩:=H;refine gh 1 3 rfl (aQ ZB ZA rfl rfl) k16 (gq 2 7 rfl (aw rfl) (gq 3 15 rfl (aw rfl) (gq 4 31 rfl (bO rfl (vR x1 true)) (g_e 5 63 [(1,fun h=>Cells h x5 y15.cells)] (by kernel_rfl) rfl (by kernel_rfl) (av Tryz.call135 rfl (F.xbe_ok H)) rfl rfl ?_))));rintro _ h17 ⟨r18,rfl,H⟩;obtain ⟨k19,H⟩:=H;refine ⟨And.intro k19 trivial,?_⟩;refine g_e 6 127 [] (by kernel_rfl) rfl (by kernel_rfl) (av Tryz.call137 rfl (F.xch_ok H)) rfl rfl ?_;rintro _ h20 ⟨rfl,H⟩;refine ⟨trivial,?_⟩;refine g_d (by kernel_rfl) (aa (sr (qa rfl (nt (al ?_)))));exact an rfl rfl ⟨_,rfl,H⟩
    ·refine aG (fun L' h=>∃ (x0:Option Addr) (x1:Int) (x5:Addr) (x8:Sl) (x38:Bool),L'=[(0,(.pointer x0)),(1,(.int .i64 x1)),(5,(.pointer (some x5))),(8,x8.enc),(38,(.bool x38))]∧F.xau.j3 Q x0 x1 x5 x8 x38 h) ?_ ?_
     ·rintro L' h ⟨x0,x1,x5,x8,x38,rfl,H⟩;unfold F.xau.j3 at H;refine am rfl (fun g21=>?_) (fun g21=>?_)
      ·replace H:=H.1 g21;refine sr (qa rfl (nt (al (aq ?_))));exact an rfl rfl ⟨_,rfl,H⟩
      ·replace H:=H.2 g21;refine au (aa ?_);exact ah [(0,(.pointer x0)),(1,(.int .i64 x1)),(5,(.pointer (some x5))),(8,x8.enc)] ⟨rfl,rfl,rfl,rfl,tv⟩ ⟨_,_,_,_,rfl,H⟩
     ·refine ai (qm rfl (tq (bB (ts:=#[]) ZO (o:=r11.ptr) (n:=r11.len) (cap:=r11.cap) rfl) (tq (ct rfl rfl) (qm rfl ?_))));refine aT (t:=30) rfl (fun g22=>?_) (fun g22=>?_)
      ·replace H:=H.1 g22;refine ts (ts (ts (ts (ts (ts (ts (tq (aL rfl rfl) (nt ?_))))))));exact ah [(0,(.pointer x0)),(1,(.int .i64 x1)),(5,(.pointer (some x5))),(8,r11.enc),(38,(.bool true))] ⟨rfl,rfl,rfl,rfl,rfl,tv⟩ ⟨_,_,_,_,_,rfl,H⟩
      ·replace H:=H.2 g22;refine qm rfl (qm rfl (tq (bB (ts:=#[]) ZO (o:=r11.ptr) (n:=r11.len) (cap:=r11.cap) rfl) (tq (cJ rfl rfl) ?_)));obtain ⟨a23,e24,H⟩:=H;refine tq (bf (s:=r11) ZO Zt rfl rfl e24) (tq (ay (off:=5) Z5 lF rfl) ?_);obtain ⟨y25,k26,H⟩:=H;refine th (aD Zj rfl) k26 (tq (aH rfl rfl) (nt ?_));exact ah [(0,(.pointer x0)),(1,(.int .i64 x1)),(5,(.pointer (some x5))),(8,r11.enc),(38,(.bool y25))] ⟨rfl,rfl,rfl,rfl,rfl,tv⟩ ⟨_,_,_,_,_,rfl,H⟩
  ·refine aG (fun L' h=>∃ (x0:Option Addr) (x1:Int) (x5:Addr) (x19:Bool),L'=[(0,(.pointer x0)),(1,(.int .i64 x1)),(5,(.pointer (some x5))),(19,(.bool x19))]∧F.xau.j4 Q x0 x1 x5 x19 h) ?_ ?_
   ·rintro L' h ⟨x0,x1,x5,x19,rfl,H⟩;unfold F.xau.j4 at H;refine am rfl (fun g27=>?_) (fun g27=>?_)
    ·replace H:=H.1 g27;refine sr (qa rfl (nt (al (aq ?_))));exact an rfl rfl ⟨_,rfl,H⟩
    ·replace H:=H.2 g27;refine au (aa ?_);exact ah [(0,(.pointer x0)),(1,(.int .i64 x1)),(5,(.pointer (some x5)))] ⟨rfl,rfl,rfl,tv⟩ ⟨_,_,_,rfl,H⟩
   ·refine ai (qm rfl (tq (bN rfl rfl) (qm rfl ?_)));refine aT (t:=16) rfl (fun g28=>?_) (fun g28=>?_)
    ·replace H:=H.1 g28;refine ts (ts (tq (aL rfl rfl) (nt ?_)));exact ah [(0,(.pointer p0)),(1,(.int .i64 p1)),(5,(.pointer (some a2))),(19,(.bool true))] ⟨rfl,rfl,rfl,rfl,tv⟩ ⟨_,_,_,_,rfl,H⟩
    ·replace H:=H.2 g28;refine qm rfl (tq (df rfl rfl) (tq (aH rfl rfl) (nt ?_)));exact ah [(0,(.pointer p0)),(1,(.int .i64 p1)),(5,(.pointer (some a2))),(19,(.bool (decide (p1 > 1099511627776))))] ⟨rfl,rfl,rfl,rfl,tv⟩ ⟨_,_,_,_,rfl,H⟩
def F.xem (p0:Option Addr) (p1:Int) (p2:ae) (h:H) (Q:Int->H->Prop):Prop:=
  new h p2.cells.toArray cH fun a2 h1 =>
  ak h1 a2 fun y3 =>
  ak h1 a2 fun y5 =>
  F.xdk p0 y3 h1 fun r8 h7 =>
  Cells h7 a2 y5.cells ∧
  F.xau r8 p1 y5 h7 fun r11 h10 =>
  Q r11 h10
theorem F.xem_ok {p0:Option Addr}{p1:Int}{p2:ae}{h:H}{Q:Int->H->Prop}(H:F.xem p0 p1 p2 h Q):Fn PP 75 ([(.pointer p0),(.int .i64 p1),(.agg p2.cells.toArray)]:List Value).toArray h fun r h'=>∃ r0,r=(.int .i64 r0)∧Q r0 h':=by
 unfold F.xem at H;refine aV Tryz.func75 Tryz.ntmps75 rfl rfl fun w0=>(az [(0,(.pointer p0)),(1,(.int .i64 p1)),(2,(.agg p2.cells.toArray))] ⟨rfl,rfl,rfl,tv⟩ (sr (te (cb (cs:=p2.cells.toArray) rfl rfl H) ?_)));rintro _ h1 ⟨a2,rfl,H⟩;refine qa rfl (nt (aj (bv mixed [0,0,3,0,0,31,63] (by kernel_rfl) (gq 0 1 rfl (aw rfl) ?_))));obtain ⟨y3,k4,H⟩:=H;refine gh 1 3 rfl (aQ ZB ZA rfl rfl) k4 (gq 3 11 rfl (aw rfl) ?_);obtain ⟨y5,k6,H⟩:=H;refine gh 4 27 rfl (aQ ZB ZA rfl rfl) k6 (g_e 2 31 [(4,fun h=>Cells h a2 y5.cells)] (by kernel_rfl) rfl (by kernel_rfl) (av Tryz.call110 rfl (F.xdk_ok H)) rfl rfl ?_);rintro _ h7 ⟨r8,rfl,H⟩;obtain ⟨k9,H⟩:=H;refine ⟨And.intro k9 trivial,?_⟩;refine g_e 5 63 [] (by kernel_rfl) rfl (by kernel_rfl) (av Tryz.call112 rfl (F.xau_ok H)) rfl rfl ?_;rintro _ h10 ⟨r11,rfl,H⟩;refine ⟨trivial,?_⟩;refine gq 6 127 rfl (bp rfl) (g_d (by kernel_rfl) (aa (al ?_)));exact an rfl rfl ⟨_,rfl,H⟩
def F.xep (p0:Sl) (h:H) (Q:Sl->H->Prop):Prop:=
  dA PP (Instr.makeSlice 42 (.int .i64 0) (.int .i64 (IntKind.wrap .i64 ((p0.len:Int)+3)))) h fun s2 h1 =>
  dA PP (Builtin.append_ #[42,42] 42 #[s2.enc,p0.enc]) h1 fun s4 h3 =>
  fv h3 #[(.int .i64 (-77))] rL 1 fun s6 h5 =>
  dA PP (Builtin.append_ #[42,42] 42 #[s4.enc,s6.enc]) h5 fun s8 h7 =>
  ly s8 0 (p0.len:Int) 1 fun s10 =>
  Q s10 h7
theorem F.xep_ok {p0:Sl}{h:H}{Q:Sl->H->Prop}(H:F.xep p0 h Q):Fn PP 76 ([p0.enc]:List Value).toArray h fun r h'=>∃ r0,r=r0.enc∧Q r0 h':=by
 unfold F.xep at H;refine aV Tryz.func76 Tryz.ntmps76 rfl rfl fun w0=>(az [(0,p0.enc)] ⟨rfl,tv⟩ (sr (qa rfl (nt (sr (qm rfl (tq (bB (ts:=#[]) ZY (o:=p0.ptr) (n:=p0.len) (cap:=p0.cap) rfl) (tq (bE rfl rfl) (te (mD rfl rfl H) ?_)))))))));rintro _ h1 ⟨s2,rfl,H⟩;refine qm rfl (te (dV rfl H) ?_);rintro _ h3 ⟨s4,rfl,H⟩;refine qa rfl (nt (sr (qm rfl (te (co (cs:=#[(.int .i64 (-77))]) rfl rfl (rW (-77)) H) ?_))));rintro _ h5 ⟨s6,rfl,H⟩;refine te (dV rfl H) ?_;rintro _ h7 ⟨s8,rfl,H⟩;refine qm rfl (tq (bB (ts:=#[]) ZY (o:=p0.ptr) (n:=p0.len) (cap:=p0.cap) rfl) ?_);obtain ⟨s10,e9,H⟩:=H;refine tq (gU (s:=s8) none (some (.i64,(p0.len:Int))) ZY ZQ rfl rfl rfl e9) (qa rfl (nt (al ?_)));exact an rfl rfl ⟨_,rfl,H⟩
def F.xaa.j3 (Q:Sl->H->Prop) (C1:Sl->Sl->Sl->Int->H->Prop) (C2:Sl->Sl->Sl->Int->Int->H->Prop) (x0:Sl) (x1:Sl) (x5:Sl) (x6:Int) (x7:Int) (h:H):Prop:=
  C2 x0 x1 x5 x6 (IntKind.wrap .i64 (x7+1)) h
def F.xaa.j4 (Q:Sl->H->Prop) (C1:Sl->Sl->Sl->Int->H->Prop) (C2:Sl->Sl->Sl->Int->Int->H->Prop) (x0:Sl) (x1:Sl) (x5:Sl) (x6:Int) (x7:Int) (x62:Bool) (h:H):Prop:=
  (x62=true ->
  bD x5 x6 1 fun a9 =>
  stH h a9 [(.bool true)] fun h11 =>
  F.xaa.j3 Q C1 C2 x0 x1 x5 x6 x7 h11) ∧
  (x62=false ->
  F.xaa.j3 Q C1 C2 x0 x1 x5 x6 x7 h)
def F.xaa.l2 (Q:Sl->H->Prop) (C1:Sl->Sl->Sl->Int->H->Prop):Nat->Sl->Sl->Sl->Int->Int->H->Prop
  | 0,_,_,_,_,_,_=>False
  | q2+1,x0,x1,x5,x6,x7,h =>
    ((decide (x7<(x1.len:Int)))=true ->
    bD x0 x6 6 fun a12 =>
    ldI .i64 h (a12.add 0) fun y14 =>
    bD x1 x7 1 fun a16 =>
    ldI .i64 h a16 fun y18 =>
    ((decide (y14<=y18))=true ->
    (((x6 == (IntKind.wrap .i64 ((x0.len:Int)-1))))=true ->
    F.xaa.j4 Q C1 (F.xaa.l2 Q C1 q2) x0 x1 x5 x6 x7 true h) ∧
    (((x6 == (IntKind.wrap .i64 ((x0.len:Int)-1))))=false ->
    bD x0 (IntKind.wrap .i64 (x6+1)) 6 fun a22 =>
    ldI .i64 h (a22.add 0) fun y24 =>
    bD x1 x7 1 fun a26 =>
    ldI .i64 h a26 fun y28 =>
    F.xaa.j4 Q C1 (F.xaa.l2 Q C1 q2) x0 x1 x5 x6 x7 (decide (y24 > y28)) h)) ∧
    ((decide (y14<=y18))=false ->
    F.xaa.j4 Q C1 (F.xaa.l2 Q C1 q2) x0 x1 x5 x6 x7 false h)) ∧
    ((decide (x7<(x1.len:Int)))=false ->
    C1 x0 x1 x5 (IntKind.wrap .i64 (x6+1)) h)
def F.xaa.j6 (Q:Sl->H->Prop) (C1:Sl->Sl->Sl->Int->H->Prop) (x0:Sl) (x5:Sl) (x8:Sl) (x9:Int) (h:H):Prop:=
  C1 x0 x5 x8 (IntKind.wrap .i64 (x9+1)) h
def F.xaa.j7 (Q:Sl->H->Prop) (x8:Sl) (h:H):Prop:=
  Q x8 h
def F.xaa.j8 (Q:Sl->H->Prop) (x8:Sl) (x91:Bool) (h:H):Prop:=
  (x91=true ->
  Q (⟨none,0,0⟩:Sl) h) ∧
  (x91=false ->
  F.xaa.j7 Q x8 h)
def F.xaa.l5 (Q:Sl->H->Prop):Nat->Sl->Sl->Sl->Int->H->Prop
  | 0,_,_,_,_,_=>False
  | q5+1,x0,x5,x8,x9,h =>
    ((decide (x9<(x0.len:Int)))=true ->
    bD x5 x9 1 fun a32 =>
    ldB h a32 fun y34 =>
    (y34=true ->
    bD x0 x9 6 fun a37 =>
    fk h a37 fun y39 =>
    fv h ((y39.cells).toArray) uk 1 fun s42 h41 =>
    dA PP (Builtin.append_ #[191,191] 191 #[x8.enc,s42.enc]) h41 fun s44 h43 =>
    F.xaa.j6 Q (F.xaa.l5 Q q5) x0 x5 s44 x9 h43) ∧
    (y34=false ->
    F.xaa.j6 Q (F.xaa.l5 Q q5) x0 x5 x8 x9 h)) ∧
    ((decide (x9<(x0.len:Int)))=false ->
    ((((x8.len:Int) == 1))=true ->
    bD x8 0 6 fun a47 =>
    ldB h (a47.add 5) fun y49 =>
    F.xaa.j8 Q x8 y49 h) ∧
    ((((x8.len:Int) == 1))=false ->
    F.xaa.j8 Q x8 false h))
def F.xaa.l1 (Q:Sl->H->Prop):Nat->Sl->Sl->Sl->Int->H->Prop
  | 0,_,_,_,_,_=>False
  | q1+1,x0,x1,x5,x6,h =>
    ((decide (x6<(x0.len:Int)))=true ->
    bD x5 x6 1 fun a4 =>
    stH h a4 [(.bool ((x6 == (IntKind.wrap .i64 ((x0.len:Int)-1)))))] fun h6 =>
    ∃ m,F.xaa.l2 Q (F.xaa.l1 Q q1) m x0 x1 x5 x6 0 h6) ∧
    ((decide (x6<(x0.len:Int)))=false ->
    ∃ m,F.xaa.l5 Q m x0 x5 (⟨none,0,0⟩:Sl) 0 h)
def F.xaa (p0:Sl) (p1:Sl) (h:H) (Q:Sl->H->Prop):Prop:=
  dA PP (Instr.makeSlice 165 (.int .i64 (p0.len:Int)) (.int .i64 (p0.len:Int))) h fun s2 h1 =>
  ∃ m,F.xaa.l1 Q m p0 p1 s2 0 h1
theorem F.xaa_ok {p0:Sl}{p1:Sl}{h:H}{Q:Sl->H->Prop}(H:F.xaa p0 p1 h Q):Fn PP 138 ([p0.enc,p1.enc]:List Value).toArray h fun r h'=>∃ r0,r=r0.enc∧Q r0 h':=by
 unfold F.xaa at H;refine aV Tryz.func138 Tryz.ntmps138 rfl rfl fun w0=>(az [(0,p0.enc),(1,p1.enc)] ⟨rfl,rfl,tv⟩ (sr (qa rfl (nt (sr (qm rfl (tq (bB (ts:=#[]) ZO (o:=p0.ptr) (n:=p0.len) (cap:=p0.cap) rfl) (te (mD rfl rfl H) ?_))))))));rintro _ h1 ⟨s2,rfl,H⟩;refine qa rfl (nt (aj (sr (qa rfl (nt (aB ?_))))));obtain ⟨m52,H⟩:=H;refine az [(0,p0.enc),(1,p1.enc),(5,s2.enc),(6,(.int .i64 0))] ⟨rfl,rfl,rfl,rfl,tv⟩ ?_;refine aY (fun m L' h=>∃ (x0:Sl) (x1:Sl) (x5:Sl) (x6:Int),L'=[(0,x0.enc),(1,x1.enc),(5,x5.enc),(6,(.int .i64 x6))]∧F.xaa.l1 Q m x0 x1 x5 x6 h) ?_ ?_ m52 ⟨_,_,_,_,rfl,H⟩
 ·rintro L' h ⟨_,_,_,_,_,H⟩;exact H
 ·rintro q1 L' h ⟨x0,x1,x5,x6,rfl,H⟩;unfold F.xaa.l1 at H;refine aj (sr (qm rfl (qm rfl (tq (bB (ts:=#[]) ZO (o:=x0.ptr) (n:=x0.len) (cap:=x0.cap) rfl) (tq (bN rfl rfl) (nt ?_))))));refine am rfl (fun g3=>?_) (fun g3=>?_)
  ·replace H:=H.1 g3;refine au (aa (aj (aB (sr (qm rfl (qm rfl (qm rfl (qm rfl (tq (bB (ts:=#[]) ZO (o:=x0.ptr) (n:=x0.len) (cap:=x0.cap) rfl) (tq (cJ rfl rfl) (tq (ct rfl rfl) ?_)))))))))));obtain ⟨a4,e5,H⟩:=H;refine tq (bf (s:=x5) ZBS Z2 rfl rfl e5) (te (aK (vs:=[(.bool ((x6 == (IntKind.wrap .i64 ((x0.len:Int)-1)))))]) Z2 rfl rfl rfl rfl (de rfl) H) ?_);rintro _ h6 ⟨rfl,H⟩;refine nt (sr (qa rfl (nt (aB ?_))));obtain ⟨m30,H⟩:=H;refine az [(0,x0.enc),(1,x1.enc),(5,x5.enc),(6,(.int .i64 x6)),(7,(.int .i64 0))] ⟨rfl,rfl,rfl,rfl,rfl,tv⟩ ?_;refine aY (fun m L' h=>∃ (x0:Sl) (x1:Sl) (x5:Sl) (x6:Int) (x7:Int),L'=[(0,x0.enc),(1,x1.enc),(5,x5.enc),(6,(.int .i64 x6)),(7,(.int .i64 x7))]∧F.xaa.l2 Q (F.xaa.l1 Q q1) m x0 x1 x5 x6 x7 h) ?_ ?_ m30 ⟨_,_,_,_,_,rfl,H⟩
   ·rintro L' h ⟨_,_,_,_,_,_,H⟩;exact H
   ·rintro q2 L' h ⟨x0,x1,x5,x6,x7,rfl,H⟩;unfold F.xaa.l2 at H;refine aj (sr (qm rfl (qm rfl (tq (bB (ts:=#[]) ZY (o:=x1.ptr) (n:=x1.len) (cap:=x1.cap) rfl) (tq (bN rfl rfl) (nt ?_))))));refine am rfl (fun g7=>?_) (fun g7=>?_)
    ·replace H:=H.1 g7;refine au (aa ?_);refine aG (fun L' h=>∃ (x0:Sl) (x1:Sl) (x5:Sl) (x6:Int) (x7:Int),L'=[(0,x0.enc),(1,x1.enc),(5,x5.enc),(6,(.int .i64 x6)),(7,(.int .i64 x7))]∧F.xaa.j3 Q (F.xaa.l1 Q q1) (F.xaa.l2 Q (F.xaa.l1 Q q1) q2) x0 x1 x5 x6 x7 h) ?_ ?_
     ·rintro L' h ⟨x0,x1,x5,x6,x7,rfl,H⟩;unfold F.xaa.j3 at H;refine ai (qm rfl (tq (bE rfl rfl) (qa rfl (nt ?_))));exact ah [(0,x0.enc),(1,x1.enc),(5,x5.enc),(6,(.int .i64 x6)),(7,(.int .i64 (IntKind.wrap .i64 (x7+1))))] ⟨rfl,rfl,rfl,rfl,rfl,tv⟩ ⟨_,_,_,_,_,rfl,H⟩
     ·refine aB ?_;refine aG (fun L' h=>∃ (x0:Sl) (x1:Sl) (x5:Sl) (x6:Int) (x7:Int) (x62:Bool),L'=[(0,x0.enc),(1,x1.enc),(5,x5.enc),(6,(.int .i64 x6)),(7,(.int .i64 x7)),(62,(.bool x62))]∧F.xaa.j4 Q (F.xaa.l1 Q q1) (F.xaa.l2 Q (F.xaa.l1 Q q1) q2) x0 x1 x5 x6 x7 x62 h) ?_ ?_
      ·rintro L' h ⟨x0,x1,x5,x6,x7,x62,rfl,H⟩;unfold F.xaa.j4 at H;refine am rfl (fun g8=>?_) (fun g8=>?_)
       ·replace H:=H.1 g8;refine ai (qm rfl (qm rfl ?_));obtain ⟨a9,e10,H⟩:=H;refine tq (bf (s:=x5) ZBS Z2 rfl rfl e10) (te (aK (vs:=[(.bool true)]) Z2 rfl rfl rfl rfl (de rfl) H) ?_);rintro _ h11 ⟨rfl,H⟩;refine bo (aI (aa ?_));exact ah [(0,x0.enc),(1,x1.enc),(5,x5.enc),(6,(.int .i64 x6)),(7,(.int .i64 x7))] ⟨rfl,rfl,rfl,rfl,rfl,tv⟩ ⟨_,_,_,_,_,rfl,H⟩
       ·replace H:=H.2 g8;refine au (aI (aa ?_));exact ah [(0,x0.enc),(1,x1.enc),(5,x5.enc),(6,(.int .i64 x6)),(7,(.int .i64 x7))] ⟨rfl,rfl,rfl,rfl,rfl,tv⟩ ⟨_,_,_,_,_,rfl,H⟩
      ·refine bv mixed [0,0,3,7,15,0,0,96,224,511,1023,2047,2047,6143,14335,32767,65535,131071,131071,393215,1048575,2097151,4194303,131071,131071,25296895,58851327,134217727,268435455,536870911] (by kernel_rfl) (gq 0 1 rfl (aw rfl) (gq 1 3 rfl (aw rfl) ?_));obtain ⟨a12,e13,H⟩:=H;refine gq 2 7 rfl (bf (s:=x0) ZO Zt rfl rfl e13) (gq 3 15 rfl (ay (off:=0) Z5 km rfl) ?_);obtain ⟨y14,k15,H⟩:=H;refine gh 4 31 rfl (aD ZC rfl) k15 (gq 5 63 rfl (aw rfl) (gq 6 127 rfl (aw rfl) ?_));obtain ⟨a16,e17,H⟩:=H;refine gq 7 255 rfl (bf (s:=x1) ZY ZQ rfl rfl e17) ?_;obtain ⟨y18,k19,H⟩:=H;refine gh 8 511 rfl (aD ZC rfl) k19 (gq 9 1023 rfl (lh rfl rfl) (gq 10 2047 rfl (aw rfl) ?_));refine eO (t:=43) rfl (fun g20=>?_) (fun g20=>?_)
       ·replace H:=H.1 g20;refine gq 11 4095 rfl (aw rfl) (gq 12 8191 rfl (aw rfl) (gq 13 16383 rfl (bB (ts:=#[]) ZO (o:=x0.ptr) (n:=x0.len) (cap:=x0.cap) rfl) (gq 14 32767 rfl (cJ rfl rfl) (gq 15 65535 rfl (ct rfl rfl) (gq 16 131071 rfl (aw rfl) ?_)))));refine eO (t:=49) rfl (fun g21=>?_) (fun g21=>?_)
        ·replace H:=H.1 g21;refine gs 17 262143 rfl (gs 18 524287 rfl (gs 19 1048575 rfl (gs 20 2097151 rfl (gs 21 4194303 rfl (gs 22 8388607 rfl (gs 23 16777215 rfl (gs 24 33554431 rfl (gs 25 67108863 rfl (gs 26 134217727 rfl (gs 27 268435455 rfl (gq 28 536870911 rfl (aL rfl rfl) (gq 29 1073741823 rfl (aL rfl rfl) (g_d (by kernel_rfl) ?_)))))))))))));refine aa ?_;exact ah [(0,x0.enc),(1,x1.enc),(5,x5.enc),(6,(.int .i64 x6)),(7,(.int .i64 x7)),(62,(.bool true))] ⟨rfl,rfl,rfl,rfl,rfl,rfl,tv⟩ ⟨_,_,_,_,_,_,rfl,H⟩
        ·replace H:=H.2 g21;refine gq 17 262143 rfl (aw rfl) (gq 18 524287 rfl (aw rfl) (gq 19 1048575 rfl (bE rfl rfl) ?_));obtain ⟨a22,e23,H⟩:=H;refine gq 20 2097151 rfl (bf (s:=x0) ZO Zt rfl rfl e23) (gq 21 4194303 rfl (ay (off:=0) Z5 km rfl) ?_);obtain ⟨y24,k25,H⟩:=H;refine gh 22 8388607 rfl (aD ZC rfl) k25 (gq 23 16777215 rfl (aw rfl) (gq 24 33554431 rfl (aw rfl) ?_));obtain ⟨a26,e27,H⟩:=H;refine gq 25 67108863 rfl (bf (s:=x1) ZY ZQ rfl rfl e27) ?_;obtain ⟨y28,k29,H⟩:=H;refine gh 26 134217727 rfl (aD ZC rfl) k29 (gq 27 268435455 rfl (df rfl rfl) (gq 28 536870911 rfl (aH rfl rfl) (gq 29 1073741823 rfl (aL rfl rfl) (g_d (by kernel_rfl) (aa ?_)))));exact ah [(0,x0.enc),(1,x1.enc),(5,x5.enc),(6,(.int .i64 x6)),(7,(.int .i64 x7)),(62,(.bool (decide (y24 > y28))))] ⟨rfl,rfl,rfl,rfl,rfl,rfl,tv⟩ ⟨_,_,_,_,_,_,rfl,H⟩
       ·replace H:=H.2 g20;refine gs 11 4095 rfl (gs 12 8191 rfl (gs 13 16383 rfl (gs 14 32767 rfl (gs 15 65535 rfl (gs 16 131071 rfl (gs 17 262143 rfl (gs 18 524287 rfl (gs 19 1048575 rfl (gs 20 2097151 rfl (gs 21 4194303 rfl (gs 22 8388607 rfl (gs 23 16777215 rfl (gs 24 33554431 rfl ?_)))))))))))));refine gs 25 67108863 rfl (gs 26 134217727 rfl (gs 27 268435455 rfl (gs 28 536870911 rfl (gq 29 1073741823 rfl (aH rfl rfl) (g_d (by kernel_rfl) (aa ?_))))));exact ah [(0,x0.enc),(1,x1.enc),(5,x5.enc),(6,(.int .i64 x6)),(7,(.int .i64 x7)),(62,(.bool false))] ⟨rfl,rfl,rfl,rfl,rfl,rfl,tv⟩ ⟨_,_,_,_,_,_,rfl,H⟩
    ·replace H:=H.2 g7;refine bC (aF (aF (bV (aI (aa (ai (qm rfl (tq (bE rfl rfl) (qa rfl (nt ?_))))))))));exact ah [(0,x0.enc),(1,x1.enc),(5,x5.enc),(6,(.int .i64 (IntKind.wrap .i64 (x6+1))))] ⟨rfl,rfl,rfl,rfl,tv⟩ ⟨_,_,_,_,rfl,H⟩
  ·replace H:=H.2 g3;refine bC (aF (aF (bV (aa (sr (qa rfl (nt (aj (sr (qa rfl ?_))))))))));refine nt (aB ?_);obtain ⟨m51,H⟩:=H;refine az [(0,x0.enc),(5,x5.enc),(8,(⟨none,0,0⟩:Sl).enc),(9,(.int .i64 0))] ⟨rfl,rfl,rfl,rfl,tv⟩ ?_;refine aY (fun m L' h=>∃ (x0:Sl) (x5:Sl) (x8:Sl) (x9:Int),L'=[(0,x0.enc),(5,x5.enc),(8,x8.enc),(9,(.int .i64 x9))]∧F.xaa.l5 Q m x0 x5 x8 x9 h) ?_ ?_ m51 ⟨_,_,_,_,rfl,H⟩
   ·rintro L' h ⟨_,_,_,_,_,H⟩;exact H
   ·rintro q5 L' h ⟨x0,x5,x8,x9,rfl,H⟩;unfold F.xaa.l5 at H;refine aj (sr (qm rfl (qm rfl (tq (bB (ts:=#[]) ZO (o:=x0.ptr) (n:=x0.len) (cap:=x0.cap) rfl) (tq (bN rfl rfl) (nt ?_))))));refine am rfl (fun g31=>?_) (fun g31=>?_)
    ·replace H:=H.1 g31;refine au (aa ?_);refine aG (fun L' h=>∃ (x0:Sl) (x5:Sl) (x8:Sl) (x9:Int),L'=[(0,x0.enc),(5,x5.enc),(8,x8.enc),(9,(.int .i64 x9))]∧F.xaa.j6 Q (F.xaa.l5 Q q5) x0 x5 x8 x9 h) ?_ ?_
     ·rintro L' h ⟨x0,x5,x8,x9,rfl,H⟩;unfold F.xaa.j6 at H;refine ai (qm rfl (tq (bE rfl rfl) (qa rfl (nt ?_))));exact ah [(0,x0.enc),(5,x5.enc),(8,x8.enc),(9,(.int .i64 (IntKind.wrap .i64 (x9+1))))] ⟨rfl,rfl,rfl,rfl,tv⟩ ⟨_,_,_,_,rfl,H⟩
     ·refine aB (sr (qm rfl (qm rfl ?_)));obtain ⟨a32,e33,H⟩:=H;refine tq (bf (s:=x5) ZBS Z2 rfl rfl e33) ?_;obtain ⟨y34,k35,H⟩:=H;refine th (aD Zj rfl) k35 (nt ?_);refine am rfl (fun g36=>?_) (fun g36=>?_)
      ·replace H:=H.1 g36;refine ai (qm rfl (qm rfl (qm rfl ?_)));obtain ⟨a37,e38,H⟩:=H;refine tq (bf (s:=x0) ZO Zt rfl rfl e38) ?_;obtain ⟨y39,k40,H⟩:=H;refine th (aQ Tryz.isAgg196 Zt rfl rfl) k40 (te (co (cs:=(y39.cells).toArray) rfl rfl (qr y39) H) ?_);rintro _ h41 ⟨s42,rfl,H⟩;refine te (dV rfl H) ?_;rintro _ h43 ⟨s44,rfl,H⟩;refine qa rfl (bo (aI (aa ?_)));exact ah [(0,x0.enc),(5,x5.enc),(8,s44.enc),(9,(.int .i64 x9))] ⟨rfl,rfl,rfl,rfl,tv⟩ ⟨_,_,_,_,rfl,H⟩
      ·replace H:=H.2 g36;refine au (aI (aa ?_));exact ah [(0,x0.enc),(5,x5.enc),(8,x8.enc),(9,(.int .i64 x9))] ⟨rfl,rfl,rfl,rfl,tv⟩ ⟨_,_,_,_,rfl,H⟩
    ·replace H:=H.2 g31;refine bC (aF (aF (bV (aa ?_))));refine aG (fun L' h=>∃ (x8:Sl),L'=[(8,x8.enc)]∧F.xaa.j7 Q x8 h) ?_ ?_
     ·rintro L' h ⟨x8,rfl,H⟩;unfold F.xaa.j7 at H;refine sr (qm rfl (qa rfl (nt (al ?_))));exact an rfl rfl ⟨_,rfl,H⟩
     ·refine aG (fun L' h=>∃ (x8:Sl) (x91:Bool),L'=[(8,x8.enc),(91,(.bool x91))]∧F.xaa.j8 Q x8 x91 h) ?_ ?_
      ·rintro L' h ⟨x8,x91,rfl,H⟩;unfold F.xaa.j8 at H;refine am rfl (fun g45=>?_) (fun g45=>?_)
       ·replace H:=H.1 g45;refine sr (qa rfl (nt (al (aq ?_))));exact an rfl rfl ⟨_,rfl,H⟩
       ·replace H:=H.2 g45;refine au (aa ?_);exact ah [(8,x8.enc)] ⟨rfl,tv⟩ ⟨_,rfl,H⟩
      ·refine ai (qm rfl (tq (bB (ts:=#[]) ZO (o:=x8.ptr) (n:=x8.len) (cap:=x8.cap) rfl) (tq (ct rfl rfl) (qm rfl ?_))));refine aT (t:=86) rfl (fun g46=>?_) (fun g46=>?_)
       ·replace H:=H.1 g46;refine qm rfl ?_;obtain ⟨a47,e48,H⟩:=H;refine tq (bf (s:=x8) ZO Zt rfl rfl e48) (tq (ay (off:=5) Z5 lF rfl) ?_);obtain ⟨y49,k50,H⟩:=H;refine th (aD Zj rfl) k50 (tq (aL rfl rfl) (nt ?_));exact ah [(8,x8.enc),(91,(.bool y49))] ⟨rfl,rfl,tv⟩ ⟨_,_,rfl,H⟩
       ·replace H:=H.2 g46;refine ts (ts (ts (ts (tq (aH rfl rfl) (nt ?_)))));exact ah [(8,x8.enc),(91,(.bool false))] ⟨rfl,rfl,tv⟩ ⟨_,_,rfl,H⟩
def F.xbl.j2 (Q:Int->H->Prop) (C1:(Option Addr)->Sl->Int->Sl->Int->H->Prop) (x0:Option Addr) (x1:Sl) (x5:Int) (x6:Sl) (x7:Int) (h:H):Prop:=
  C1 x0 x1 x5 x6 (IntKind.wrap .i64 (x7+1)) h
def F.xbl.l1 (Q:Int->H->Prop):Nat->(Option Addr)->Sl->Int->Sl->Int->H->Prop
  | 0,_,_,_,_,_,_=>False
  | q1+1,x0,x1,x5,x6,x7,h =>
    nn x0 fun a3 =>
    ldL h (a3.add 1) fun y5 =>
    ((decide (x7<(y5.len:Int)))=true ->
    nn x0 fun a8 =>
    ldL h (a8.add 1) fun y10 =>
    bD y10 x7 4 fun a12 =>
    ldL h (a12.add 3) fun y14 =>
    F.xaa y14 x1 h fun r17 h16 =>
    ((decide ((r17.len:Int) > 0))=true ->
    nn x0 fun a19 =>
    ldL h16 (a19.add 1) fun y21 =>
    bD y21 x7 4 fun a23 =>
    ak h16 (a23.add 0) fun y25 =>
    fv h16 (((⟨y25,r17⟩:ci).cells).toArray) wL 1 fun s28 h27 =>
    dA PP (Builtin.append_ #[137,137] 137 #[x6.enc,s28.enc]) h27 fun s30 h29 =>
    F.xbl.j2 Q (F.xbl.l1 Q q1) x0 x1 x5 s30 x7 h29) ∧
    ((decide ((r17.len:Int) > 0))=false ->
    F.xbl.j2 Q (F.xbl.l1 Q q1) x0 x1 x5 x6 x7 h16)) ∧
    ((decide (x7<(y5.len:Int)))=false ->
    nn x0 fun a31 =>
    stH h (a31.add 1) [x6.enc] fun h33 =>
    F.xbh x0 h33 fun r35 h34 =>
    Q (IntKind.wrap .i64 (x5-r35)) h34)
def F.xbl (p0:Option Addr) (p1:Sl) (h:H) (Q:Int->H->Prop):Prop:=
  F.xbh p0 h fun r2 h1 =>
  ∃ m,F.xbl.l1 Q m p0 p1 r2 (⟨none,0,0⟩:Sl) 0 h1
theorem F.xbl_ok {p0:Option Addr}{p1:Sl}{h:H}{Q:Int->H->Prop}(H:F.xbl p0 p1 h Q):Fn PP 113 ([(.pointer p0),p1.enc]:List Value).toArray h fun r h'=>∃ r0,r=(.int .i64 r0)∧Q r0 h':=by
 unfold F.xbl at H;refine aV Tryz.func113 Tryz.ntmps113 rfl rfl fun w0=>(az [(0,(.pointer p0)),(1,p1.enc)] ⟨rfl,rfl,tv⟩ (sr (qa rfl (nt (sr (qm rfl (te (av Tryz.call119 rfl (F.xbh_ok H)) ?_)))))));rintro _ h1 ⟨r2,rfl,H⟩;refine qa rfl (nt (sr (qa rfl (nt (aj (sr (qa rfl (nt ?_))))))));refine aB ?_;obtain ⟨m36,H⟩:=H;refine az [(0,(.pointer p0)),(1,p1.enc),(5,(.int .i64 r2)),(6,(⟨none,0,0⟩:Sl).enc),(7,(.int .i64 0))] ⟨rfl,rfl,rfl,rfl,rfl,tv⟩ ?_;refine aY (fun m L' h=>∃ (x0:Option Addr) (x1:Sl) (x5:Int) (x6:Sl) (x7:Int),L'=[(0,(.pointer x0)),(1,x1.enc),(5,(.int .i64 x5)),(6,x6.enc),(7,(.int .i64 x7))]∧F.xbl.l1 Q m x0 x1 x5 x6 x7 h) ?_ ?_ m36 ⟨_,_,_,_,_,rfl,H⟩
 ·rintro L' h ⟨_,_,_,_,_,_,H⟩;exact H
 ·rintro q1 L' h ⟨x0,x1,x5,x6,x7,rfl,H⟩;unfold F.xbl.l1 at H;refine aj (sr (qm rfl (qm rfl ?_)));obtain ⟨a3,e4,H⟩:=H;refine tq (bG rfl e4) (tq (ay (off:=1) ZX dc rfl) ?_);obtain ⟨y5,k6,H⟩:=H;refine th (aD Ze rfl) k6 (tq (bB (ts:=#[]) Zf (o:=y5.ptr) (n:=y5.len) (cap:=y5.cap) rfl) (tq (bN rfl rfl) (nt ?_)));refine am rfl (fun g7=>?_) (fun g7=>?_)
  ·replace H:=H.1 g7;refine au (aa ?_);refine aG (fun L' h=>∃ (x0:Option Addr) (x1:Sl) (x5:Int) (x6:Sl) (x7:Int),L'=[(0,(.pointer x0)),(1,x1.enc),(5,(.int .i64 x5)),(6,x6.enc),(7,(.int .i64 x7))]∧F.xbl.j2 Q (F.xbl.l1 Q q1) x0 x1 x5 x6 x7 h) ?_ ?_
   ·rintro L' h ⟨x0,x1,x5,x6,x7,rfl,H⟩;unfold F.xbl.j2 at H;refine ai (qm rfl (tq (bE rfl rfl) (qa rfl (nt ?_))));exact ah [(0,(.pointer x0)),(1,x1.enc),(5,(.int .i64 x5)),(6,x6.enc),(7,(.int .i64 (IntKind.wrap .i64 (x7+1))))] ⟨rfl,rfl,rfl,rfl,rfl,tv⟩ ⟨_,_,_,_,_,rfl,H⟩
   ·refine aB (sr (qm rfl ?_));obtain ⟨a8,e9,H⟩:=H;refine tq (bG rfl e9) (tq (ay (off:=1) ZX dc rfl) ?_);obtain ⟨y10,k11,H⟩:=H;refine th (aD Ze rfl) k11 (qm rfl ?_);obtain ⟨a12,e13,H⟩:=H;refine tq (bf (s:=y10) Zf Zy rfl rfl e13) (tq (ay (off:=3) Z4 iO rfl) ?_);obtain ⟨y14,k15,H⟩:=H;refine th (aD ZBL rfl) k15 (qm rfl (te (av Tryz.call138 rfl (F.xaa_ok H)) ?_));rintro _ h16 ⟨r17,rfl,H⟩;refine qa rfl (nt (sr (qm rfl (tq (bB (ts:=#[]) ZO (o:=r17.ptr) (n:=r17.len) (cap:=r17.cap) rfl) (tq (df rfl rfl) (nt ?_))))));refine am rfl (fun g18=>?_) (fun g18=>?_)
    ·replace H:=H.1 g18;refine ai (qm rfl (qm rfl ?_));obtain ⟨a19,e20,H⟩:=H;refine tq (bG rfl e20) (tq (ay (off:=1) ZX dc rfl) ?_);obtain ⟨y21,k22,H⟩:=H;refine th (aD Ze rfl) k22 (qm rfl ?_);obtain ⟨a23,e24,H⟩:=H;refine tq (bf (s:=y21) Zf Zy rfl rfl e24) (tq (ay (off:=0) Z4 ny rfl) ?_);obtain ⟨y25,k26,H⟩:=H;refine th (aQ ZB ZA rfl rfl) k26 (qm rfl (tq (bO rfl (qo y25 r17)) (te (co (cs:=((⟨y25,r17⟩:ci).cells).toArray) rfl rfl (qp (⟨y25,r17⟩:ci)) H) ?_)));rintro _ h27 ⟨s28,rfl,H⟩;refine te (dV rfl H) ?_;rintro _ h29 ⟨s30,rfl,H⟩;refine qa rfl (bo (aI (aa ?_)));exact ah [(0,(.pointer x0)),(1,x1.enc),(5,(.int .i64 x5)),(6,s30.enc),(7,(.int .i64 x7))] ⟨rfl,rfl,rfl,rfl,rfl,tv⟩ ⟨_,_,_,_,_,rfl,H⟩
    ·replace H:=H.2 g18;refine au (aI (aa ?_));exact ah [(0,(.pointer x0)),(1,x1.enc),(5,(.int .i64 x5)),(6,x6.enc),(7,(.int .i64 x7))] ⟨rfl,rfl,rfl,rfl,rfl,tv⟩ ⟨_,_,_,_,_,rfl,H⟩
  ·replace H:=H.2 g7;refine bC (aF (aF (bV (aa (sr (qm rfl (qm rfl ?_)))))));obtain ⟨a31,e32,H⟩:=H;refine tq (bG rfl e32) (tq (ay (off:=1) ZX dc rfl) (te (aK (vs:=[x6.enc]) Tryz.sizeOf137 rfl rfl rfl rfl (de rfl) H) ?_));rintro _ h33 ⟨rfl,H⟩;refine nt (sr (qm rfl (qm rfl (te (av Tryz.call119 rfl (F.xbh_ok H)) ?_))));rintro _ h34 ⟨r35,rfl,H⟩;refine tq (cJ rfl rfl) (qa rfl (nt (al ?_)));exact an rfl rfl ⟨_,rfl,H⟩
def F.xcb.j1 (Q:Int->H->Prop) (x0:Option Addr) (x1:Int) (x2:Sl) (h:H):Prop:=
  nn x0 fun a1 =>
  ldL h (a1.add 0) fun y3 =>
  bD y3 x1 1 fun a5 =>
  ldP h a5 fun y7 =>
  F.xbl y7 x2 h fun r10 h9 =>
  Q r10 h9
def F.xcb.j2 (Q:Int->H->Prop) (x0:Option Addr) (x1:Int) (x2:Sl) (x17:Bool) (h:H):Prop:=
  (x17=true ->
  Q 0 h) ∧
  (x17=false ->
  F.xcb.j1 Q x0 x1 x2 h)
def F.xcb (p0:Option Addr) (p1:Int) (p2:Sl) (h:H) (Q:Int->H->Prop):Prop:=
  ((decide (p1<0))=true ->
  F.xcb.j2 Q p0 p1 p2 true h) ∧
  ((decide (p1<0))=false ->
  nn p0 fun a13 =>
  ldL h (a13.add 0) fun y15 =>
  F.xcb.j2 Q p0 p1 p2 (decide (p1>=(y15.len:Int))) h)
theorem F.xcb_ok {p0:Option Addr}{p1:Int}{p2:Sl}{h:H}{Q:Int->H->Prop}(H:F.xcb p0 p1 p2 h Q):Fn PP 77 ([(.pointer p0),(.int .i64 p1),p2.enc]:List Value).toArray h fun r h'=>∃ r0,r=(.int .i64 r0)∧Q r0 h':=by
 unfold F.xcb at H;refine aV Tryz.func77 Tryz.ntmps77 rfl rfl fun w0=>(az [(0,(.pointer p0)),(1,(.int .i64 p1)),(2,p2.enc)] ⟨rfl,rfl,rfl,tv⟩ (sr (qa rfl (nt ?_))));refine aG (fun L' h=>∃ (x0:Option Addr) (x1:Int) (x2:Sl),L'=[(0,(.pointer x0)),(1,(.int .i64 x1)),(2,x2.enc)]∧F.xcb.j1 Q x0 x1 x2 h) ?_ ?_
 ·rintro L' h ⟨x0,x1,x2,rfl,H⟩;unfold F.xcb.j1 at H;refine sr (qm rfl ?_);obtain ⟨a1,e2,H⟩:=H;refine tq (bG rfl e2) (tq (ay (off:=0) Zg dY rfl) ?_);obtain ⟨y3,k4,H⟩:=H;refine th (aD Zk rfl) k4 (qm rfl ?_);obtain ⟨a5,e6,H⟩:=H;refine tq (bf (s:=y3) Zm ZBD rfl rfl e6) ?_;obtain ⟨y7,k8,H⟩:=H;refine th (aD ZBE rfl) k8 (qm rfl (te (av Tryz.call113 rfl (F.xbl_ok H)) ?_));rintro _ h9 ⟨r10,rfl,H⟩;refine qa rfl (nt (al ?_));exact an rfl rfl ⟨_,rfl,H⟩
 ·refine aG (fun L' h=>∃ (x0:Option Addr) (x1:Int) (x2:Sl) (x17:Bool),L'=[(0,(.pointer x0)),(1,(.int .i64 x1)),(2,x2.enc),(17,(.bool x17))]∧F.xcb.j2 Q x0 x1 x2 x17 h) ?_ ?_
  ·rintro L' h ⟨x0,x1,x2,x17,rfl,H⟩;unfold F.xcb.j2 at H;refine am rfl (fun g11=>?_) (fun g11=>?_)
   ·replace H:=H.1 g11;refine sr (qa rfl (nt (al (aq ?_))));exact an rfl rfl ⟨_,rfl,H⟩
   ·replace H:=H.2 g11;refine au (aa ?_);exact ah [(0,(.pointer x0)),(1,(.int .i64 x1)),(2,x2.enc)] ⟨rfl,rfl,rfl,tv⟩ ⟨_,_,_,rfl,H⟩
  ·refine ai (qm rfl (tq (bN rfl rfl) (qm rfl ?_)));refine aT (t:=9) rfl (fun g12=>?_) (fun g12=>?_)
   ·replace H:=H.1 g12;refine ts (ts (ts (ts (ts (ts (ts (tq (aL rfl rfl) (nt ?_))))))));exact ah [(0,(.pointer p0)),(1,(.int .i64 p1)),(2,p2.enc),(17,(.bool true))] ⟨rfl,rfl,rfl,rfl,tv⟩ ⟨_,_,_,_,rfl,H⟩
   ·replace H:=H.2 g12;refine qm rfl (qm rfl ?_);obtain ⟨a13,e14,H⟩:=H;refine tq (bG rfl e14) (tq (ay (off:=0) Zg dY rfl) ?_);obtain ⟨y15,k16,H⟩:=H;refine th (aD Zk rfl) k16 (tq (bB (ts:=#[]) Zm (o:=y15.ptr) (n:=y15.len) (cap:=y15.cap) rfl) (tq (jT rfl rfl) (tq (aH rfl rfl) (nt ?_))));exact ah [(0,(.pointer p0)),(1,(.int .i64 p1)),(2,p2.enc),(17,(.bool (decide (p1>=(y15.len:Int)))))] ⟨rfl,rfl,rfl,rfl,tv⟩ ⟨_,_,_,_,rfl,H⟩
def F.xba.j2 (Q:Bool->H->Prop) (C1:Sl->Sl->Bool->Int->H->Prop) (x0:Sl) (x1:Sl) (x6:Bool) (x7:Int) (h:H):Prop:=
  C1 x0 x1 x6 (IntKind.wrap .i64 (x7+1)) h
def F.xba.j3 (Q:Bool->H->Prop) (C1:Sl->Sl->Bool->Int->H->Prop) (x0:Sl) (x1:Sl) (x6:Bool) (x7:Int) (h:H):Prop:=
  bD x0 x7 1 fun a8 =>
  stH h a8 [(.int .i64 31)] fun h10 =>
  F.xba.j2 Q C1 x0 x1 x6 x7 h10
def F.xba.l1 (Q:Bool->H->Prop):Nat->Sl->Sl->Bool->Int->H->Prop
  | 0,_,_,_,_,_=>False
  | q1+1,x0,x1,x6,x7,h =>
    ((decide (x7<(x1.len:Int)))=true ->
    (x6=true ->
    bD x0 x7 1 fun a12 =>
    ldI .i64 h a12 fun y14 =>
    bD x1 x7 1 fun a16 =>
    ldI .i64 h a16 fun y18 =>
    F.xba.j3 Q (F.xba.l1 Q q1) x0 x1 ((y14 == y18)) x7 h) ∧
    (x6=false ->
    F.xba.j3 Q (F.xba.l1 Q q1) x0 x1 false x7 h)) ∧
    ((decide (x7<(x1.len:Int)))=false ->
    Q x6 h)
def F.xba (p0:Sl) (p1:Sl) (h:H) (Q:Bool->H->Prop):Prop:=
  ly p0 0 (IntKind.wrap .i64 ((p1.len:Int)+1)) 1 fun s2 =>
  bD s2 (p1.len:Int) 1 fun a3 =>
  ldI .i64 h a3 fun y5 =>
  ∃ m,F.xba.l1 Q m p0 p1 ((y5 == (-77))) 0 h
theorem F.xba_ok {p0:Sl}{p1:Sl}{h:H}{Q:Bool->H->Prop}(H:F.xba p0 p1 h Q):Fn PP 78 ([p0.enc,p1.enc]:List Value).toArray h fun r h'=>∃ r0,r=(.bool r0)∧Q r0 h':=by
 unfold F.xba at H;refine aV Tryz.func78 Tryz.ntmps78 rfl rfl fun w0=>(az [(0,p0.enc),(1,p1.enc)] ⟨rfl,rfl,tv⟩ (sr (qa rfl (nt (sr (qm rfl (qm rfl (tq (bB (ts:=#[]) ZY (o:=p1.ptr) (n:=p1.len) (cap:=p1.cap) rfl) (tq (bE rfl rfl) ?_)))))))));obtain ⟨s2,e1,H⟩:=H;refine tq (gU (s:=p0) none (some (.i64,(IntKind.wrap .i64 ((p1.len:Int)+1)))) ZY ZQ rfl rfl rfl e1) (qa rfl (nt (sr (qm rfl (qm rfl (tq (bB (ts:=#[]) ZY (o:=p1.ptr) (n:=p1.len) (cap:=p1.cap) rfl) ?_))))));obtain ⟨a3,e4,H⟩:=H;refine tq (bf (s:=s2) ZY ZQ rfl rfl e4) ?_;obtain ⟨y5,k6,H⟩:=H;refine th (aD ZC rfl) k6 (tq (ct rfl rfl) (qa rfl (nt (aj (sr (qa rfl (nt (aB ?_))))))));obtain ⟨m20,H⟩:=H;refine az [(0,p0.enc),(1,p1.enc),(6,(.bool ((y5 == (-77))))),(7,(.int .i64 0))] ⟨rfl,rfl,rfl,rfl,tv⟩ ?_;refine aY (fun m L' h=>∃ (x0:Sl) (x1:Sl) (x6:Bool) (x7:Int),L'=[(0,x0.enc),(1,x1.enc),(6,(.bool x6)),(7,(.int .i64 x7))]∧F.xba.l1 Q m x0 x1 x6 x7 h) ?_ ?_ m20 ⟨_,_,_,_,rfl,H⟩
 ·rintro L' h ⟨_,_,_,_,_,H⟩;exact H
 ·rintro q1 L' h ⟨x0,x1,x6,x7,rfl,H⟩;unfold F.xba.l1 at H;refine aj (sr (qm rfl (qm rfl (tq (bB (ts:=#[]) ZY (o:=x1.ptr) (n:=x1.len) (cap:=x1.cap) rfl) (tq (bN rfl rfl) (nt ?_))))));refine am rfl (fun g7=>?_) (fun g7=>?_)
  ·replace H:=H.1 g7;refine au (aa ?_);refine aG (fun L' h=>∃ (x0:Sl) (x1:Sl) (x6:Bool) (x7:Int),L'=[(0,x0.enc),(1,x1.enc),(6,(.bool x6)),(7,(.int .i64 x7))]∧F.xba.j2 Q (F.xba.l1 Q q1) x0 x1 x6 x7 h) ?_ ?_
   ·rintro L' h ⟨x0,x1,x6,x7,rfl,H⟩;unfold F.xba.j2 at H;refine ai (qm rfl (tq (bE rfl rfl) (qa rfl (nt ?_))));exact ah [(0,x0.enc),(1,x1.enc),(6,(.bool x6)),(7,(.int .i64 (IntKind.wrap .i64 (x7+1))))] ⟨rfl,rfl,rfl,rfl,tv⟩ ⟨_,_,_,_,rfl,H⟩
   ·refine aB ?_;refine aG (fun L' h=>∃ (x0:Sl) (x1:Sl) (x6:Bool) (x7:Int),L'=[(0,x0.enc),(1,x1.enc),(6,(.bool x6)),(7,(.int .i64 x7))]∧F.xba.j3 Q (F.xba.l1 Q q1) x0 x1 x6 x7 h) ?_ ?_
    ·rintro L' h ⟨x0,x1,x6,x7,rfl,H⟩;unfold F.xba.j3 at H;refine ai (qm rfl (qm rfl ?_));obtain ⟨a8,e9,H⟩:=H;refine tq (bf (s:=x0) ZY ZQ rfl rfl e9) (te (aK (vs:=[(.int .i64 31)]) ZQ rfl rfl rfl rfl (de rfl) H) ?_);rintro _ h10 ⟨rfl,H⟩;refine bo (aI (aa ?_));exact ah [(0,x0.enc),(1,x1.enc),(6,(.bool x6)),(7,(.int .i64 x7))] ⟨rfl,rfl,rfl,rfl,tv⟩ ⟨_,_,_,_,rfl,H⟩
    ·refine bv mixed [0,1,3,3,15,31,3,3,195,451,1023,2047,4095] (by kernel_rfl) (gq 0 1 rfl (aw rfl) (gq 1 3 rfl (aw rfl) ?_));refine eO (t:=26) rfl (fun g11=>?_) (fun g11=>?_)
     ·replace H:=H.1 g11;refine gq 2 7 rfl (aw rfl) (gq 3 15 rfl (aw rfl) ?_);obtain ⟨a12,e13,H⟩:=H;refine gq 4 31 rfl (bf (s:=x0) ZY ZQ rfl rfl e13) ?_;obtain ⟨y14,k15,H⟩:=H;refine gh 5 63 rfl (aD ZC rfl) k15 (gq 6 127 rfl (aw rfl) (gq 7 255 rfl (aw rfl) ?_));obtain ⟨a16,e17,H⟩:=H;refine gq 8 511 rfl (bf (s:=x1) ZY ZQ rfl rfl e17) ?_;obtain ⟨y18,k19,H⟩:=H;refine gh 9 1023 rfl (aD ZC rfl) k19 (gq 10 2047 rfl (ct rfl rfl) (gq 11 4095 rfl (aL rfl rfl) (g_e 12 8191 [] (by kernel_rfl) rfl (by kernel_rfl) (rz (bp rfl)) rfl rfl ?_)));rintro _ _ ⟨rfl,rfl⟩;refine ⟨trivial,?_⟩;refine g_d (by kernel_rfl) (aa ?_);exact ah [(0,x0.enc),(1,x1.enc),(6,(.bool ((y14 == y18)))),(7,(.int .i64 x7))] ⟨rfl,rfl,rfl,rfl,tv⟩ ⟨_,_,_,_,rfl,H⟩
     ·replace H:=H.2 g11;refine gs 2 7 rfl (gs 3 15 rfl (gs 4 31 rfl (gs 5 63 rfl (gs 6 127 rfl (gs 7 255 rfl (gs 8 511 rfl (gs 9 1023 rfl (gs 10 2047 rfl (gq 11 4095 rfl (aH rfl rfl) (g_e 12 8191 [] (by kernel_rfl) rfl (by kernel_rfl) (rz (bp rfl)) rfl rfl ?_))))))))));rintro _ _ ⟨rfl,rfl⟩;refine ⟨trivial,?_⟩;refine g_d (by kernel_rfl) (aa ?_);exact ah [(0,x0.enc),(1,x1.enc),(6,(.bool false)),(7,(.int .i64 x7))] ⟨rfl,rfl,rfl,rfl,tv⟩ ⟨_,_,_,_,rfl,H⟩
  ·replace H:=H.2 g7;refine bC (aF (aF (bV (aa (sr (qm rfl (qa rfl (nt (al ?_)))))))));exact an rfl rfl ⟨_,rfl,H⟩
def F.xas.j2 (Q:ag->Bool->H->Prop) (C1:Sl->Int->Addr->Int->H->Prop) (x0:Sl) (x1:Int) (x4:Addr) (x6:Int) (h:H):Prop:=
  C1 x0 x1 x4 (IntKind.wrap .i64 (x6-1)) h
def F.xas.j3 (Q:ag->Bool->H->Prop) (C1:Sl->Int->Addr->Int->H->Prop) (x0:Sl) (x1:Int) (x4:Addr) (x6:Int) (x24:Bool) (h:H):Prop:=
  (x24=true ->
  bD x0 x6 6 fun a5 =>
  bh h (a5.add 1) fun y7 =>
  bD x0 x6 6 fun a9 =>
  ldB h (a9.add 5) fun y11 =>
  stH h x4 y7.cells fun h13 =>
  aA h13 (a9.add 5)=some (.bool y11) ∧
  bh h13 x4 fun y15 =>
  Q y15 (!y11) h13) ∧
  (x24=false ->
  F.xas.j2 Q C1 x0 x1 x4 x6 h)
def F.xas.l1 (Q:ag->Bool->H->Prop):Nat->Sl->Int->Addr->Int->H->Prop
  | 0,_,_,_,_,_=>False
  | q1+1,x0,x1,x4,x6,h =>
    ((decide (x6>=0))=true ->
    (((x1 == 0))=true ->
    F.xas.j3 Q (F.xas.l1 Q q1) x0 x1 x4 x6 true h) ∧
    (((x1 == 0))=false ->
    bD x0 x6 6 fun a18 =>
    ldI .i64 h (a18.add 0) fun y20 =>
    F.xas.j3 Q (F.xas.l1 Q q1) x0 x1 x4 x6 (decide (y20<=x1)) h)) ∧
    ((decide (x6>=0))=false ->
    stH h x4 ((⟨0,0,0,0⟩:ag).cells) fun h22 =>
    bh h22 x4 fun y23 =>
    Q y23 false h22)
def F.xas (p0:Sl) (p1:Int) (h:H) (Q:ag->Bool->H->Prop):Prop:=
  new h (((⟨0,0,0,0⟩:ag):ag).cells.toArray) gz fun a2 h1 =>
  ∃ m,F.xas.l1 Q m p0 p1 a2 (IntKind.wrap .i64 ((p0.len:Int)-1)) h1
theorem F.xas_ok {p0:Sl}{p1:Int}{h:H}{Q:ag->Bool->H->Prop}(H:F.xas p0 p1 h Q):Fn PP 140 ([p0.enc,(.int .i64 p1)]:List Value).toArray h fun r h'=>∃ r0 r1,r=.tuple #[(.agg r0.cells.toArray),(.bool r1)]∧Q r0 r1 h':=by
 unfold F.xas at H;refine aV Tryz.func140 Tryz.ntmps140 rfl rfl fun w0=>(az [(0,p0.enc),(1,(.int .i64 p1))] ⟨rfl,rfl,tv⟩ (sr (te (bJ (cs:=((⟨0,0,0,0⟩:ag):ag).cells.toArray) Zo rfl H) ?_)));rintro _ h1 ⟨a2,rfl,H⟩;refine qa rfl (nt (aj (sr (qm rfl (tq (bB (ts:=#[]) ZO (o:=p0.ptr) (n:=p0.len) (cap:=p0.cap) rfl) (tq (cJ rfl rfl) (qa rfl (nt (aB ?_)))))))));obtain ⟨m25,H⟩:=H;refine az [(0,p0.enc),(1,(.int .i64 p1)),(4,(.pointer (some a2))),(6,(.int .i64 (IntKind.wrap .i64 ((p0.len:Int)-1))))] ⟨rfl,rfl,rfl,rfl,tv⟩ ?_;refine aY (fun m L' h=>∃ (x0:Sl) (x1:Int) (x4:Addr) (x6:Int),L'=[(0,x0.enc),(1,(.int .i64 x1)),(4,(.pointer (some x4))),(6,(.int .i64 x6))]∧F.xas.l1 Q m x0 x1 x4 x6 h) ?_ ?_ m25 ⟨_,_,_,_,rfl,H⟩
 ·rintro L' h ⟨_,_,_,_,_,H⟩;exact H
 ·rintro q1 L' h ⟨x0,x1,x4,x6,rfl,H⟩;unfold F.xas.l1 at H;refine aj (sr (qm rfl (tq (jT rfl rfl) (nt ?_))));refine am rfl (fun g3=>?_) (fun g3=>?_)
  ·replace H:=H.1 g3;refine au (aa ?_);refine aG (fun L' h=>∃ (x0:Sl) (x1:Int) (x4:Addr) (x6:Int),L'=[(0,x0.enc),(1,(.int .i64 x1)),(4,(.pointer (some x4))),(6,(.int .i64 x6))]∧F.xas.j2 Q (F.xas.l1 Q q1) x0 x1 x4 x6 h) ?_ ?_
   ·rintro L' h ⟨x0,x1,x4,x6,rfl,H⟩;unfold F.xas.j2 at H;refine ai (qm rfl (tq (cJ rfl rfl) (qa rfl (nt ?_))));exact ah [(0,x0.enc),(1,(.int .i64 x1)),(4,(.pointer (some x4))),(6,(.int .i64 (IntKind.wrap .i64 (x6-1))))] ⟨rfl,rfl,rfl,rfl,tv⟩ ⟨_,_,_,_,rfl,H⟩
   ·refine aB ?_;refine aG (fun L' h=>∃ (x0:Sl) (x1:Int) (x4:Addr) (x6:Int) (x24:Bool),L'=[(0,x0.enc),(1,(.int .i64 x1)),(4,(.pointer (some x4))),(6,(.int .i64 x6)),(24,(.bool x24))]∧F.xas.j3 Q (F.xas.l1 Q q1) x0 x1 x4 x6 x24 h) ?_ ?_
    ·rintro L' h ⟨x0,x1,x4,x6,x24,rfl,H⟩;unfold F.xas.j3 at H;refine am rfl (fun g4=>?_) (fun g4=>?_)
     ·replace H:=H.1 g4;refine aj (bv mixed [0,0,3,7,15,0,0,96,224,480,992,31,4095] (by kernel_rfl) (gq 0 1 rfl (aw rfl) (gq 1 3 rfl (aw rfl) ?_)));obtain ⟨a5,e6,H⟩:=H;refine gq 2 7 rfl (bf (s:=x0) ZO Zt rfl rfl e6) (gq 3 15 rfl (ay (off:=1) Z5 zS rfl) ?_);obtain ⟨y7,k8,H⟩:=H;refine gh 4 31 rfl (aQ ZK ZD rfl rfl) k8 (gq 5 63 rfl (aw rfl) (gq 6 127 rfl (aw rfl) ?_));obtain ⟨a9,e10,H⟩:=H;refine gq 7 255 rfl (bf (s:=x0) ZO Zt rfl rfl e10) (gq 8 511 rfl (ay (off:=5) Z5 lF rfl) ?_);obtain ⟨y11,k12,H⟩:=H;refine gh 9 1023 rfl (aD Zj rfl) k12 (gq 10 2047 rfl (eI rfl) (g_e 11 4095 [(9,fun h=>aA h (a9.add 5)=some (.bool y11))] (by kernel_rfl) rfl (by kernel_rfl) (aK (vs:=y7.cells) ZD rfl rfl ax rfl (by intro v hv;exact bt _ v hv) H) rfl rfl ?_));rintro _ h13 ⟨rfl,H⟩;obtain ⟨k14,H⟩:=H;refine ⟨And.intro k14 trivial,?_⟩;refine gq 12 8191 rfl (bp rfl) (g_d (by kernel_rfl) (aa (al (aS (aq (aq (aS (aq ?_))))))));obtain ⟨y15,k16,H⟩:=H;exact gG rfl (bY ZK ZD rfl rfl k16) (fm rfl) ⟨_,_,rfl,H⟩
     ·replace H:=H.2 g4;refine au (aI (aa ?_));exact ah [(0,x0.enc),(1,(.int .i64 x1)),(4,(.pointer (some x4))),(6,(.int .i64 x6))] ⟨rfl,rfl,rfl,rfl,tv⟩ ⟨_,_,_,_,rfl,H⟩
    ·refine ai (qm rfl (tq (ct rfl rfl) (qm rfl ?_)));refine aT (t:=16) rfl (fun g17=>?_) (fun g17=>?_)
     ·replace H:=H.1 g17;refine ts (ts (ts (ts (ts (ts (ts (tq (aL rfl rfl) (nt ?_))))))));exact ah [(0,x0.enc),(1,(.int .i64 x1)),(4,(.pointer (some x4))),(6,(.int .i64 x6)),(24,(.bool true))] ⟨rfl,rfl,rfl,rfl,rfl,tv⟩ ⟨_,_,_,_,_,rfl,H⟩
     ·replace H:=H.2 g17;refine qm rfl (qm rfl ?_);obtain ⟨a18,e19,H⟩:=H;refine tq (bf (s:=x0) ZO Zt rfl rfl e19) (tq (ay (off:=0) Z5 km rfl) ?_);obtain ⟨y20,k21,H⟩:=H;refine th (aD ZC rfl) k21 (qm rfl (tq (lh rfl rfl) (tq (aH rfl rfl) (nt ?_))));exact ah [(0,x0.enc),(1,(.int .i64 x1)),(4,(.pointer (some x4))),(6,(.int .i64 x6)),(24,(.bool (decide (y20<=x1))))] ⟨rfl,rfl,rfl,rfl,rfl,tv⟩ ⟨_,_,_,_,_,rfl,H⟩
  ·replace H:=H.2 g3;refine bC (aF (aF (bV (aa (sr (tq (bO rfl (od )) (te (aK (vs:=(⟨0,0,0,0⟩:ag).cells) ZD rfl rfl ax rfl (by intro v hv;exact bt _ v hv) H) ?_)))))));rintro _ h22 ⟨rfl,H⟩;refine qa rfl (nt (al ?_));obtain ⟨y23,k24,H⟩:=H;exact gG rfl (bY ZK ZD rfl rfl k24) (fm rfl) ⟨_,_,rfl,H⟩
def F.xff (p0:Option Addr) (p1:ae) (p2:Int) (h:H) (Q:ag->H->Prop):Prop:=
  new h p1.cells.toArray cH fun a2 h1 =>
  new h1 (((⟨0,0,0,0⟩:ag):ag).cells.toArray) gz fun a4 h3 =>
  ak h3 a2 fun y5 =>
  F.xcg p0 y5 h3 fun r8 r9 h7 =>
  ((!r9)=true ->
  stH h7 a4 ((⟨0,0,0,0⟩:ag).cells) fun h11 =>
  bh h11 a4 fun y12 =>
  Q y12 h11) ∧
  ((!r9)=false ->
  nn p0 fun a14 =>
  ldL h7 (a14.add 1) fun y16 =>
  bD y16 r8 4 fun a18 =>
  ldL h7 (a18.add 3) fun y20 =>
  F.xas y20 p2 h7 fun r23 r24 h22 =>
  new h22 (((⟨0,0,0,0⟩:ag):ag).cells.toArray) gz fun a26 h25 =>
  stH h25 a26 r23.cells fun h27 =>
  ((!r24)=true ->
  stH h27 a4 ((⟨0,0,0,0⟩:ag).cells) fun h29 =>
  bh h29 a4 fun y30 =>
  Q y30 h29) ∧
  ((!r24)=false ->
  bh h27 a26 fun y32 =>
  stH h27 a4 y32.cells fun h34 =>
  bh h34 a4 fun y35 =>
  Q y35 h34))
theorem F.xff_ok {p0:Option Addr}{p1:ae}{p2:Int}{h:H}{Q:ag->H->Prop}(H:F.xff p0 p1 p2 h Q):Fn PP 114 ([(.pointer p0),(.agg p1.cells.toArray),(.int .i64 p2)]:List Value).toArray h fun r h'=>∃ r0,r=(.agg r0.cells.toArray)∧Q r0 h':=by
 unfold F.xff at H;refine aV Tryz.func114 Tryz.ntmps114 rfl rfl fun w0=>(az [(0,(.pointer p0)),(1,(.agg p1.cells.toArray)),(2,(.int .i64 p2))] ⟨rfl,rfl,rfl,tv⟩ (sr (te (cb (cs:=p1.cells.toArray) rfl rfl H) ?_)));rintro _ h1 ⟨a2,rfl,H⟩;refine te (bJ (cs:=((⟨0,0,0,0⟩:ag):ag).cells.toArray) Zo rfl H) ?_;rintro _ h3 ⟨a4,rfl,H⟩;refine nt (sr (qm rfl ?_));obtain ⟨y5,k6,H⟩:=H;refine th (aQ ZB ZA rfl rfl) k6 (te (av Tryz.call139 rfl (F.xcg_ok H)) ?_);rintro _ h7 ⟨r8,r9,rfl,H⟩;refine qm rfl (tq (bW rfl rfl) (tq (bW rfl rfl) (qa rfl (qa rfl (nt (aj (sr (qm rfl (tq (eI rfl) (nt ?_))))))))));refine am rfl (fun g10=>?_) (fun g10=>?_)
 ·replace H:=H.1 g10;refine sr (tq (bO rfl (od )) (te (aK (vs:=(⟨0,0,0,0⟩:ag).cells) ZD rfl rfl ax rfl (by intro v hv;exact bt _ v hv) H) ?_));rintro _ h11 ⟨rfl,H⟩;refine nt (al (aq ?_));obtain ⟨y12,k13,H⟩:=H;exact eY rfl (bY ZK ZD rfl rfl k13) ⟨_,rfl,H⟩
 ·replace H:=H.2 g10;refine au (aa (sr (qm rfl ?_)));obtain ⟨a14,e15,H⟩:=H;refine tq (bG rfl e15) (tq (ay (off:=1) ZX dc rfl) ?_);obtain ⟨y16,k17,H⟩:=H;refine th (aD Ze rfl) k17 (qm rfl ?_);obtain ⟨a18,e19,H⟩:=H;refine tq (bf (s:=y16) Zf Zy rfl rfl e19) (tq (ay (off:=3) Z4 iO rfl) ?_);obtain ⟨y20,k21,H⟩:=H;refine th (aD ZBL rfl) k21 (qm rfl (te (av Tryz.call140 rfl (F.xas_ok H)) ?_));rintro _ h22 ⟨r23,r24,rfl,H⟩;refine qm rfl (tq (bW rfl rfl) (tq (bW rfl rfl) (te (bJ (cs:=((⟨0,0,0,0⟩:ag):ag).cells.toArray) Zo rfl H) ?_)));rintro _ h25 ⟨a26,rfl,H⟩;refine te (aK (vs:=r23.cells) ZD rfl rfl ax rfl (by intro v hv;exact bt _ v hv) H) ?_;rintro _ h27 ⟨rfl,H⟩;refine qa rfl (nt (aj (sr (qm rfl (tq (eI rfl) (nt ?_))))));refine am rfl (fun g28=>?_) (fun g28=>?_)
  ·replace H:=H.1 g28;refine sr (tq (bO rfl (od )) (te (aK (vs:=(⟨0,0,0,0⟩:ag).cells) ZD rfl rfl ax rfl (by intro v hv;exact bt _ v hv) H) ?_));rintro _ h29 ⟨rfl,H⟩;refine nt (al (aq ?_));obtain ⟨y30,k31,H⟩:=H;exact eY rfl (bY ZK ZD rfl rfl k31) ⟨_,rfl,H⟩
  ·replace H:=H.2 g28;refine au (aa (sr ?_));obtain ⟨y32,k33,H⟩:=H;refine th (aQ ZK ZD rfl rfl) k33 (te (aK (vs:=y32.cells) ZD rfl rfl ax rfl (by intro v hv;exact bt _ v hv) H) ?_);rintro _ h34 ⟨rfl,H⟩;refine nt (al ?_);obtain ⟨y35,k36,H⟩:=H;exact eY rfl (bY ZK ZD rfl rfl k36) ⟨_,rfl,H⟩
def F.xdt (p0:Option Addr) (p1:ae) (p2:Int) (h:H) (Q:ag->H->Prop):Prop:=
  new h p1.cells.toArray cH fun a2 h1 =>
  new h1 (((⟨0,0,0,0⟩:ag):ag).cells.toArray) gz fun a4 h3 =>
  ak h3 a2 fun y5 =>
  ak h3 a2 fun y7 =>
  F.xdk p0 y5 h3 fun r10 h9 =>
  Cells h9 a2 y7.cells ∧
  F.xff r10 y7 p2 h9 fun r13 h12 =>
  stH h12 a4 r13.cells fun h14 =>
  bh h14 a4 fun y15 =>
  Q y15 h14
theorem F.xdt_ok {p0:Option Addr}{p1:ae}{p2:Int}{h:H}{Q:ag->H->Prop}(H:F.xdt p0 p1 p2 h Q):Fn PP 79 ([(.pointer p0),(.agg p1.cells.toArray),(.int .i64 p2)]:List Value).toArray h fun r h'=>∃ r0,r=(.agg r0.cells.toArray)∧Q r0 h':=by
 unfold F.xdt at H;refine aV Tryz.func79 Tryz.ntmps79 rfl rfl fun w0=>(az [(0,(.pointer p0)),(1,(.agg p1.cells.toArray)),(2,(.int .i64 p2))] ⟨rfl,rfl,rfl,tv⟩ (sr (te (cb (cs:=p1.cells.toArray) rfl rfl H) ?_)));rintro _ h1 ⟨a2,rfl,H⟩;refine te (bJ (cs:=((⟨0,0,0,0⟩:ag):ag).cells.toArray) Zo rfl H) ?_;rintro _ h3 ⟨a4,rfl,H⟩;refine nt (aj (bv mixed [0,0,3,0,0,31,63] (by kernel_rfl) (gq 0 1 rfl (aw rfl) ?_)));obtain ⟨y5,k6,H⟩:=H;refine gh 1 3 rfl (aQ ZB ZA rfl rfl) k6 ?_;obtain ⟨y7,k8,H⟩:=H;refine gh 3 11 rfl (aQ ZB ZA rfl rfl) k8 (gq 4 27 rfl (aw rfl) (g_e 2 31 [(3,fun h=>Cells h a2 y7.cells)] (by kernel_rfl) rfl (by kernel_rfl) (av Tryz.call110 rfl (F.xdk_ok H)) rfl rfl ?_));rintro _ h9 ⟨r10,rfl,H⟩;obtain ⟨k11,H⟩:=H;refine ⟨And.intro k11 trivial,?_⟩;refine g_e 5 63 [] (by kernel_rfl) rfl (by kernel_rfl) (av Tryz.call114 rfl (F.xff_ok H)) rfl rfl ?_;rintro _ h12 ⟨r13,rfl,H⟩;refine ⟨trivial,?_⟩;refine g_e 6 127 [] (by kernel_rfl) rfl (by kernel_rfl) (aK (vs:=r13.cells) ZD rfl rfl ax rfl (by intro v hv;exact bt _ v hv) H) rfl rfl ?_;rintro _ h14 ⟨rfl,H⟩;refine ⟨trivial,?_⟩;refine g_d (by kernel_rfl) (aa (al ?_));obtain ⟨y15,k16,H⟩:=H;exact eY rfl (bY ZK ZD rfl rfl k16) ⟨_,rfl,H⟩
def F.xen (p0:Sl) (h:H) (Q:Sl->H->Prop):Prop:=
  dA PP (Instr.makeSlice 41 (.int .i64 0) (.int .i64 (IntKind.wrap .i64 ((p0.len:Int)+3)))) h fun s2 h1 =>
  dA PP (Builtin.append_ #[41,41] 41 #[s2.enc,p0.enc]) h1 fun s4 h3 =>
  fv h3 (((⟨(-77),(⟨#[]⟩:ByteArray),0⟩:ae).cells).toArray) cH 1 fun s6 h5 =>
  dA PP (Builtin.append_ #[41,41] 41 #[s4.enc,s6.enc]) h5 fun s8 h7 =>
  ly s8 0 (p0.len:Int) 3 fun s10 =>
  Q s10 h7
theorem F.xen_ok {p0:Sl}{h:H}{Q:Sl->H->Prop}(H:F.xen p0 h Q):Fn PP 80 ([p0.enc]:List Value).toArray h fun r h'=>∃ r0,r=r0.enc∧Q r0 h':=by
 unfold F.xen at H;refine aV Tryz.func80 Tryz.ntmps80 rfl rfl fun w0=>(az [(0,p0.enc)] ⟨rfl,tv⟩ (sr (qa rfl (nt (sr (qm rfl (tq (bB (ts:=#[]) ZL (o:=p0.ptr) (n:=p0.len) (cap:=p0.cap) rfl) (tq (bE rfl rfl) (te (mD rfl rfl H) ?_)))))))));rintro _ h1 ⟨s2,rfl,H⟩;refine qm rfl (te (dV rfl H) ?_);rintro _ h3 ⟨s4,rfl,H⟩;refine qa rfl (nt (sr (qm rfl (tq (bO rfl (pK (-77))) (te (co (cs:=((⟨(-77),(⟨#[]⟩:ByteArray),0⟩:ae).cells).toArray) rfl rfl (og (⟨(-77),(⟨#[]⟩:ByteArray),0⟩:ae)) H) ?_)))));rintro _ h5 ⟨s6,rfl,H⟩;refine te (dV rfl H) ?_;rintro _ h7 ⟨s8,rfl,H⟩;refine qm rfl (tq (bB (ts:=#[]) ZL (o:=p0.ptr) (n:=p0.len) (cap:=p0.cap) rfl) ?_);obtain ⟨s10,e9,H⟩:=H;refine tq (gU (s:=s8) none (some (.i64,(p0.len:Int))) ZL ZA rfl rfl rfl e9) (qa rfl (nt (al ?_)));exact an rfl rfl ⟨_,rfl,H⟩
def F.xfc (p0:Sl) (h:H) (Q:Sl->H->Prop):Prop:=
  (p0.ptr.isNone=true ->
  Q (⟨none,0,0⟩:Sl) h) ∧
  (p0.ptr.isNone=false ->
  fv h (([]).toArray) cH 0 fun s3 h2 =>
  dA PP (Builtin.append_ #[41,41] 41 #[s3.enc,p0.enc]) h2 fun s5 h4 =>
  Q s5 h4)
theorem F.xfc_ok {p0:Sl}{h:H}{Q:Sl->H->Prop}(H:F.xfc p0 h Q):Fn PP 150 ([p0.enc]:List Value).toArray h fun r h'=>∃ r0,r=r0.enc∧Q r0 h':=by
 unfold F.xfc at H;refine aV Tryz.func150 Tryz.ntmps150 rfl rfl fun w0=>(az [(0,p0.enc)] ⟨rfl,tv⟩ (sr (qa rfl (nt (aj (sr (qm rfl (tq (wR ZL (s:=p0) rfl rfl) (nt ?_)))))))));refine am rfl (fun g1=>?_) (fun g1=>?_)
 ·replace H:=H.1 g1;refine sr (qa rfl (nt (al (aq ?_))));exact an rfl rfl ⟨_,rfl,H⟩
 ·replace H:=H.2 g1;refine au (aa (sr (te (co (cs:=([]).toArray) rfl rfl (zC) H) ?_)));rintro _ h2 ⟨s3,rfl,H⟩;refine qm rfl (te (dV rfl H) ?_);rintro _ h4 ⟨s5,rfl,H⟩;refine qa rfl (nt (al ?_));exact an rfl rfl ⟨_,rfl,H⟩
def F.xar.j3 (Q:Sl->H->Prop) (C1:Sl->Int->H->Prop) (C2:Sl->Int->Sl->Int->H->Prop) (x0:Sl) (x3:Int) (x4:Sl) (x5:Int) (h:H):Prop:=
  C2 x0 x3 x4 (IntKind.wrap .i64 (x5+1)) h
def F.xar.l2 (Q:Sl->H->Prop) (C1:Sl->Int->H->Prop):Nat->Sl->Int->Sl->Int->H->Prop
  | 0,_,_,_,_,_=>False
  | q2+1,x0,x3,x4,x5,h =>
    ((decide (x5<(x4.len:Int)))=true ->
    bD x4 x5 3 fun a15 =>
    ak h a15 fun y17 =>
    bD x4 (IntKind.wrap .i64 (x5-1)) 3 fun a19 =>
    ak h a19 fun y21 =>
    ((!((y17.View == y21.View) && ((y17.Key.toList == y21.Key.toList) && ((y17.Start == y21.Start) && true))))=true ->
    bD x4 x5 3 fun a24 =>
    ak h a24 fun y26 =>
    bD x0 x3 3 fun a28 =>
    stH h a28 y26.cells fun h30 =>
    F.xar.j3 Q C1 (F.xar.l2 Q C1 q2) x0 (IntKind.wrap .i64 (x3+1)) x4 x5 h30) ∧
    ((!((y17.View == y21.View) && ((y17.Key.toList == y21.Key.toList) && ((y17.Start == y21.Start) && true))))=false ->
    F.xar.j3 Q C1 (F.xar.l2 Q C1 q2) x0 x3 x4 x5 h)) ∧
    ((decide (x5<(x4.len:Int)))=false ->
    ly x0 x3 (x0.len:Int) 3 fun s32 =>
    cY PP (Builtin.clear_ #[41] 0 #[s32.enc]) h fun u h33=>u=(.tuple #[]) ∧
    ly x0 0 x3 3 fun s36 =>
    Q s36 h33)
def F.xar.l1 (Q:Sl->H->Prop):Nat->Sl->Int->H->Prop
  | 0,_,_,_=>False
  | q1+1,x0,x3,h =>
    ((decide (x3<(x0.len:Int)))=true ->
    bD x0 x3 3 fun a3 =>
    ak h a3 fun y5 =>
    bD x0 (IntKind.wrap .i64 (x3-1)) 3 fun a7 =>
    ak h a7 fun y9 =>
    (((y5.View == y9.View) && ((y5.Key.toList == y9.Key.toList) && ((y5.Start == y9.Start) && true)))=true ->
    ly x0 x3 (x0.len:Int) 3 fun s13 =>
    ∃ m,F.xar.l2 Q (F.xar.l1 Q q1) m x0 x3 s13 1 h) ∧
    (((y5.View == y9.View) && ((y5.Key.toList == y9.Key.toList) && ((y5.Start == y9.Start) && true)))=false ->
    (F.xar.l1 Q q1) x0 (IntKind.wrap .i64 (x3+1)) h)) ∧
    ((decide (x3<(x0.len:Int)))=false ->
    Q x0 h)
def F.xar (p0:Sl) (h:H) (Q:Sl->H->Prop):Prop:=
  ((decide ((p0.len:Int)<2))=true ->
  Q p0 h) ∧
  ((decide ((p0.len:Int)<2))=false ->
  ∃ m,F.xar.l1 Q m p0 1 h)
theorem F.xar_ok {p0:Sl}{h:H}{Q:Sl->H->Prop}(H:F.xar p0 h Q):Fn PP 152 ([p0.enc]:List Value).toArray h fun r h'=>∃ r0,r=r0.enc∧Q r0 h':=by
 unfold F.xar at H;refine aV Tryz.func152 Tryz.ntmps152 rfl rfl fun w0=>(az [(0,p0.enc)] ⟨rfl,tv⟩ (sr (qa rfl (nt (aj (sr (qm rfl (tq (bB (ts:=#[]) ZL (o:=p0.ptr) (n:=p0.len) (cap:=p0.cap) rfl) (tq (bN rfl rfl) (bo ?_))))))))));refine aa ?_;refine am rfl (fun g1=>?_) (fun g1=>?_)
 ·replace H:=H.1 g1;refine sr (qm rfl (qa rfl (nt (al (aq ?_)))));exact an rfl rfl ⟨_,rfl,H⟩
 ·replace H:=H.2 g1;refine au (aa (aj (sr (qa rfl (nt (aB ?_))))));obtain ⟨m38,H⟩:=H;refine az [(0,p0.enc),(3,(.int .i64 1))] ⟨rfl,rfl,tv⟩ ?_;refine aY (fun m L' h=>∃ (x0:Sl) (x3:Int),L'=[(0,x0.enc),(3,(.int .i64 x3))]∧F.xar.l1 Q m x0 x3 h) ?_ ?_ m38 ⟨_,_,rfl,H⟩
  ·rintro L' h ⟨_,_,_,H⟩;exact H
  ·rintro q1 L' h ⟨x0,x3,rfl,H⟩;unfold F.xar.l1 at H;refine aj (sr (qm rfl (qm rfl (tq (bB (ts:=#[]) ZL (o:=x0.ptr) (n:=x0.len) (cap:=x0.cap) rfl) (tq (bN rfl rfl) (nt ?_))))));refine am rfl (fun g2=>?_) (fun g2=>?_)
   ·replace H:=H.1 g2;refine au (aa (aj (aB (aj (bv mixed [0,0,3,7,0,0,32,112,240,511] (by kernel_rfl) (gq 0 1 rfl (aw rfl) (gq 1 3 rfl (aw rfl) ?_)))))));obtain ⟨a3,e4,H⟩:=H;refine gq 2 7 rfl (bf (s:=x0) ZL ZA rfl rfl e4) ?_;obtain ⟨y5,k6,H⟩:=H;refine gh 3 15 rfl (aQ ZB ZA rfl rfl) k6 (gq 4 31 rfl (aw rfl) (gq 5 63 rfl (aw rfl) (gq 6 127 rfl (cJ rfl rfl) ?_)));obtain ⟨a7,e8,H⟩:=H;refine gq 7 255 rfl (bf (s:=x0) ZL ZA rfl rfl e8) ?_;obtain ⟨y9,k10,H⟩:=H;refine gh 8 511 rfl (aQ ZB ZA rfl rfl) k10 (gq 9 1023 rfl (kX (b:=((y5.View == y9.View) && ((y5.Key.toList == y9.Key.toList) && ((y5.Start == y9.Start) && true)))) oC (fun w=>kN y5 y9 9998 w) rfl rfl) (g_d (by kernel_rfl) (aa ?_)));refine am rfl (fun g11=>?_) (fun g11=>?_)
    ·replace H:=H.1 g11;refine sr (qm rfl (qm rfl ?_));obtain ⟨s13,e12,H⟩:=H;refine tq (gU (s:=x0) (some (.i64,x3)) none ZL ZA rfl rfl rfl e12) (qa rfl (nt (aj (sr (qa rfl (nt (aB ?_)))))));obtain ⟨m37,H⟩:=H;refine az [(0,x0.enc),(3,(.int .i64 x3)),(4,s13.enc),(5,(.int .i64 1))] ⟨rfl,rfl,rfl,rfl,tv⟩ ?_;refine aY (fun m L' h=>∃ (x0:Sl) (x3:Int) (x4:Sl) (x5:Int),L'=[(0,x0.enc),(3,(.int .i64 x3)),(4,x4.enc),(5,(.int .i64 x5))]∧F.xar.l2 Q (F.xar.l1 Q q1) m x0 x3 x4 x5 h) ?_ ?_ m37 ⟨_,_,_,_,rfl,H⟩
     ·rintro L' h ⟨_,_,_,_,_,H⟩;exact H
     ·rintro q2 L' h ⟨x0,x3,x4,x5,rfl,H⟩;unfold F.xar.l2 at H;refine aj (sr (qm rfl (qm rfl (tq (bB (ts:=#[]) ZL (o:=x4.ptr) (n:=x4.len) (cap:=x4.cap) rfl) (tq (bN rfl rfl) (nt ?_))))));refine am rfl (fun g14=>?_) (fun g14=>?_)
      ·replace H:=H.1 g14;refine au (aa ?_);refine aG (fun L' h=>∃ (x0:Sl) (x3:Int) (x4:Sl) (x5:Int),L'=[(0,x0.enc),(3,(.int .i64 x3)),(4,x4.enc),(5,(.int .i64 x5))]∧F.xar.j3 Q (F.xar.l1 Q q1) (F.xar.l2 Q (F.xar.l1 Q q1) q2) x0 x3 x4 x5 h) ?_ ?_
       ·rintro L' h ⟨x0,x3,x4,x5,rfl,H⟩;unfold F.xar.j3 at H;refine ai (qm rfl (tq (bE rfl rfl) (qa rfl (nt ?_))));exact ah [(0,x0.enc),(3,(.int .i64 x3)),(4,x4.enc),(5,(.int .i64 (IntKind.wrap .i64 (x5+1))))] ⟨rfl,rfl,rfl,rfl,tv⟩ ⟨_,_,_,_,rfl,H⟩
       ·refine aB (aj (bv mixed [0,0,3,7,0,0,32,112,240,511] (by kernel_rfl) (gq 0 1 rfl (aw rfl) (gq 1 3 rfl (aw rfl) ?_))));obtain ⟨a15,e16,H⟩:=H;refine gq 2 7 rfl (bf (s:=x4) ZL ZA rfl rfl e16) ?_;obtain ⟨y17,k18,H⟩:=H;refine gh 3 15 rfl (aQ ZB ZA rfl rfl) k18 (gq 4 31 rfl (aw rfl) (gq 5 63 rfl (aw rfl) (gq 6 127 rfl (cJ rfl rfl) ?_)));obtain ⟨a19,e20,H⟩:=H;refine gq 7 255 rfl (bf (s:=x4) ZL ZA rfl rfl e20) ?_;obtain ⟨y21,k22,H⟩:=H;refine gh 8 511 rfl (aQ ZB ZA rfl rfl) k22 (gq 9 1023 rfl (AK (b:=((y17.View == y21.View) && ((y17.Key.toList == y21.Key.toList) && ((y17.Start == y21.Start) && true)))) oC (fun w=>kN y17 y21 9998 w) rfl rfl) (g_d (by kernel_rfl) (aa ?_)));refine am rfl (fun g23=>?_) (fun g23=>?_)
        ·replace H:=H.1 g23;refine sr (qm rfl (qm rfl (qm rfl (qm rfl ?_))));obtain ⟨a24,e25,H⟩:=H;refine tq (bf (s:=x4) ZL ZA rfl rfl e25) ?_;obtain ⟨y26,k27,H⟩:=H;refine th (aQ ZB ZA rfl rfl) k27 ?_;obtain ⟨a28,e29,H⟩:=H;refine tq (bf (s:=x0) ZL ZA rfl rfl e29) (te (aK (vs:=y26.cells) ZA rfl rfl ax rfl (by intro v hv;exact bz _ v hv) H) ?_);rintro _ h30 ⟨rfl,H⟩;refine nt (ai (qm rfl (tq (bE rfl rfl) (qa rfl (bo (aI (aa ?_)))))));exact ah [(0,x0.enc),(3,(.int .i64 (IntKind.wrap .i64 (x3+1)))),(4,x4.enc),(5,(.int .i64 x5))] ⟨rfl,rfl,rfl,rfl,tv⟩ ⟨_,_,_,_,rfl,H⟩
        ·replace H:=H.2 g23;refine au (aI (aa ?_));exact ah [(0,x0.enc),(3,(.int .i64 x3)),(4,x4.enc),(5,(.int .i64 x5))] ⟨rfl,rfl,rfl,rfl,tv⟩ ⟨_,_,_,_,rfl,H⟩
      ·replace H:=H.2 g14;refine bC (aF (aF (bV (aa (sr (qm rfl (qm rfl ?_)))))));obtain ⟨s32,e31,H⟩:=H;refine tq (gU (s:=x0) (some (.i64,x3)) none ZL ZA rfl rfl rfl e31) (te (Bp rfl H) ?_);rintro _ h33 ⟨rfl,H⟩;refine nt (sr (qm rfl (qm rfl ?_)));obtain ⟨s36,e35,H⟩:=H;refine tq (gU (s:=x0) none (some (.i64,x3)) ZL ZA rfl rfl rfl e35) (qa rfl (nt (al (aS (aq (aq (aS (aq ?_))))))));exact an rfl rfl ⟨_,rfl,H⟩
    ·replace H:=H.2 g11;refine au (aI (aa (ai (qm rfl (tq (bE rfl rfl) (qa rfl (nt ?_)))))));exact ah [(0,x0.enc),(3,(.int .i64 (IntKind.wrap .i64 (x3+1))))] ⟨rfl,rfl,tv⟩ ⟨_,_,rfl,H⟩
   ·replace H:=H.2 g2;refine bC (aF (aF (bV (aa (sr (qm rfl (qa rfl (nt (al ?_)))))))));exact an rfl rfl ⟨_,rfl,H⟩
def F.xcr.l1 (Q:Int->H->Prop):Nat->(Option Addr)->Int->Int->Sl->Int->Int->H->Prop
  | 0,_,_,_,_,_,_,_=>False
  | q1+1,x0,x1,x8,x16,x17,x18,h =>
    ((decide (x18<x17))=true ->
    bD x16 x18 3 fun a7 =>
    ak h a7 fun y9 =>
    new h (((⟨0,(⟨#[]⟩:ByteArray),0⟩:ae):ae).cells.toArray) cH fun a12 h11 =>
    stH h11 a12 y9.cells fun h13 =>
    ak h13 a12 fun y14 =>
    F.xbp x0 x1 y14 h13 fun r17 h16 =>
    (F.xcr.l1 Q q1) x0 x1 (IntKind.wrap .i64 (x8+r17)) x16 x17 (IntKind.wrap .i64 (x18+1)) h16) ∧
    ((decide (x18<x17))=false ->
    Q x8 h)
def F.xcr (p0:Option Addr) (p1:Int) (p2:Sl) (h:H) (Q:Int->H->Prop):Prop:=
  F.xfc p2 h fun r2 h1 =>
  Fn PP 151 [r2.enc,(.func (.func 17) #[] #[])].toArray h1 fun u h3=>u=(.tuple #[]) ∧
  F.xar r2 h3 fun r5 h4 =>
  ∃ m,F.xcr.l1 Q m p0 p1 0 r5 (r5.len:Int) 0 h4
theorem F.xcr_ok {p0:Option Addr}{p1:Int}{p2:Sl}{h:H}{Q:Int->H->Prop}(H:F.xcr p0 p1 p2 h Q):Fn PP 141 ([(.pointer p0),(.int .i64 p1),p2.enc]:List Value).toArray h fun r h'=>∃ r0,r=(.int .i64 r0)∧Q r0 h':=by
 unfold F.xcr at H;refine aV Tryz.func141 Tryz.ntmps141 rfl rfl fun w0=>(az [(0,(.pointer p0)),(1,(.int .i64 p1)),(2,p2.enc)] ⟨rfl,rfl,rfl,tv⟩ (sr (qa rfl (nt (sr (qm rfl (te (av Tryz.call150 rfl (F.xfc_ok H)) ?_)))))));rintro _ h1 ⟨r2,rfl,H⟩;refine qa rfl (nt (sr (qm rfl (te (av Tryz.call151 rfl H) ?_))));rintro _ h3 ⟨rfl,H⟩;refine nt (sr (qa rfl (nt (aj (sr (qm rfl (te (av Tryz.call152 rfl (F.xar_ok H)) ?_)))))));rintro _ h4 ⟨r5,rfl,H⟩;refine tq (bB (ts:=#[]) ZL (o:=r5.ptr) (n:=r5.len) (cap:=r5.cap) rfl) (qm rfl (nt (aB ?_)));obtain ⟨m18,H⟩:=H;refine az [(0,(.pointer p0)),(1,(.int .i64 p1)),(8,(.int .i64 0)),(16,r5.enc),(17,(.int .i64 (r5.len:Int))),(18,(.int .i64 0))] ⟨rfl,rfl,rfl,rfl,rfl,rfl,tv⟩ ?_;refine aY (fun m L' h=>∃ (x0:Option Addr) (x1:Int) (x8:Int) (x16:Sl) (x17:Int) (x18:Int),L'=[(0,(.pointer x0)),(1,(.int .i64 x1)),(8,(.int .i64 x8)),(16,x16.enc),(17,(.int .i64 x17)),(18,(.int .i64 x18))]∧F.xcr.l1 Q m x0 x1 x8 x16 x17 x18 h) ?_ ?_ m18 ⟨_,_,_,_,_,_,rfl,H⟩
 ·rintro L' h ⟨_,_,_,_,_,_,_,H⟩;exact H
 ·rintro q1 L' h ⟨x0,x1,x8,x16,x17,x18,rfl,H⟩;unfold F.xcr.l1 at H;refine sr (tq (bN rfl rfl) (nt (aj ?_)));refine am rfl (fun g6=>?_) (fun g6=>?_)
  ·replace H:=H.1 g6;refine au (aa (aj (aB (sr ?_))));obtain ⟨a7,e8,H⟩:=H;refine tq (bf (s:=x16) ZL ZA rfl rfl e8) ?_;obtain ⟨y9,k10,H⟩:=H;refine th (aQ ZB ZA rfl rfl) k10 (te (bJ (cs:=((⟨0,(⟨#[]⟩:ByteArray),0⟩:ae):ae).cells.toArray) ZBP rfl H) ?_);rintro _ h11 ⟨a12,rfl,H⟩;refine te (aK (vs:=y9.cells) ZA rfl rfl ax rfl (by intro v hv;exact bz _ v hv) H) ?_;rintro _ h13 ⟨rfl,H⟩;refine nt (ai (qm rfl (qm rfl (qm rfl ?_))));obtain ⟨y14,k15,H⟩:=H;refine th (aQ ZB ZA rfl rfl) k15 (te (av Tryz.call66 rfl (F.xbp_ok H)) ?_);rintro _ h16 ⟨r17,rfl,H⟩;refine tq (bE rfl rfl) (qa rfl (bo (aI (aa (ai (tq (bE rfl rfl) (qm rfl (nt ?_))))))));exact ah [(0,(.pointer x0)),(1,(.int .i64 x1)),(8,(.int .i64 (IntKind.wrap .i64 (x8+r17)))),(16,x16.enc),(17,(.int .i64 x17)),(18,(.int .i64 (IntKind.wrap .i64 (x18+1))))] ⟨rfl,rfl,rfl,rfl,rfl,rfl,tv⟩ ⟨_,_,_,_,_,_,rfl,H⟩
  ·replace H:=H.2 g6;refine bC (aF (aF (bV (aa (sr (qm rfl (qa rfl (nt (al ?_)))))))));exact an rfl rfl ⟨_,rfl,H⟩
def F.xfh (p0:Option Addr) (p1:Int) (p2:Sl) (h:H) (Q:Bool->H->Prop):Prop:=
  nn p0 fun a1 =>
  ldI .i64 h ((a1.add 0).add 0) fun y3 =>
  nn p0 fun a5 =>
  ldI .i64 h ((a5.add 0).add 2) fun y7 =>
  F.xcr p0 p1 p2 h fun r10 h9 =>
  aA h9 ((a5.add 0).add 2)=some (.int .i64 y7) ∧
  aA h9 ((a1.add 0).add 0)=some (.int .i64 y3) ∧
  Q (decide ((IntKind.wrap .i64 (y3+r10))<=y7)) h9
theorem F.xfh_ok {p0:Option Addr}{p1:Int}{p2:Sl}{h:H}{Q:Bool->H->Prop}(H:F.xfh p0 p1 p2 h Q):Fn PP 115 ([(.pointer p0),(.int .i64 p1),p2.enc]:List Value).toArray h fun r h'=>∃ r0,r=(.bool r0)∧Q r0 h':=by
 unfold F.xfh at H;refine aV Tryz.func115 Tryz.ntmps115 rfl rfl fun w0=>(az [(0,(.pointer p0)),(1,(.int .i64 p1)),(2,p2.enc)] ⟨rfl,rfl,rfl,tv⟩ (sr (qa rfl (nt (aj (bv mixed [0,1,3,7,15,0,0,0,224,511,0,1024,3072,7168,15360,32767,65535] (by kernel_rfl) (gq 0 1 rfl (aw rfl) ?_)))))));obtain ⟨a1,e2,H⟩:=H;refine gq 1 3 rfl (bG rfl e2) (gq 2 7 rfl (ay (off:=0) ZU er rfl) (gq 3 15 rfl (ay (off:=0) Zr hC rfl) ?_));obtain ⟨y3,k4,H⟩:=H;refine gh 4 31 rfl (aD ZC rfl) k4 (gq 5 63 rfl (aw rfl) (gq 6 127 rfl (aw rfl) (gq 7 255 rfl (aw rfl) (gq 10 1279 rfl (aw rfl) ?_))));obtain ⟨a5,e6,H⟩:=H;refine gq 11 3327 rfl (bG rfl e6) (gq 12 7423 rfl (ay (off:=0) ZU er rfl) (gq 13 15615 rfl (ay (off:=2) Zr xk rfl) ?_));obtain ⟨y7,k8,H⟩:=H;refine gh 14 31999 rfl (aD ZC rfl) k8 (g_e 8 32255 [(14,fun h=>aA h ((a5.add 0).add 2)=some (.int .i64 y7)),(4,fun h=>aA h ((a1.add 0).add 0)=some (.int .i64 y3))] (by kernel_rfl) rfl (by kernel_rfl) (av Tryz.call141 rfl (F.xcr_ok H)) rfl rfl ?_);rintro _ h9 ⟨r10,rfl,H⟩;obtain ⟨k11,k12,H⟩:=H;refine ⟨And.intro k11 (And.intro k12 trivial),?_⟩;refine gq 9 32767 rfl (bE rfl rfl) (gq 15 65535 rfl (lh rfl rfl) (gq 16 131071 rfl (bp rfl) (g_d (by kernel_rfl) (aa (al ?_)))));exact an rfl rfl ⟨_,rfl,H⟩
def F.xbs.l2 (Q:Bool->H->Prop):Nat->(Option Addr)->Int->Sl->Int->Int->H->Prop
  | 0,_,_,_,_,_,_=>False
  | q2+1,x0,x1,x40,x41,x42,h =>
    ((decide (x42<x41))=true ->
    bD x40 x42 1 fun a34 =>
    ldL h a34 fun y36 =>
    nn x0 fun a38 =>
    ldL h (a38.add 0) fun y40 =>
    bD y40 x42 1 fun a42 =>
    ldP h a42 fun y44 =>
    F.xfh y44 x1 y36 h fun r47 h46 =>
    ((!r47)=true ->
    Q false h46) ∧
    ((!r47)=false ->
    (F.xbs.l2 Q q2) x0 x1 x40 x41 (IntKind.wrap .i64 (x42+1)) h46)) ∧
    ((decide (x42<x41))=false ->
    Q true h)
def F.xbs.l1 (Q:Bool->H->Prop):Nat->(Option Addr)->Int->Sl->Sl->Int->Int->H->Prop
  | 0,_,_,_,_,_,_,_=>False
  | q1+1,x0,x1,x7,x19,x20,x21,h =>
    ((decide (x21<x20))=true ->
    bD x19 x21 3 fun a8 =>
    ak h a8 fun y10 =>
    new h (((⟨0,(⟨#[]⟩:ByteArray),0⟩:ae):ae).cells.toArray) cH fun a13 h12 =>
    stH h12 a13 y10.cells fun h14 =>
    ldS h14 (a13.add 1) fun y15 =>
    F.xco x0 y15 h14 fun r18 h17 =>
    bD x7 r18 1 fun a19 =>
    ldL h17 a19 fun y21 =>
    ak h17 a13 fun y23 =>
    fv h17 ((y23.cells).toArray) cH 1 fun s26 h25 =>
    aA h25 a19=some y21.enc ∧
    dA PP (Builtin.append_ #[41,41] 41 #[y21.enc,s26.enc]) h25 fun s29 h28 =>
    bD x7 r18 1 fun a30 =>
    stH h28 a30 [s29.enc] fun h32 =>
    (F.xbs.l1 Q q1) x0 x1 x7 x19 x20 (IntKind.wrap .i64 (x21+1)) h32) ∧
    ((decide (x21<x20))=false ->
    ∃ m,F.xbs.l2 Q m x0 x1 x7 (x7.len:Int) 0 h)
def F.xbs (p0:Option Addr) (p1:Int) (p2:Sl) (h:H) (Q:Bool->H->Prop):Prop:=
  nn p0 fun a1 =>
  ldL h (a1.add 0) fun y3 =>
  dA PP (Instr.makeSlice 180 (.int .i64 (y3.len:Int)) (.int .i64 (y3.len:Int))) h fun s6 h5 =>
  ∃ m,F.xbs.l1 Q m p0 p1 s6 p2 (p2.len:Int) 0 h5
theorem F.xbs_ok {p0:Option Addr}{p1:Int}{p2:Sl}{h:H}{Q:Bool->H->Prop}(H:F.xbs p0 p1 p2 h Q):Fn PP 81 ([(.pointer p0),(.int .i64 p1),p2.enc]:List Value).toArray h fun r h'=>∃ r0,r=(.bool r0)∧Q r0 h':=by
 unfold F.xbs at H;refine aV Tryz.func81 Tryz.ntmps81 rfl rfl fun w0=>(az [(0,(.pointer p0)),(1,(.int .i64 p1)),(2,p2.enc)] ⟨rfl,rfl,rfl,tv⟩ (sr (qa rfl (nt (sr (qm rfl ?_))))));obtain ⟨a1,e2,H⟩:=H;refine tq (bG rfl e2) (tq (ay (off:=0) Z0 fU rfl) ?_);obtain ⟨y3,k4,H⟩:=H;refine th (aD Z3 rfl) k4 (tq (bB (ts:=#[]) Zw (o:=y3.ptr) (n:=y3.len) (cap:=y3.cap) rfl) (te (mD rfl rfl H) ?_));rintro _ h5 ⟨s6,rfl,H⟩;refine qa rfl (nt (aj (sr (qm rfl (tq (bB (ts:=#[]) ZL (o:=p2.ptr) (n:=p2.len) (cap:=p2.cap) rfl) (qm rfl (nt (aB ?_))))))));obtain ⟨m50,H⟩:=H;refine az [(0,(.pointer p0)),(1,(.int .i64 p1)),(7,s6.enc),(19,p2.enc),(20,(.int .i64 (p2.len:Int))),(21,(.int .i64 0))] ⟨rfl,rfl,rfl,rfl,rfl,rfl,tv⟩ ?_;refine aY (fun m L' h=>∃ (x0:Option Addr) (x1:Int) (x7:Sl) (x19:Sl) (x20:Int) (x21:Int),L'=[(0,(.pointer x0)),(1,(.int .i64 x1)),(7,x7.enc),(19,x19.enc),(20,(.int .i64 x20)),(21,(.int .i64 x21))]∧F.xbs.l1 Q m x0 x1 x7 x19 x20 x21 h) ?_ ?_ m50 ⟨_,_,_,_,_,_,rfl,H⟩
 ·rintro L' h ⟨_,_,_,_,_,_,_,H⟩;exact H
 ·rintro q1 L' h ⟨x0,x1,x7,x19,x20,x21,rfl,H⟩;unfold F.xbs.l1 at H;refine sr (tq (bN rfl rfl) (nt (aj ?_)));refine am rfl (fun g7=>?_) (fun g7=>?_)
  ·replace H:=H.1 g7;refine au (aa (aj (aB (sr ?_))));obtain ⟨a8,e9,H⟩:=H;refine tq (bf (s:=x19) ZL ZA rfl rfl e9) ?_;obtain ⟨y10,k11,H⟩:=H;refine th (aQ ZB ZA rfl rfl) k11 (te (bJ (cs:=((⟨0,(⟨#[]⟩:ByteArray),0⟩:ae):ae).cells.toArray) ZBP rfl H) ?_);rintro _ h12 ⟨a13,rfl,H⟩;refine te (aK (vs:=y10.cells) ZA rfl rfl ax rfl (by intro v hv;exact bz _ v hv) H) ?_;rintro _ h14 ⟨rfl,H⟩;refine nt (sr (qm rfl (tq (ay (off:=1) ZH dS rfl) ?_)));obtain ⟨y15,k16,H⟩:=H;refine th (aD ZP rfl) k16 (te (av Tryz.call10 rfl (F.xco_ok H)) ?_);rintro _ h17 ⟨r18,rfl,H⟩;refine qa rfl (nt (bv mixed [0,0,0,0,12,28,0,64,252,511,1023] (by kernel_rfl) (gq 0 1 rfl (aw rfl) (gq 1 3 rfl (aw rfl) (gq 2 7 rfl (aw rfl) (gq 3 15 rfl (aw rfl) ?_))))));obtain ⟨a19,e20,H⟩:=H;refine gq 4 31 rfl (bf (s:=x7) ZBW Tryz.sizeOf41 rfl rfl e20) ?_;obtain ⟨y21,k22,H⟩:=H;refine gh 5 63 rfl (aD Tryz.isAgg41 rfl) k22 ?_;obtain ⟨y23,k24,H⟩:=H;refine gh 6 127 rfl (aQ ZB ZA rfl rfl) k24 (g_e 7 255 [(5,fun h=>aA h a19=some y21.enc)] (by kernel_rfl) rfl (by kernel_rfl) (co (cs:=(y23.cells).toArray) rfl rfl (og y23) H) rfl rfl ?_);rintro _ h25 ⟨s26,rfl,H⟩;obtain ⟨k27,H⟩:=H;refine ⟨And.intro k27 trivial,?_⟩;refine g_e 8 511 [] (by kernel_rfl) rfl (by kernel_rfl) (dV rfl H) rfl rfl ?_;rintro _ h28 ⟨s29,rfl,H⟩;refine ⟨trivial,?_⟩;obtain ⟨a30,e31,H⟩:=H;refine gq 9 1023 rfl (bf (s:=x7) ZBW Tryz.sizeOf41 rfl rfl e31) (g_e 10 2047 [] (by kernel_rfl) rfl (by kernel_rfl) (aK (vs:=[s29.enc]) Tryz.sizeOf41 rfl rfl rfl rfl (de rfl) H) rfl rfl ?_);rintro _ h32 ⟨rfl,H⟩;refine ⟨trivial,?_⟩;refine g_d (by kernel_rfl) (aI (aa (ai (tq (bE rfl rfl) (qm rfl (nt ?_))))));exact ah [(0,(.pointer x0)),(1,(.int .i64 x1)),(7,x7.enc),(19,x19.enc),(20,(.int .i64 x20)),(21,(.int .i64 (IntKind.wrap .i64 (x21+1))))] ⟨rfl,rfl,rfl,rfl,rfl,rfl,tv⟩ ⟨_,_,_,_,_,_,rfl,H⟩
  ·replace H:=H.2 g7;refine bC (aF (aF (bV (aa (aj (sr (qm rfl (tq (bB (ts:=#[]) ZBW (o:=x7.ptr) (n:=x7.len) (cap:=x7.cap) rfl) (qm rfl (nt (aB ?_)))))))))));obtain ⟨m49,H⟩:=H;refine az [(0,(.pointer x0)),(1,(.int .i64 x1)),(40,x7.enc),(41,(.int .i64 (x7.len:Int))),(42,(.int .i64 0))] ⟨rfl,rfl,rfl,rfl,rfl,tv⟩ ?_;refine aY (fun m L' h=>∃ (x0:Option Addr) (x1:Int) (x40:Sl) (x41:Int) (x42:Int),L'=[(0,(.pointer x0)),(1,(.int .i64 x1)),(40,x40.enc),(41,(.int .i64 x41)),(42,(.int .i64 x42))]∧F.xbs.l2 Q m x0 x1 x40 x41 x42 h) ?_ ?_ m49 ⟨_,_,_,_,_,rfl,H⟩
   ·rintro L' h ⟨_,_,_,_,_,_,H⟩;exact H
   ·rintro q2 L' h ⟨x0,x1,x40,x41,x42,rfl,H⟩;unfold F.xbs.l2 at H;refine sr (tq (bN rfl rfl) (nt (aj ?_)));refine am rfl (fun g33=>?_) (fun g33=>?_)
    ·replace H:=H.1 g33;refine au (aa (aj (aB (sr (qm rfl ?_)))));obtain ⟨a34,e35,H⟩:=H;refine tq (bf (s:=x40) ZBW Tryz.sizeOf41 rfl rfl e35) ?_;obtain ⟨y36,k37,H⟩:=H;refine th (aD Tryz.isAgg41 rfl) k37 (qa rfl (qa rfl (nt (sr (qm rfl ?_)))));obtain ⟨a38,e39,H⟩:=H;refine tq (bG rfl e39) (tq (ay (off:=0) Z0 fU rfl) ?_);obtain ⟨y40,k41,H⟩:=H;refine th (aD Z3 rfl) k41 (qm rfl ?_);obtain ⟨a42,e43,H⟩:=H;refine tq (bf (s:=y40) Zw ZBG rfl rfl e43) ?_;obtain ⟨y44,k45,H⟩:=H;refine th (aD ZBH rfl) k45 (qm rfl (qm rfl (te (av Tryz.call115 rfl (F.xfh_ok H)) ?_)));rintro _ h46 ⟨r47,rfl,H⟩;refine tq (eI rfl) (nt ?_);refine am rfl (fun g48=>?_) (fun g48=>?_)
     ·replace H:=H.1 g48;refine sr (qa rfl (nt (al (aS (aq (aq (aS (aq ?_))))))));exact an rfl rfl ⟨_,rfl,H⟩
     ·replace H:=H.2 g48;refine au (aI (aa (ai (tq (bE rfl rfl) (qm rfl (nt ?_))))));exact ah [(0,(.pointer x0)),(1,(.int .i64 x1)),(40,x40.enc),(41,(.int .i64 x41)),(42,(.int .i64 (IntKind.wrap .i64 (x42+1))))] ⟨rfl,rfl,rfl,rfl,rfl,tv⟩ ⟨_,_,_,_,_,rfl,H⟩
    ·replace H:=H.2 g33;refine bC (aF (aF (bV (aa (sr (qa rfl (nt (al ?_))))))));exact an rfl rfl ⟨_,rfl,H⟩
def F.xae.j2 (Q:Int->H->Prop) (C1:(Option Addr)->Int->Sl->Int->Int->H->Prop) (x0:Option Addr) (x1:Int) (x2:Sl) (x7:Int) (x8:Int) (h:H):Prop:=
  C1 x0 x1 x2 x7 (IntKind.wrap .i64 (x8+1)) h
def F.xae.j4 (Q:Int->H->Prop) (C1:(Option Addr)->Int->Sl->Int->Int->H->Prop) (C2:(Option Addr)->Int->Sl->Int->Int->Addr->Bool->Int->H->Prop) (x0:Option Addr) (x1:Int) (x2:Sl) (x7:Int) (x8:Int) (x9:Addr) (x10:Bool) (x11:Int) (h:H):Prop:=
  C2 x0 x1 x2 x7 x8 x9 x10 (IntKind.wrap .i64 (x11+1)) h
def F.xae.j5 (Q:Int->H->Prop) (C1:(Option Addr)->Int->Sl->Int->Int->H->Prop) (x0:Option Addr) (x1:Int) (x2:Sl) (x7:Int) (x8:Int) (x12:Sl) (h:H):Prop:=
  F.xbe x12 (⟨x1,(⟨0,0,0,0⟩:ag),false⟩:bL) h fun r26 h25 =>
  F.xay r26 h25 fun r28 h27 =>
  F.xay x12 h27 fun r30 h29 =>
  F.xae.j2 Q C1 x0 x1 x2 (IntKind.wrap .i64 ((IntKind.wrap .i64 (x7+r28))-r30)) x8 h29
def F.xae.j6 (Q:Int->H->Prop) (C1:(Option Addr)->Int->Sl->Int->Int->H->Prop) (x0:Option Addr) (x1:Int) (x2:Sl) (x7:Int) (x8:Int) (x12:Sl) (x49:Bool) (h:H):Prop:=
  (x49=true ->
  F.xae.j2 Q C1 x0 x1 x2 x7 x8 h) ∧
  (x49=false ->
  F.xae.j5 Q C1 x0 x1 x2 x7 x8 x12 h)
def F.xae.l3 (Q:Int->H->Prop) (C1:(Option Addr)->Int->Sl->Int->Int->H->Prop):Nat->(Option Addr)->Int->Sl->Int->Int->Addr->Bool->Int->H->Prop
  | 0,_,_,_,_,_,_,_,_,_=>False
  | q3+1,x0,x1,x2,x7,x8,x9,x10,x11,h =>
    ((decide (x11<x8))=true ->
    (x10=true ->
    F.xae.j4 Q C1 (F.xae.l3 Q C1 q3) x0 x1 x2 x7 x8 x9 true x11 h) ∧
    (x10=false ->
    bD x2 x11 3 fun a15 =>
    ak h a15 fun y17 =>
    ak h x9 fun y19 =>
    F.xae.j4 Q C1 (F.xae.l3 Q C1 q3) x0 x1 x2 x7 x8 x9 ((y17.View == y19.View) && ((y17.Key.toList == y19.Key.toList) && ((y17.Start == y19.Start) && true))) x11 h)) ∧
    ((decide (x11<x8))=false ->
    ak h x9 fun y21 =>
    F.xdn x0 y21 h fun r24 h23 =>
    (x10=true ->
    F.xae.j6 Q C1 x0 x1 x2 x7 x8 r24 true h23) ∧
    (x10=false ->
    F.xdo r24 h23 fun r34 h33 =>
    F.xae.j6 Q C1 x0 x1 x2 x7 x8 r24 (decide (r34 > x1)) h33))
def F.xae.l1 (Q:Int->H->Prop):Nat->(Option Addr)->Int->Sl->Int->Int->H->Prop
  | 0,_,_,_,_,_,_=>False
  | q1+1,x0,x1,x2,x7,x8,h =>
    ((decide (x8<(x2.len:Int)))=true ->
    bD x2 x8 3 fun a2 =>
    ak h a2 fun y4 =>
    new h (((⟨0,(⟨#[]⟩:ByteArray),0⟩:ae):ae).cells.toArray) cH fun a7 h6 =>
    stH h6 a7 y4.cells fun h8 =>
    ak h8 a7 fun y9 =>
    F.xal y9 h8 fun r12 h11 =>
    ∃ m,F.xae.l3 Q (F.xae.l1 Q q1) m x0 x1 x2 x7 x8 a7 ((r12 != 0)) 0 h11) ∧
    ((decide (x8<(x2.len:Int)))=false ->
    Q x7 h)
def F.xae (p0:Option Addr) (p1:Int) (p2:Sl) (h:H) (Q:Int->H->Prop):Prop:=
  ∃ m,F.xae.l1 Q m p0 p1 p2 0 0 h
theorem F.xae_ok {p0:Option Addr}{p1:Int}{p2:Sl}{h:H}{Q:Int->H->Prop}(H:F.xae p0 p1 p2 h Q):Fn PP 142 ([(.pointer p0),(.int .i64 p1),p2.enc]:List Value).toArray h fun r h'=>∃ r0,r=(.int .i64 r0)∧Q r0 h':=by
 unfold F.xae at H;refine aV Tryz.func142 Tryz.ntmps142 rfl rfl fun w0=>(az [(0,(.pointer p0)),(1,(.int .i64 p1)),(2,p2.enc)] ⟨rfl,rfl,rfl,tv⟩ (sr (qa rfl (nt (sr (qa rfl (nt (aj (aj ?_)))))))));refine ai (qa rfl (nt (aB ?_)));obtain ⟨m36,H⟩:=H;refine az [(0,(.pointer p0)),(1,(.int .i64 p1)),(2,p2.enc),(7,(.int .i64 0)),(8,(.int .i64 0))] ⟨rfl,rfl,rfl,rfl,rfl,tv⟩ ?_;refine aY (fun m L' h=>∃ (x0:Option Addr) (x1:Int) (x2:Sl) (x7:Int) (x8:Int),L'=[(0,(.pointer x0)),(1,(.int .i64 x1)),(2,x2.enc),(7,(.int .i64 x7)),(8,(.int .i64 x8))]∧F.xae.l1 Q m x0 x1 x2 x7 x8 h) ?_ ?_ m36 ⟨_,_,_,_,_,rfl,H⟩
 ·rintro L' h ⟨_,_,_,_,_,_,H⟩;exact H
 ·rintro q1 L' h ⟨x0,x1,x2,x7,x8,rfl,H⟩;unfold F.xae.l1 at H;refine aj (sr (qm rfl (qm rfl (tq (bB (ts:=#[]) ZL (o:=x2.ptr) (n:=x2.len) (cap:=x2.cap) rfl) (tq (bN rfl rfl) (nt ?_))))));refine am rfl (fun g1=>?_) (fun g1=>?_)
  ·replace H:=H.1 g1;refine au (aa ?_);refine aG (fun L' h=>∃ (x0:Option Addr) (x1:Int) (x2:Sl) (x7:Int) (x8:Int),L'=[(0,(.pointer x0)),(1,(.int .i64 x1)),(2,x2.enc),(7,(.int .i64 x7)),(8,(.int .i64 x8))]∧F.xae.j2 Q (F.xae.l1 Q q1) x0 x1 x2 x7 x8 h) ?_ ?_
   ·rintro L' h ⟨x0,x1,x2,x7,x8,rfl,H⟩;unfold F.xae.j2 at H;refine ai (qm rfl (tq (bE rfl rfl) (qa rfl (nt ?_))));exact ah [(0,(.pointer x0)),(1,(.int .i64 x1)),(2,x2.enc),(7,(.int .i64 x7)),(8,(.int .i64 (IntKind.wrap .i64 (x8+1))))] ⟨rfl,rfl,rfl,rfl,rfl,tv⟩ ⟨_,_,_,_,_,rfl,H⟩
   ·refine aB (sr (qm rfl (qm rfl ?_)));obtain ⟨a2,e3,H⟩:=H;refine tq (bf (s:=x2) ZL ZA rfl rfl e3) ?_;obtain ⟨y4,k5,H⟩:=H;refine th (aQ ZB ZA rfl rfl) k5 (te (bJ (cs:=((⟨0,(⟨#[]⟩:ByteArray),0⟩:ae):ae).cells.toArray) ZBP rfl H) ?_);rintro _ h6 ⟨a7,rfl,H⟩;refine te (aK (vs:=y4.cells) ZA rfl rfl ax rfl (by intro v hv;exact bz _ v hv) H) ?_;rintro _ h8 ⟨rfl,H⟩;refine nt (sr ?_);obtain ⟨y9,k10,H⟩:=H;refine th (aQ ZB ZA rfl rfl) k10 (te (av Tryz.call131 rfl (F.xal_ok H)) ?_);rintro _ h11 ⟨r12,rfl,H⟩;refine tq (ey rfl rfl) (qa rfl (nt (aj (sr (qa rfl (nt (aB ?_)))))));obtain ⟨m35,H⟩:=H;refine az [(0,(.pointer x0)),(1,(.int .i64 x1)),(2,x2.enc),(7,(.int .i64 x7)),(8,(.int .i64 x8)),(9,(.pointer (some a7))),(10,(.bool ((r12 != 0)))),(11,(.int .i64 0))] ⟨rfl,rfl,rfl,rfl,rfl,rfl,rfl,rfl,tv⟩ ?_;refine aY (fun m L' h=>∃ (x0:Option Addr) (x1:Int) (x2:Sl) (x7:Int) (x8:Int) (x9:Addr) (x10:Bool) (x11:Int),L'=[(0,(.pointer x0)),(1,(.int .i64 x1)),(2,x2.enc),(7,(.int .i64 x7)),(8,(.int .i64 x8)),(9,(.pointer (some x9))),(10,(.bool x10)),(11,(.int .i64 x11))]∧F.xae.l3 Q (F.xae.l1 Q q1) m x0 x1 x2 x7 x8 x9 x10 x11 h) ?_ ?_ m35 ⟨_,_,_,_,_,_,_,_,rfl,H⟩
    ·rintro L' h ⟨_,_,_,_,_,_,_,_,_,H⟩;exact H
    ·rintro q3 L' h ⟨x0,x1,x2,x7,x8,x9,x10,x11,rfl,H⟩;unfold F.xae.l3 at H;refine aj (sr (qm rfl (qm rfl (tq (bN rfl rfl) (nt ?_)))));refine am rfl (fun g13=>?_) (fun g13=>?_)
     ·replace H:=H.1 g13;refine au (aa ?_);refine aG (fun L' h=>∃ (x0:Option Addr) (x1:Int) (x2:Sl) (x7:Int) (x8:Int) (x9:Addr) (x10:Bool) (x11:Int),L'=[(0,(.pointer x0)),(1,(.int .i64 x1)),(2,x2.enc),(7,(.int .i64 x7)),(8,(.int .i64 x8)),(9,(.pointer (some x9))),(10,(.bool x10)),(11,(.int .i64 x11))]∧F.xae.j4 Q (F.xae.l1 Q q1) (F.xae.l3 Q (F.xae.l1 Q q1) q3) x0 x1 x2 x7 x8 x9 x10 x11 h) ?_ ?_
      ·rintro L' h ⟨x0,x1,x2,x7,x8,x9,x10,x11,rfl,H⟩;unfold F.xae.j4 at H;refine ai (qm rfl (tq (bE rfl rfl) (qa rfl (nt ?_))));exact ah [(0,(.pointer x0)),(1,(.int .i64 x1)),(2,x2.enc),(7,(.int .i64 x7)),(8,(.int .i64 x8)),(9,(.pointer (some x9))),(10,(.bool x10)),(11,(.int .i64 (IntKind.wrap .i64 (x11+1))))] ⟨rfl,rfl,rfl,rfl,rfl,rfl,rfl,rfl,tv⟩ ⟨_,_,_,_,_,_,_,_,rfl,H⟩
      ·refine aB (bv mixed [0,1,3,3,15,31,3,127,255,511] (by kernel_rfl) (gq 0 1 rfl (aw rfl) (gq 1 3 rfl (aw rfl) ?_)));refine eO (t:=32) rfl (fun g14=>?_) (fun g14=>?_)
       ·replace H:=H.1 g14;refine gs 2 7 rfl (gs 3 15 rfl (gs 4 31 rfl (gs 5 63 rfl (gs 6 127 rfl (gs 7 255 rfl (gq 8 511 rfl (aL rfl rfl) (g_e 9 1023 [] (by kernel_rfl) rfl (by kernel_rfl) (rz (bp rfl)) rfl rfl ?_)))))));rintro _ _ ⟨rfl,rfl⟩;refine ⟨trivial,?_⟩;refine g_d (by kernel_rfl) (aI (aa ?_));exact ah [(0,(.pointer x0)),(1,(.int .i64 x1)),(2,x2.enc),(7,(.int .i64 x7)),(8,(.int .i64 x8)),(9,(.pointer (some x9))),(10,(.bool true)),(11,(.int .i64 x11))] ⟨rfl,rfl,rfl,rfl,rfl,rfl,rfl,rfl,tv⟩ ⟨_,_,_,_,_,_,_,_,rfl,H⟩
       ·replace H:=H.2 g14;refine gq 2 7 rfl (aw rfl) (gq 3 15 rfl (aw rfl) ?_);obtain ⟨a15,e16,H⟩:=H;refine gq 4 31 rfl (bf (s:=x2) ZL ZA rfl rfl e16) ?_;obtain ⟨y17,k18,H⟩:=H;refine gh 5 63 rfl (aQ ZB ZA rfl rfl) k18 ?_;obtain ⟨y19,k20,H⟩:=H;refine gh 6 127 rfl (aQ ZB ZA rfl rfl) k20 (gq 7 255 rfl (kX (b:=((y17.View == y19.View) && ((y17.Key.toList == y19.Key.toList) && ((y17.Start == y19.Start) && true)))) oC (fun w=>kN y17 y19 9998 w) rfl rfl) (gq 8 511 rfl (aH rfl rfl) (g_e 9 1023 [] (by kernel_rfl) rfl (by kernel_rfl) (rz (bp rfl)) rfl rfl ?_)));rintro _ _ ⟨rfl,rfl⟩;refine ⟨trivial,?_⟩;refine g_d (by kernel_rfl) (aI (aa ?_));exact ah [(0,(.pointer x0)),(1,(.int .i64 x1)),(2,x2.enc),(7,(.int .i64 x7)),(8,(.int .i64 x8)),(9,(.pointer (some x9))),(10,(.bool ((y17.View == y19.View) && ((y17.Key.toList == y19.Key.toList) && ((y17.Start == y19.Start) && true))))),(11,(.int .i64 x11))] ⟨rfl,rfl,rfl,rfl,rfl,rfl,rfl,rfl,tv⟩ ⟨_,_,_,_,_,_,_,_,rfl,H⟩
     ·replace H:=H.2 g13;refine bC (aF (aF (bV (aa (sr (qm rfl ?_))))));obtain ⟨y21,k22,H⟩:=H;refine th (aQ ZB ZA rfl rfl) k22 (te (av Tryz.call133 rfl (F.xdn_ok H)) ?_);rintro _ h23 ⟨r24,rfl,H⟩;refine qa rfl (nt ?_);refine aG (fun L' h=>∃ (x0:Option Addr) (x1:Int) (x2:Sl) (x7:Int) (x8:Int) (x12:Sl),L'=[(0,(.pointer x0)),(1,(.int .i64 x1)),(2,x2.enc),(7,(.int .i64 x7)),(8,(.int .i64 x8)),(12,x12.enc)]∧F.xae.j5 Q (F.xae.l1 Q q1) x0 x1 x2 x7 x8 x12 h) ?_ ?_
      ·rintro L' h ⟨x0,x1,x2,x7,x8,x12,rfl,H⟩;unfold F.xae.j5 at H;refine ai (qm rfl (qm rfl (qm rfl (tq (bO rfl (zy x1)) (te (av Tryz.call135 rfl (F.xbe_ok H)) ?_)))));rintro _ h25 ⟨r26,rfl,H⟩;refine te (av Tryz.call136 rfl (F.xay_ok H)) ?_;rintro _ h27 ⟨r28,rfl,H⟩;refine tq (bE rfl rfl) (qm rfl (te (av Tryz.call136 rfl (F.xay_ok H)) ?_));rintro _ h29 ⟨r30,rfl,H⟩;refine tq (cJ rfl rfl) (qa rfl (bo (aI (aa ?_))));exact ah [(0,(.pointer x0)),(1,(.int .i64 x1)),(2,x2.enc),(7,(.int .i64 (IntKind.wrap .i64 ((IntKind.wrap .i64 (x7+r28))-r30)))),(8,(.int .i64 x8))] ⟨rfl,rfl,rfl,rfl,rfl,tv⟩ ⟨_,_,_,_,_,rfl,H⟩
      ·refine aG (fun L' h=>∃ (x0:Option Addr) (x1:Int) (x2:Sl) (x7:Int) (x8:Int) (x12:Sl) (x49:Bool),L'=[(0,(.pointer x0)),(1,(.int .i64 x1)),(2,x2.enc),(7,(.int .i64 x7)),(8,(.int .i64 x8)),(12,x12.enc),(49,(.bool x49))]∧F.xae.j6 Q (F.xae.l1 Q q1) x0 x1 x2 x7 x8 x12 x49 h) ?_ ?_
       ·rintro L' h ⟨x0,x1,x2,x7,x8,x12,x49,rfl,H⟩;unfold F.xae.j6 at H;refine am rfl (fun g31=>?_) (fun g31=>?_)
        ·replace H:=H.1 g31;refine bC (aF (bV (aa ?_)));exact ah [(0,(.pointer x0)),(1,(.int .i64 x1)),(2,x2.enc),(7,(.int .i64 x7)),(8,(.int .i64 x8))] ⟨rfl,rfl,rfl,rfl,rfl,tv⟩ ⟨_,_,_,_,_,rfl,H⟩
        ·replace H:=H.2 g31;refine au (aa ?_);exact ah [(0,(.pointer x0)),(1,(.int .i64 x1)),(2,x2.enc),(7,(.int .i64 x7)),(8,(.int .i64 x8)),(12,x12.enc)] ⟨rfl,rfl,rfl,rfl,rfl,rfl,tv⟩ ⟨_,_,_,_,_,_,rfl,H⟩
       ·refine ai (qm rfl (qm rfl ?_));refine aT (t:=44) rfl (fun g32=>?_) (fun g32=>?_)
        ·replace H:=H.1 g32;refine ts (ts (ts (ts (tq (aL rfl rfl) (nt ?_)))));exact ah [(0,(.pointer x0)),(1,(.int .i64 x1)),(2,x2.enc),(7,(.int .i64 x7)),(8,(.int .i64 x8)),(12,r24.enc),(49,(.bool true))] ⟨rfl,rfl,rfl,rfl,rfl,rfl,rfl,tv⟩ ⟨_,_,_,_,_,_,_,rfl,H⟩
        ·replace H:=H.2 g32;refine qm rfl (te (av Tryz.call134 rfl (F.xdo_ok H)) ?_);rintro _ h33 ⟨r34,rfl,H⟩;refine qm rfl (tq (df rfl rfl) (tq (aH rfl rfl) (nt ?_)));exact ah [(0,(.pointer x0)),(1,(.int .i64 x1)),(2,x2.enc),(7,(.int .i64 x7)),(8,(.int .i64 x8)),(12,r24.enc),(49,(.bool (decide (r34 > x1))))] ⟨rfl,rfl,rfl,rfl,rfl,rfl,rfl,tv⟩ ⟨_,_,_,_,_,_,_,rfl,H⟩
  ·replace H:=H.2 g1;refine bC (aF (aF (bV (aa (sr (qm rfl (qa rfl (nt (al ?_)))))))));exact an rfl rfl ⟨_,rfl,H⟩
def F.xfg (p0:Option Addr) (p1:Int) (p2:Sl) (h:H) (Q:Bool->H->Prop):Prop:=
  nn p0 fun a1 =>
  ldI .i64 h (a1.add 0) fun y3 =>
  F.xbh p0 h fun r6 h5 =>
  aA h5 (a1.add 0)=some (.int .i64 y3) ∧
  F.xae p0 p1 p2 h5 fun r9 h8 =>
  aA h8 (a1.add 0)=some (.int .i64 y3) ∧
  Q (decide ((IntKind.wrap .i64 (r6+r9))<=y3)) h8
theorem F.xfg_ok {p0:Option Addr}{p1:Int}{p2:Sl}{h:H}{Q:Bool->H->Prop}(H:F.xfg p0 p1 p2 h Q):Fn PP 116 ([(.pointer p0),(.int .i64 p1),p2.enc]:List Value).toArray h fun r h'=>∃ r0,r=(.bool r0)∧Q r0 h':=by
 unfold F.xfg at H;refine aV Tryz.func116 Tryz.ntmps116 rfl rfl fun w0=>(az [(0,(.pointer p0)),(1,(.int .i64 p1)),(2,p2.enc)] ⟨rfl,rfl,rfl,tv⟩ (sr (qa rfl (nt (aj (bv mixed [0,1,0,0,0,31,63,0,128,384,896,2047,4095] (by kernel_rfl) (gq 0 1 rfl (aw rfl) (gq 2 5 rfl (aw rfl) (gq 3 13 rfl (aw rfl) (gq 4 29 rfl (aw rfl) (gq 7 157 rfl (aw rfl) ?_)))))))))));obtain ⟨a1,e2,H⟩:=H;refine gq 8 413 rfl (bG rfl e2) (gq 9 925 rfl (ay (off:=0) ZX uG rfl) ?_);obtain ⟨y3,k4,H⟩:=H;refine gh 10 1949 rfl (aD ZC rfl) k4 (g_e 1 1951 [(10,fun h=>aA h (a1.add 0)=some (.int .i64 y3))] (by kernel_rfl) rfl (by kernel_rfl) (av Tryz.call119 rfl (F.xbh_ok H)) rfl rfl ?_);rintro _ h5 ⟨r6,rfl,H⟩;obtain ⟨k7,H⟩:=H;refine ⟨And.intro k7 trivial,?_⟩;refine g_e 5 1983 [(10,fun h=>aA h (a1.add 0)=some (.int .i64 y3))] (by kernel_rfl) rfl (by kernel_rfl) (av Tryz.call142 rfl (F.xae_ok H)) rfl rfl ?_;rintro _ h8 ⟨r9,rfl,H⟩;obtain ⟨k10,H⟩:=H;refine ⟨And.intro k10 trivial,?_⟩;refine gq 6 2047 rfl (bE rfl rfl) (gq 11 4095 rfl (lh rfl rfl) (gq 12 8191 rfl (bp rfl) (g_d (by kernel_rfl) (aa (al ?_)))));exact an rfl rfl ⟨_,rfl,H⟩
def F.xap.j3 (Q:Bool->H->Prop) (C1:(Option Addr)->Int->Sl->Int->H->Prop) (C2:(Option Addr)->Int->Sl->Int->Sl->Int->H->Prop) (x0:Option Addr) (x1:Int) (x2:Sl) (x7:Int) (x8:Sl) (x9:Int) (h:H):Prop:=
  C2 x0 x1 x2 x7 x8 (IntKind.wrap .i64 (x9+1)) h
def F.xap.l2 (Q:Bool->H->Prop) (C1:(Option Addr)->Int->Sl->Int->H->Prop):Nat->(Option Addr)->Int->Sl->Int->Sl->Int->H->Prop
  | 0,_,_,_,_,_,_,_=>False
  | q2+1,x0,x1,x2,x7,x8,x9,h =>
    ((decide (x9<(x2.len:Int)))=true ->
    bD x2 x9 3 fun a7 =>
    ldS h (a7.add 1) fun y9 =>
    F.xdp x0 y9 h fun r12 h11 =>
    (((r12 == x7))=true ->
    bD x2 x9 3 fun a14 =>
    ak h11 a14 fun y16 =>
    fv h11 ((y16.cells).toArray) cH 1 fun s19 h18 =>
    dA PP (Builtin.append_ #[41,41] 41 #[x8.enc,s19.enc]) h18 fun s21 h20 =>
    F.xap.j3 Q C1 (F.xap.l2 Q C1 q2) x0 x1 x2 x7 s21 x9 h20) ∧
    (((r12 == x7))=false ->
    F.xap.j3 Q C1 (F.xap.l2 Q C1 q2) x0 x1 x2 x7 x8 x9 h11)) ∧
    ((decide (x9<(x2.len:Int)))=false ->
    nn x0 fun a22 =>
    ldL h (a22.add 0) fun y24 =>
    bD y24 x7 1 fun a26 =>
    ldP h a26 fun y28 =>
    F.xfg y28 x1 x8 h fun r31 h30 =>
    ((!r31)=true ->
    Q false h30) ∧
    ((!r31)=false ->
    C1 x0 x1 x2 (IntKind.wrap .i64 (x7+1)) h30))
def F.xap.l1 (Q:Bool->H->Prop):Nat->(Option Addr)->Int->Sl->Int->H->Prop
  | 0,_,_,_,_,_=>False
  | q1+1,x0,x1,x2,x7,h =>
    nn x0 fun a1 =>
    ldL h (a1.add 0) fun y3 =>
    ((decide (x7<(y3.len:Int)))=true ->
    ∃ m,F.xap.l2 Q (F.xap.l1 Q q1) m x0 x1 x2 x7 (⟨none,0,0⟩:Sl) 0 h) ∧
    ((decide (x7<(y3.len:Int)))=false ->
    Q true h)
def F.xap (p0:Option Addr) (p1:Int) (p2:Sl) (h:H) (Q:Bool->H->Prop):Prop:=
  ∃ m,F.xap.l1 Q m p0 p1 p2 0 h
theorem F.xap_ok {p0:Option Addr}{p1:Int}{p2:Sl}{h:H}{Q:Bool->H->Prop}(H:F.xap p0 p1 p2 h Q):Fn PP 82 ([(.pointer p0),(.int .i64 p1),p2.enc]:List Value).toArray h fun r h'=>∃ r0,r=(.bool r0)∧Q r0 h':=by
 unfold F.xap at H;refine aV Tryz.func82 Tryz.ntmps82 rfl rfl fun w0=>(az [(0,(.pointer p0)),(1,(.int .i64 p1)),(2,p2.enc)] ⟨rfl,rfl,rfl,tv⟩ (sr (qa rfl (nt (aj (sr (qa rfl (nt (aB ?_)))))))));obtain ⟨m34,H⟩:=H;refine az [(0,(.pointer p0)),(1,(.int .i64 p1)),(2,p2.enc),(7,(.int .i64 0))] ⟨rfl,rfl,rfl,rfl,tv⟩ ?_;refine aY (fun m L' h=>∃ (x0:Option Addr) (x1:Int) (x2:Sl) (x7:Int),L'=[(0,(.pointer x0)),(1,(.int .i64 x1)),(2,x2.enc),(7,(.int .i64 x7))]∧F.xap.l1 Q m x0 x1 x2 x7 h) ?_ ?_ m34 ⟨_,_,_,_,rfl,H⟩
 ·rintro L' h ⟨_,_,_,_,_,H⟩;exact H
 ·rintro q1 L' h ⟨x0,x1,x2,x7,rfl,H⟩;unfold F.xap.l1 at H;refine aj (sr (qm rfl (qm rfl ?_)));obtain ⟨a1,e2,H⟩:=H;refine tq (bG rfl e2) (tq (ay (off:=0) Zg dY rfl) ?_);obtain ⟨y3,k4,H⟩:=H;refine th (aD Zk rfl) k4 (tq (bB (ts:=#[]) Zm (o:=y3.ptr) (n:=y3.len) (cap:=y3.cap) rfl) (tq (bN rfl rfl) (nt ?_)));refine am rfl (fun g5=>?_) (fun g5=>?_)
  ·replace H:=H.1 g5;refine au (aa (aj (aB (sr (qa rfl (nt (aj (sr (qa rfl (bo ?_))))))))));refine aa (aB ?_);obtain ⟨m33,H⟩:=H;refine az [(0,(.pointer x0)),(1,(.int .i64 x1)),(2,x2.enc),(7,(.int .i64 x7)),(8,(⟨none,0,0⟩:Sl).enc),(9,(.int .i64 0))] ⟨rfl,rfl,rfl,rfl,rfl,rfl,tv⟩ ?_;refine aY (fun m L' h=>∃ (x0:Option Addr) (x1:Int) (x2:Sl) (x7:Int) (x8:Sl) (x9:Int),L'=[(0,(.pointer x0)),(1,(.int .i64 x1)),(2,x2.enc),(7,(.int .i64 x7)),(8,x8.enc),(9,(.int .i64 x9))]∧F.xap.l2 Q (F.xap.l1 Q q1) m x0 x1 x2 x7 x8 x9 h) ?_ ?_ m33 ⟨_,_,_,_,_,_,rfl,H⟩
   ·rintro L' h ⟨_,_,_,_,_,_,_,H⟩;exact H
   ·rintro q2 L' h ⟨x0,x1,x2,x7,x8,x9,rfl,H⟩;unfold F.xap.l2 at H;refine aj (sr (qm rfl (qm rfl (tq (bB (ts:=#[]) ZL (o:=x2.ptr) (n:=x2.len) (cap:=x2.cap) rfl) (tq (bN rfl rfl) (nt ?_))))));refine am rfl (fun g6=>?_) (fun g6=>?_)
    ·replace H:=H.1 g6;refine au (aa ?_);refine aG (fun L' h=>∃ (x0:Option Addr) (x1:Int) (x2:Sl) (x7:Int) (x8:Sl) (x9:Int),L'=[(0,(.pointer x0)),(1,(.int .i64 x1)),(2,x2.enc),(7,(.int .i64 x7)),(8,x8.enc),(9,(.int .i64 x9))]∧F.xap.j3 Q (F.xap.l1 Q q1) (F.xap.l2 Q (F.xap.l1 Q q1) q2) x0 x1 x2 x7 x8 x9 h) ?_ ?_
     ·rintro L' h ⟨x0,x1,x2,x7,x8,x9,rfl,H⟩;unfold F.xap.j3 at H;refine ai (qm rfl (tq (bE rfl rfl) (qa rfl (nt ?_))));exact ah [(0,(.pointer x0)),(1,(.int .i64 x1)),(2,x2.enc),(7,(.int .i64 x7)),(8,x8.enc),(9,(.int .i64 (IntKind.wrap .i64 (x9+1))))] ⟨rfl,rfl,rfl,rfl,rfl,rfl,tv⟩ ⟨_,_,_,_,_,_,rfl,H⟩
     ·refine aB (sr (qm rfl (qm rfl (qm rfl ?_))));obtain ⟨a7,e8,H⟩:=H;refine tq (bf (s:=x2) ZL ZA rfl rfl e8) (tq (ay (off:=1) ZH dS rfl) ?_);obtain ⟨y9,k10,H⟩:=H;refine th (aD ZP rfl) k10 (te (av Tryz.call11 rfl (F.xdp_ok H)) ?_);rintro _ h11 ⟨r12,rfl,H⟩;refine qm rfl (tq (ct rfl rfl) (nt ?_));refine am rfl (fun g13=>?_) (fun g13=>?_)
      ·replace H:=H.1 g13;refine ai (qm rfl (qm rfl (qm rfl ?_)));obtain ⟨a14,e15,H⟩:=H;refine tq (bf (s:=x2) ZL ZA rfl rfl e15) ?_;obtain ⟨y16,k17,H⟩:=H;refine th (aQ ZB ZA rfl rfl) k17 (te (co (cs:=(y16.cells).toArray) rfl rfl (og y16) H) ?_);rintro _ h18 ⟨s19,rfl,H⟩;refine te (dV rfl H) ?_;rintro _ h20 ⟨s21,rfl,H⟩;refine qa rfl (bo (aI (aa ?_)));exact ah [(0,(.pointer x0)),(1,(.int .i64 x1)),(2,x2.enc),(7,(.int .i64 x7)),(8,s21.enc),(9,(.int .i64 x9))] ⟨rfl,rfl,rfl,rfl,rfl,rfl,tv⟩ ⟨_,_,_,_,_,_,rfl,H⟩
      ·replace H:=H.2 g13;refine au (aI (aa ?_));exact ah [(0,(.pointer x0)),(1,(.int .i64 x1)),(2,x2.enc),(7,(.int .i64 x7)),(8,x8.enc),(9,(.int .i64 x9))] ⟨rfl,rfl,rfl,rfl,rfl,rfl,tv⟩ ⟨_,_,_,_,_,_,rfl,H⟩
    ·replace H:=H.2 g6;refine bC (aF (aF (bV (aa (sr (qm rfl ?_))))));obtain ⟨a22,e23,H⟩:=H;refine tq (bG rfl e23) (tq (ay (off:=0) Zg dY rfl) ?_);obtain ⟨y24,k25,H⟩:=H;refine th (aD Zk rfl) k25 (qm rfl ?_);obtain ⟨a26,e27,H⟩:=H;refine tq (bf (s:=y24) Zm ZBD rfl rfl e27) ?_;obtain ⟨y28,k29,H⟩:=H;refine th (aD ZBE rfl) k29 (qm rfl (qm rfl (te (av Tryz.call116 rfl (F.xfg_ok H)) ?_)));rintro _ h30 ⟨r31,rfl,H⟩;refine tq (eI rfl) (nt ?_);refine am rfl (fun g32=>?_) (fun g32=>?_)
     ·replace H:=H.1 g32;refine sr (qa rfl (nt (al (aS (aq (aq (aS (aq ?_))))))));exact an rfl rfl ⟨_,rfl,H⟩
     ·replace H:=H.2 g32;refine au (aI (aa (ai (qm rfl (tq (bE rfl rfl) (qa rfl (nt ?_)))))));exact ah [(0,(.pointer x0)),(1,(.int .i64 x1)),(2,x2.enc),(7,(.int .i64 (IntKind.wrap .i64 (x7+1))))] ⟨rfl,rfl,rfl,rfl,tv⟩ ⟨_,_,_,_,rfl,H⟩
  ·replace H:=H.2 g5;refine bC (aF (aF (bV (aa (sr (qa rfl (nt (al ?_))))))));exact an rfl rfl ⟨_,rfl,H⟩
def F.xav.j2 (Q:Bool->H->Prop) (C1:Sl->Sl->Bool->Int->H->Prop) (x0:Sl) (x1:Sl) (x6:Bool) (x7:Int) (h:H):Prop:=
  C1 x0 x1 x6 (IntKind.wrap .i64 (x7+1)) h
def F.xav.j3 (Q:Bool->H->Prop) (C1:Sl->Sl->Bool->Int->H->Prop) (x0:Sl) (x1:Sl) (x6:Bool) (x7:Int) (h:H):Prop:=
  bD x0 x7 3 fun a8 =>
  stH h a8 ((⟨0,(⟨#[111,118,101,114]⟩:ByteArray),0⟩:ae).cells) fun h10 =>
  F.xav.j2 Q C1 x0 x1 x6 x7 h10
def F.xav.l1 (Q:Bool->H->Prop):Nat->Sl->Sl->Bool->Int->H->Prop
  | 0,_,_,_,_,_=>False
  | q1+1,x0,x1,x6,x7,h =>
    ((decide (x7<(x1.len:Int)))=true ->
    (x6=true ->
    bD x0 x7 3 fun a12 =>
    ak h a12 fun y14 =>
    bD x1 x7 3 fun a16 =>
    ak h a16 fun y18 =>
    F.xav.j3 Q (F.xav.l1 Q q1) x0 x1 ((y14.View == y18.View) && ((y14.Key.toList == y18.Key.toList) && ((y14.Start == y18.Start) && true))) x7 h) ∧
    (x6=false ->
    F.xav.j3 Q (F.xav.l1 Q q1) x0 x1 false x7 h)) ∧
    ((decide (x7<(x1.len:Int)))=false ->
    Q x6 h)
def F.xav (p0:Sl) (p1:Sl) (h:H) (Q:Bool->H->Prop):Prop:=
  ly p0 0 (IntKind.wrap .i64 ((p1.len:Int)+1)) 3 fun s2 =>
  bD s2 (p1.len:Int) 3 fun a3 =>
  ak h a3 fun y5 =>
  ∃ m,F.xav.l1 Q m p0 p1 ((y5.View == (⟨(-77),(⟨#[]⟩:ByteArray),0⟩:ae).View) && ((y5.Key.toList == (⟨(-77),(⟨#[]⟩:ByteArray),0⟩:ae).Key.toList) && ((y5.Start == (⟨(-77),(⟨#[]⟩:ByteArray),0⟩:ae).Start) && true))) 0 h
theorem F.xav_ok {p0:Sl}{p1:Sl}{h:H}{Q:Bool->H->Prop}(H:F.xav p0 p1 h Q):Fn PP 83 ([p0.enc,p1.enc]:List Value).toArray h fun r h'=>∃ r0,r=(.bool r0)∧Q r0 h':=by
 unfold F.xav at H;refine aV Tryz.func83 Tryz.ntmps83 rfl rfl fun w0=>(az [(0,p0.enc),(1,p1.enc)] ⟨rfl,rfl,tv⟩ (sr (qa rfl (nt (sr (qm rfl (qm rfl (tq (bB (ts:=#[]) ZL (o:=p1.ptr) (n:=p1.len) (cap:=p1.cap) rfl) (tq (bE rfl rfl) ?_)))))))));obtain ⟨s2,e1,H⟩:=H;refine tq (gU (s:=p0) none (some (.i64,(IntKind.wrap .i64 ((p1.len:Int)+1)))) ZL ZA rfl rfl rfl e1) (qa rfl (nt (sr (qm rfl (qm rfl (tq (bB (ts:=#[]) ZL (o:=p1.ptr) (n:=p1.len) (cap:=p1.cap) rfl) ?_))))));obtain ⟨a3,e4,H⟩:=H;refine tq (bf (s:=s2) ZL ZA rfl rfl e4) ?_;obtain ⟨y5,k6,H⟩:=H;refine th (aQ ZB ZA rfl rfl) k6 (tq (bO rfl (pK (-77))) (tq (kX (b:=((y5.View == (⟨(-77),(⟨#[]⟩:ByteArray),0⟩:ae).View) && ((y5.Key.toList == (⟨(-77),(⟨#[]⟩:ByteArray),0⟩:ae).Key.toList) && ((y5.Start == (⟨(-77),(⟨#[]⟩:ByteArray),0⟩:ae).Start) && true)))) oC (fun w=>kN y5 (⟨(-77),(⟨#[]⟩:ByteArray),0⟩:ae) 9998 w) rfl rfl) (qa rfl (nt (aj (sr (qa rfl (nt (aB ?_)))))))));obtain ⟨m20,H⟩:=H;refine az [(0,p0.enc),(1,p1.enc),(6,(.bool ((y5.View == (⟨(-77),(⟨#[]⟩:ByteArray),0⟩:ae).View) && ((y5.Key.toList == (⟨(-77),(⟨#[]⟩:ByteArray),0⟩:ae).Key.toList) && ((y5.Start == (⟨(-77),(⟨#[]⟩:ByteArray),0⟩:ae).Start) && true))))),(7,(.int .i64 0))] ⟨rfl,rfl,rfl,rfl,tv⟩ ?_;refine aY (fun m L' h=>∃ (x0:Sl) (x1:Sl) (x6:Bool) (x7:Int),L'=[(0,x0.enc),(1,x1.enc),(6,(.bool x6)),(7,(.int .i64 x7))]∧F.xav.l1 Q m x0 x1 x6 x7 h) ?_ ?_ m20 ⟨_,_,_,_,rfl,H⟩
 ·rintro L' h ⟨_,_,_,_,_,H⟩;exact H
 ·rintro q1 L' h ⟨x0,x1,x6,x7,rfl,H⟩;unfold F.xav.l1 at H;refine aj (sr (qm rfl (qm rfl (tq (bB (ts:=#[]) ZL (o:=x1.ptr) (n:=x1.len) (cap:=x1.cap) rfl) (tq (bN rfl rfl) (nt ?_))))));refine am rfl (fun g7=>?_) (fun g7=>?_)
  ·replace H:=H.1 g7;refine au (aa ?_);refine aG (fun L' h=>∃ (x0:Sl) (x1:Sl) (x6:Bool) (x7:Int),L'=[(0,x0.enc),(1,x1.enc),(6,(.bool x6)),(7,(.int .i64 x7))]∧F.xav.j2 Q (F.xav.l1 Q q1) x0 x1 x6 x7 h) ?_ ?_
   ·rintro L' h ⟨x0,x1,x6,x7,rfl,H⟩;unfold F.xav.j2 at H;refine ai (qm rfl (tq (bE rfl rfl) (qa rfl (nt ?_))));exact ah [(0,x0.enc),(1,x1.enc),(6,(.bool x6)),(7,(.int .i64 (IntKind.wrap .i64 (x7+1))))] ⟨rfl,rfl,rfl,rfl,tv⟩ ⟨_,_,_,_,rfl,H⟩
   ·refine aB ?_;refine aG (fun L' h=>∃ (x0:Sl) (x1:Sl) (x6:Bool) (x7:Int),L'=[(0,x0.enc),(1,x1.enc),(6,(.bool x6)),(7,(.int .i64 x7))]∧F.xav.j3 Q (F.xav.l1 Q q1) x0 x1 x6 x7 h) ?_ ?_
    ·rintro L' h ⟨x0,x1,x6,x7,rfl,H⟩;unfold F.xav.j3 at H;refine ai (qm rfl (qm rfl (tq (bO rfl (tk (⟨#[111,118,101,114]⟩:ByteArray))) ?_)));obtain ⟨a8,e9,H⟩:=H;refine tq (bf (s:=x0) ZL ZA rfl rfl e9) (te (aK (vs:=(⟨0,(⟨#[111,118,101,114]⟩:ByteArray),0⟩:ae).cells) ZA rfl rfl ax rfl (by intro v hv;exact bz _ v hv) H) ?_);rintro _ h10 ⟨rfl,H⟩;refine bo (aI (aa ?_));exact ah [(0,x0.enc),(1,x1.enc),(6,(.bool x6)),(7,(.int .i64 x7))] ⟨rfl,rfl,rfl,rfl,tv⟩ ⟨_,_,_,_,rfl,H⟩
    ·refine bv mixed [0,1,3,3,15,31,3,3,195,451,1023,2047,4095] (by kernel_rfl) (gq 0 1 rfl (aw rfl) (gq 1 3 rfl (aw rfl) ?_));refine eO (t:=27) rfl (fun g11=>?_) (fun g11=>?_)
     ·replace H:=H.1 g11;refine gq 2 7 rfl (aw rfl) (gq 3 15 rfl (aw rfl) ?_);obtain ⟨a12,e13,H⟩:=H;refine gq 4 31 rfl (bf (s:=x0) ZL ZA rfl rfl e13) ?_;obtain ⟨y14,k15,H⟩:=H;refine gh 5 63 rfl (aQ ZB ZA rfl rfl) k15 (gq 6 127 rfl (aw rfl) (gq 7 255 rfl (aw rfl) ?_));obtain ⟨a16,e17,H⟩:=H;refine gq 8 511 rfl (bf (s:=x1) ZL ZA rfl rfl e17) ?_;obtain ⟨y18,k19,H⟩:=H;refine gh 9 1023 rfl (aQ ZB ZA rfl rfl) k19 (gq 10 2047 rfl (kX (b:=((y14.View == y18.View) && ((y14.Key.toList == y18.Key.toList) && ((y14.Start == y18.Start) && true)))) oC (fun w=>kN y14 y18 9998 w) rfl rfl) (gq 11 4095 rfl (aL rfl rfl) (g_e 12 8191 [] (by kernel_rfl) rfl (by kernel_rfl) (rz (bp rfl)) rfl rfl ?_)));rintro _ _ ⟨rfl,rfl⟩;refine ⟨trivial,?_⟩;refine g_d (by kernel_rfl) (aa ?_);exact ah [(0,x0.enc),(1,x1.enc),(6,(.bool ((y14.View == y18.View) && ((y14.Key.toList == y18.Key.toList) && ((y14.Start == y18.Start) && true))))),(7,(.int .i64 x7))] ⟨rfl,rfl,rfl,rfl,tv⟩ ⟨_,_,_,_,rfl,H⟩
     ·replace H:=H.2 g11;refine gs 2 7 rfl (gs 3 15 rfl (gs 4 31 rfl (gs 5 63 rfl (gs 6 127 rfl (gs 7 255 rfl (gs 8 511 rfl (gs 9 1023 rfl (gs 10 2047 rfl (gq 11 4095 rfl (aH rfl rfl) (g_e 12 8191 [] (by kernel_rfl) rfl (by kernel_rfl) (rz (bp rfl)) rfl rfl ?_))))))))));rintro _ _ ⟨rfl,rfl⟩;refine ⟨trivial,?_⟩;refine g_d (by kernel_rfl) (aa ?_);exact ah [(0,x0.enc),(1,x1.enc),(6,(.bool false)),(7,(.int .i64 x7))] ⟨rfl,rfl,rfl,rfl,tv⟩ ⟨_,_,_,_,rfl,H⟩
  ·replace H:=H.2 g7;refine bC (aF (aF (bV (aa (sr (qm rfl (qa rfl (nt (al ?_)))))))));exact an rfl rfl ⟨_,rfl,H⟩
def F.xah.j3 (Q:Sl->H->Prop) (C1:(Option Addr)->Int->Int->Addr->Addr->Sl->Int->H->Prop) (x0:Option Addr) (x1:Int) (x4:Int) (x7:Addr) (x8:Addr) (x11:Sl) (x12:Int) (h:H):Prop:=
  C1 x0 x1 x4 x7 x8 x11 (IntKind.wrap .i64 (x12+1)) h
def F.xah.j4 (Q:Sl->H->Prop) (C1:(Option Addr)->Int->Int->Addr->Addr->Sl->Int->H->Prop) (x0:Option Addr) (x1:Int) (x4:Int) (x7:Addr) (x8:Addr) (x11:Sl) (x12:Int) (x13:Addr) (x14:Addr) (x63:Bool) (h:H):Prop:=
  (x63=true ->
  ak h x13 fun y31 =>
  bh h x14 fun y33 =>
  fv h (((⟨y31,y33⟩:aO).cells).toArray) mx 1 fun s36 h35 =>
  dA PP (Builtin.append_ #[51,51] 51 #[x11.enc,s36.enc]) h35 fun s38 h37 =>
  F.xah.j3 Q C1 x0 x1 x4 x7 x8 s38 x12 h37) ∧
  (x63=false ->
  F.xah.j3 Q C1 x0 x1 x4 x7 x8 x11 x12 h)
def F.xah.j2 (Q:Sl->H->Prop) (C1:(Option Addr)->Int->Int->Addr->Addr->Sl->Int->H->Prop) (x0:Option Addr) (x1:Int) (x4:Int) (x7:Addr) (x8:Addr) (x11:Sl) (x12:Int) (h:H):Prop:=
  nn x0 fun a5 =>
  ldL h (a5.add 1) fun y7 =>
  bD y7 x12 4 fun a9 =>
  ak h (a9.add 0) fun y11 =>
  new h (((⟨0,(⟨#[]⟩:ByteArray),0⟩:ae):ae).cells.toArray) cH fun a14 h13 =>
  stH h13 a14 y11.cells fun h15 =>
  nn x0 fun a16 =>
  ldL h15 (a16.add 1) fun y18 =>
  bD y18 x12 4 fun a20 =>
  ldL h15 (a20.add 3) fun y22 =>
  F.xas y22 x1 h15 fun r25 r26 h24 =>
  new h24 (((⟨0,0,0,0⟩:ag):ag).cells.toArray) gz fun a28 h27 =>
  stH h27 a28 r25.cells fun h29 =>
  (r26=true ->
  ak h29 a14 fun y40 =>
  ak h29 x7 fun y42 =>
  F.xdd y40 y42 h29 fun r45 h44 =>
  ((!r45)=true ->
  ak h44 a14 fun y47 =>
  ak h44 x8 fun y49 =>
  F.xdd y47 y49 h44 fun r52 h51 =>
  F.xah.j4 Q C1 x0 x1 x4 x7 x8 x11 x12 a14 a28 r52 h51) ∧
  ((!r45)=false ->
  F.xah.j4 Q C1 x0 x1 x4 x7 x8 x11 x12 a14 a28 false h44)) ∧
  (r26=false ->
  F.xah.j4 Q C1 x0 x1 x4 x7 x8 x11 x12 a14 a28 false h29)
def F.xah.j5 (Q:Sl->H->Prop) (C1:(Option Addr)->Int->Int->Addr->Addr->Sl->Int->H->Prop) (x0:Option Addr) (x1:Int) (x4:Int) (x7:Addr) (x8:Addr) (x11:Sl) (x12:Int) (x28:Bool) (h:H):Prop:=
  (x28=true ->
  F.xah.j2 Q C1 x0 x1 x4 x7 x8 x11 x12 h) ∧
  (x28=false ->
  Q x11 h)
def F.xah.l1 (Q:Sl->H->Prop):Nat->(Option Addr)->Int->Int->Addr->Addr->Sl->Int->H->Prop
  | 0,_,_,_,_,_,_,_,_=>False
  | q1+1,x0,x1,x4,x7,x8,x11,x12,h =>
    nn x0 fun a54 =>
    ldL h (a54.add 1) fun y56 =>
    ((decide (x12<(y56.len:Int)))=true ->
    F.xah.j5 Q (F.xah.l1 Q q1) x0 x1 x4 x7 x8 x11 x12 (decide ((x11.len:Int)<x4)) h) ∧
    ((decide (x12<(y56.len:Int)))=false ->
    F.xah.j5 Q (F.xah.l1 Q q1) x0 x1 x4 x7 x8 x11 x12 false h)
def F.xah (p0:Option Addr) (p1:Int) (p2:ae) (p3:ae) (p4:Int) (h:H) (Q:Sl->H->Prop):Prop:=
  new h p2.cells.toArray cH fun a2 h1 =>
  new h1 p3.cells.toArray cH fun a4 h3 =>
  ∃ m,F.xah.l1 Q m p0 p1 p4 a2 a4 (⟨none,0,0⟩:Sl) 0 h3
theorem F.xah_ok {p0:Option Addr}{p1:Int}{p2:ae}{p3:ae}{p4:Int}{h:H}{Q:Sl->H->Prop}(H:F.xah p0 p1 p2 p3 p4 h Q):Fn PP 117 ([(.pointer p0),(.int .i64 p1),(.agg p2.cells.toArray),(.agg p3.cells.toArray),(.int .i64 p4)]:List Value).toArray h fun r h'=>∃ r0,r=r0.enc∧Q r0 h':=by
 unfold F.xah at H;refine aV Tryz.func117 Tryz.ntmps117 rfl rfl fun w0=>(az [(0,(.pointer p0)),(1,(.int .i64 p1)),(2,(.agg p2.cells.toArray)),(3,(.agg p3.cells.toArray)),(4,(.int .i64 p4))] ⟨rfl,rfl,rfl,rfl,rfl,tv⟩ (sr (te (cb (cs:=p2.cells.toArray) rfl rfl H) ?_)));rintro _ h1 ⟨a2,rfl,H⟩;refine te (cb (cs:=p3.cells.toArray) rfl rfl H) ?_;rintro _ h3 ⟨a4,rfl,H⟩;refine qa rfl (nt (sr (qa rfl (nt (aj (sr (qa rfl (nt ?_))))))));refine aB ?_;obtain ⟨m59,H⟩:=H;refine az [(0,(.pointer p0)),(1,(.int .i64 p1)),(4,(.int .i64 p4)),(7,(.pointer (some a2))),(8,(.pointer (some a4))),(11,(⟨none,0,0⟩:Sl).enc),(12,(.int .i64 0))] ⟨rfl,rfl,rfl,rfl,rfl,rfl,rfl,tv⟩ ?_;refine aY (fun m L' h=>∃ (x0:Option Addr) (x1:Int) (x4:Int) (x7:Addr) (x8:Addr) (x11:Sl) (x12:Int),L'=[(0,(.pointer x0)),(1,(.int .i64 x1)),(4,(.int .i64 x4)),(7,(.pointer (some x7))),(8,(.pointer (some x8))),(11,x11.enc),(12,(.int .i64 x12))]∧F.xah.l1 Q m x0 x1 x4 x7 x8 x11 x12 h) ?_ ?_ m59 ⟨_,_,_,_,_,_,_,rfl,H⟩
 ·rintro L' h ⟨_,_,_,_,_,_,_,_,H⟩;exact H
 ·rintro q1 L' h ⟨x0,x1,x4,x7,x8,x11,x12,rfl,H⟩;unfold F.xah.l1 at H;refine aG (fun L' h=>∃ (x0:Option Addr) (x1:Int) (x4:Int) (x7:Addr) (x8:Addr) (x11:Sl) (x12:Int),L'=[(0,(.pointer x0)),(1,(.int .i64 x1)),(4,(.int .i64 x4)),(7,(.pointer (some x7))),(8,(.pointer (some x8))),(11,x11.enc),(12,(.int .i64 x12))]∧F.xah.j2 Q (F.xah.l1 Q q1) x0 x1 x4 x7 x8 x11 x12 h) ?_ ?_
  ·rintro L' h ⟨x0,x1,x4,x7,x8,x11,x12,rfl,H⟩;unfold F.xah.j2 at H;refine aG (fun L' h=>∃ (x0:Option Addr) (x1:Int) (x4:Int) (x7:Addr) (x8:Addr) (x11:Sl) (x12:Int),L'=[(0,(.pointer x0)),(1,(.int .i64 x1)),(4,(.int .i64 x4)),(7,(.pointer (some x7))),(8,(.pointer (some x8))),(11,x11.enc),(12,(.int .i64 x12))]∧F.xah.j3 Q (F.xah.l1 Q q1) x0 x1 x4 x7 x8 x11 x12 h) ?_ ?_
   ·rintro L' h ⟨x0,x1,x4,x7,x8,x11,x12,rfl,H⟩;unfold F.xah.j3 at H;refine ai (qm rfl (tq (bE rfl rfl) (qa rfl (nt ?_))));exact ah [(0,(.pointer x0)),(1,(.int .i64 x1)),(4,(.int .i64 x4)),(7,(.pointer (some x7))),(8,(.pointer (some x8))),(11,x11.enc),(12,(.int .i64 (IntKind.wrap .i64 (x12+1))))] ⟨rfl,rfl,rfl,rfl,rfl,rfl,rfl,tv⟩ ⟨_,_,_,_,_,_,_,rfl,H⟩
   ·refine aB (sr (qm rfl ?_));obtain ⟨a5,e6,H⟩:=H;refine tq (bG rfl e6) (tq (ay (off:=1) ZX dc rfl) ?_);obtain ⟨y7,k8,H⟩:=H;refine th (aD Ze rfl) k8 (qm rfl ?_);obtain ⟨a9,e10,H⟩:=H;refine tq (bf (s:=y7) Zf Zy rfl rfl e10) (tq (ay (off:=0) Z4 ny rfl) ?_);obtain ⟨y11,k12,H⟩:=H;refine th (aQ ZB ZA rfl rfl) k12 (te (bJ (cs:=((⟨0,(⟨#[]⟩:ByteArray),0⟩:ae):ae).cells.toArray) ZBP rfl H) ?_);rintro _ h13 ⟨a14,rfl,H⟩;refine te (aK (vs:=y11.cells) ZA rfl rfl ax rfl (by intro v hv;exact bz _ v hv) H) ?_;rintro _ h15 ⟨rfl,H⟩;refine nt (sr (qm rfl ?_));obtain ⟨a16,e17,H⟩:=H;refine tq (bG rfl e17) (tq (ay (off:=1) ZX dc rfl) ?_);obtain ⟨y18,k19,H⟩:=H;refine th (aD Ze rfl) k19 (qm rfl ?_);obtain ⟨a20,e21,H⟩:=H;refine tq (bf (s:=y18) Zf Zy rfl rfl e21) (tq (ay (off:=3) Z4 iO rfl) ?_);obtain ⟨y22,k23,H⟩:=H;refine th (aD ZBL rfl) k23 (qm rfl (te (av Tryz.call140 rfl (F.xas_ok H)) ?_));rintro _ h24 ⟨r25,r26,rfl,H⟩;refine qm rfl (tq (bW rfl rfl) (tq (bW rfl rfl) (te (bJ (cs:=((⟨0,0,0,0⟩:ag):ag).cells.toArray) Zo rfl H) ?_)));rintro _ h27 ⟨a28,rfl,H⟩;refine te (aK (vs:=r25.cells) ZD rfl rfl ax rfl (by intro v hv;exact bt _ v hv) H) ?_;rintro _ h29 ⟨rfl,H⟩;refine qa rfl (nt ?_);refine aG (fun L' h=>∃ (x0:Option Addr) (x1:Int) (x4:Int) (x7:Addr) (x8:Addr) (x11:Sl) (x12:Int) (x13:Addr) (x14:Addr) (x63:Bool),L'=[(0,(.pointer x0)),(1,(.int .i64 x1)),(4,(.int .i64 x4)),(7,(.pointer (some x7))),(8,(.pointer (some x8))),(11,x11.enc),(12,(.int .i64 x12)),(13,(.pointer (some x13))),(14,(.pointer (some x14))),(63,(.bool x63))]∧F.xah.j4 Q (F.xah.l1 Q q1) x0 x1 x4 x7 x8 x11 x12 x13 x14 x63 h) ?_ ?_
    ·rintro L' h ⟨x0,x1,x4,x7,x8,x11,x12,x13,x14,x63,rfl,H⟩;unfold F.xah.j4 at H;refine am rfl (fun g30=>?_) (fun g30=>?_)
     ·replace H:=H.1 g30;refine ai (qm rfl ?_);obtain ⟨y31,k32,H⟩:=H;refine th (aQ ZB ZA rfl rfl) k32 ?_;obtain ⟨y33,k34,H⟩:=H;refine th (aQ ZK ZD rfl rfl) k34 (tq (bO rfl (j9 y31 y33)) (te (co (cs:=((⟨y31,y33⟩:aO).cells).toArray) rfl rfl (lX (⟨y31,y33⟩:aO)) H) ?_));rintro _ h35 ⟨s36,rfl,H⟩;refine te (dV rfl H) ?_;rintro _ h37 ⟨s38,rfl,H⟩;refine qa rfl (bo (aI (aa ?_)));exact ah [(0,(.pointer x0)),(1,(.int .i64 x1)),(4,(.int .i64 x4)),(7,(.pointer (some x7))),(8,(.pointer (some x8))),(11,s38.enc),(12,(.int .i64 x12))] ⟨rfl,rfl,rfl,rfl,rfl,rfl,rfl,tv⟩ ⟨_,_,_,_,_,_,_,rfl,H⟩
     ·replace H:=H.2 g30;refine au (aI (aa ?_));exact ah [(0,(.pointer x0)),(1,(.int .i64 x1)),(4,(.int .i64 x4)),(7,(.pointer (some x7))),(8,(.pointer (some x8))),(11,x11.enc),(12,(.int .i64 x12))] ⟨rfl,rfl,rfl,rfl,rfl,rfl,rfl,tv⟩ ⟨_,_,_,_,_,_,_,rfl,H⟩
    ·refine ai (qm rfl (qm rfl ?_));refine aT (t:=53) rfl (fun g39=>?_) (fun g39=>?_)
     ·replace H:=H.1 g39;obtain ⟨y40,k41,H⟩:=H;refine th (aQ ZB ZA rfl rfl) k41 ?_;obtain ⟨y42,k43,H⟩:=H;refine th (aQ ZB ZA rfl rfl) k43 (te (av Tryz.call118 rfl (F.xdd_ok H)) ?_);rintro _ h44 ⟨r45,rfl,H⟩;refine tq (eI rfl) (tq (aL rfl rfl) (qm rfl ?_));refine aT (t:=59) rfl (fun g46=>?_) (fun g46=>?_)
      ·replace H:=H.1 g46;obtain ⟨y47,k48,H⟩:=H;refine th (aQ ZB ZA rfl rfl) k48 ?_;obtain ⟨y49,k50,H⟩:=H;refine th (aQ ZB ZA rfl rfl) k50 (te (av Tryz.call118 rfl (F.xdd_ok H)) ?_);rintro _ h51 ⟨r52,rfl,H⟩;refine tq (aL rfl rfl) (nt ?_);exact ah [(0,(.pointer x0)),(1,(.int .i64 x1)),(4,(.int .i64 x4)),(7,(.pointer (some x7))),(8,(.pointer (some x8))),(11,x11.enc),(12,(.int .i64 x12)),(13,(.pointer (some a14))),(14,(.pointer (some a28))),(63,(.bool r52))] ⟨rfl,rfl,rfl,rfl,rfl,rfl,rfl,rfl,rfl,rfl,tv⟩ ⟨_,_,_,_,_,_,_,_,_,_,rfl,H⟩
      ·replace H:=H.2 g46;refine ts (ts (ts (tq (aH rfl rfl) (nt ?_))));exact ah [(0,(.pointer x0)),(1,(.int .i64 x1)),(4,(.int .i64 x4)),(7,(.pointer (some x7))),(8,(.pointer (some x8))),(11,x11.enc),(12,(.int .i64 x12)),(13,(.pointer (some a14))),(14,(.pointer (some a28))),(63,(.bool false))] ⟨rfl,rfl,rfl,rfl,rfl,rfl,rfl,rfl,rfl,rfl,tv⟩ ⟨_,_,_,_,_,_,_,_,_,_,rfl,H⟩
     ·replace H:=H.2 g39;refine ts (ts (ts (ts (tq (aH rfl rfl) (qm rfl (ts (ts (ts (tq (aH rfl rfl) (nt ?_))))))))));exact ah [(0,(.pointer x0)),(1,(.int .i64 x1)),(4,(.int .i64 x4)),(7,(.pointer (some x7))),(8,(.pointer (some x8))),(11,x11.enc),(12,(.int .i64 x12)),(13,(.pointer (some a14))),(14,(.pointer (some a28))),(63,(.bool false))] ⟨rfl,rfl,rfl,rfl,rfl,rfl,rfl,rfl,rfl,rfl,tv⟩ ⟨_,_,_,_,_,_,_,_,_,_,rfl,H⟩
  ·refine aG (fun L' h=>∃ (x0:Option Addr) (x1:Int) (x4:Int) (x7:Addr) (x8:Addr) (x11:Sl) (x12:Int) (x28:Bool),L'=[(0,(.pointer x0)),(1,(.int .i64 x1)),(4,(.int .i64 x4)),(7,(.pointer (some x7))),(8,(.pointer (some x8))),(11,x11.enc),(12,(.int .i64 x12)),(28,(.bool x28))]∧F.xah.j5 Q (F.xah.l1 Q q1) x0 x1 x4 x7 x8 x11 x12 x28 h) ?_ ?_
   ·rintro L' h ⟨x0,x1,x4,x7,x8,x11,x12,x28,rfl,H⟩;unfold F.xah.j5 at H;refine am rfl (fun g53=>?_) (fun g53=>?_)
    ·replace H:=H.1 g53;refine au (aa ?_);exact ah [(0,(.pointer x0)),(1,(.int .i64 x1)),(4,(.int .i64 x4)),(7,(.pointer (some x7))),(8,(.pointer (some x8))),(11,x11.enc),(12,(.int .i64 x12))] ⟨rfl,rfl,rfl,rfl,rfl,rfl,rfl,tv⟩ ⟨_,_,_,_,_,_,_,rfl,H⟩
    ·replace H:=H.2 g53;refine bC (aF (aF (bV (aa (sr (qm rfl (qa rfl (nt (al ?_)))))))));exact an rfl rfl ⟨_,rfl,H⟩
   ·refine ai (qm rfl (qm rfl ?_));obtain ⟨a54,e55,H⟩:=H;refine tq (bG rfl e55) (tq (ay (off:=1) ZX dc rfl) ?_);obtain ⟨y56,k57,H⟩:=H;refine th (aD Ze rfl) k57 (tq (bB (ts:=#[]) Zf (o:=y56.ptr) (n:=y56.len) (cap:=y56.cap) rfl) (tq (bN rfl rfl) (qm rfl ?_)));refine aT (t:=23) rfl (fun g58=>?_) (fun g58=>?_)
    ·replace H:=H.1 g58;refine qm rfl (tq (bB (ts:=#[]) ZW (o:=x11.ptr) (n:=x11.len) (cap:=x11.cap) rfl) (qm rfl (tq (bN rfl rfl) (tq (aL rfl rfl) (nt ?_)))));exact ah [(0,(.pointer x0)),(1,(.int .i64 x1)),(4,(.int .i64 x4)),(7,(.pointer (some x7))),(8,(.pointer (some x8))),(11,x11.enc),(12,(.int .i64 x12)),(28,(.bool (decide ((x11.len:Int)<x4))))] ⟨rfl,rfl,rfl,rfl,rfl,rfl,rfl,rfl,tv⟩ ⟨_,_,_,_,_,_,_,_,rfl,H⟩
    ·replace H:=H.2 g58;refine ts (ts (ts (ts (tq (aH rfl rfl) (nt ?_)))));exact ah [(0,(.pointer x0)),(1,(.int .i64 x1)),(4,(.int .i64 x4)),(7,(.pointer (some x7))),(8,(.pointer (some x8))),(11,x11.enc),(12,(.int .i64 x12)),(28,(.bool false))] ⟨rfl,rfl,rfl,rfl,rfl,rfl,rfl,rfl,tv⟩ ⟨_,_,_,_,_,_,_,_,rfl,H⟩
def F.xcd.j1 (Q:Sl->H->Prop) (x0:Option Addr) (x1:Int) (x2:Int) (x5:Int) (x9:Addr) (x10:Addr) (h:H):Prop:=
  nn x0 fun a5 =>
  ldL h (a5.add 0) fun y7 =>
  bD y7 x1 1 fun a9 =>
  ldP h a9 fun y11 =>
  ak h x9 fun y13 =>
  ak h x10 fun y15 =>
  F.xah y11 x2 y13 y15 x5 h fun r18 h17 =>
  Q r18 h17
def F.xcd.j2 (Q:Sl->H->Prop) (x0:Option Addr) (x1:Int) (x2:Int) (x5:Int) (x9:Addr) (x10:Addr) (x23:Bool) (h:H):Prop:=
  (x23=true ->
  Q (⟨none,0,0⟩:Sl) h) ∧
  (x23=false ->
  F.xcd.j1 Q x0 x1 x2 x5 x9 x10 h)
def F.xcd (p0:Option Addr) (p1:Int) (p2:Int) (p3:ae) (p4:ae) (p5:Int) (h:H) (Q:Sl->H->Prop):Prop:=
  new h p3.cells.toArray cH fun a2 h1 =>
  new h1 p4.cells.toArray cH fun a4 h3 =>
  ((decide (p1<0))=true ->
  F.xcd.j2 Q p0 p1 p2 p5 a2 a4 true h3) ∧
  ((decide (p1<0))=false ->
  nn p0 fun a21 =>
  ldL h3 (a21.add 0) fun y23 =>
  F.xcd.j2 Q p0 p1 p2 p5 a2 a4 (decide (p1>=(y23.len:Int))) h3)
theorem F.xcd_ok {p0:Option Addr}{p1:Int}{p2:Int}{p3:ae}{p4:ae}{p5:Int}{h:H}{Q:Sl->H->Prop}(H:F.xcd p0 p1 p2 p3 p4 p5 h Q):Fn PP 84 ([(.pointer p0),(.int .i64 p1),(.int .i64 p2),(.agg p3.cells.toArray),(.agg p4.cells.toArray),(.int .i64 p5)]:List Value).toArray h fun r h'=>∃ r0,r=r0.enc∧Q r0 h':=by
 unfold F.xcd at H;refine aV Tryz.func84 Tryz.ntmps84 rfl rfl fun w0=>(az [(0,(.pointer p0)),(1,(.int .i64 p1)),(2,(.int .i64 p2)),(3,(.agg p3.cells.toArray)),(4,(.agg p4.cells.toArray)),(5,(.int .i64 p5))] ⟨rfl,rfl,rfl,rfl,rfl,rfl,tv⟩ (sr (te (cb (cs:=p3.cells.toArray) rfl rfl H) ?_)));rintro _ h1 ⟨a2,rfl,H⟩;refine te (cb (cs:=p4.cells.toArray) rfl rfl H) ?_;rintro _ h3 ⟨a4,rfl,H⟩;refine qa rfl (nt ?_);refine aG (fun L' h=>∃ (x0:Option Addr) (x1:Int) (x2:Int) (x5:Int) (x9:Addr) (x10:Addr),L'=[(0,(.pointer x0)),(1,(.int .i64 x1)),(2,(.int .i64 x2)),(5,(.int .i64 x5)),(9,(.pointer (some x9))),(10,(.pointer (some x10)))]∧F.xcd.j1 Q x0 x1 x2 x5 x9 x10 h) ?_ ?_
 ·rintro L' h ⟨x0,x1,x2,x5,x9,x10,rfl,H⟩;unfold F.xcd.j1 at H;refine aj (bv mixed [0,1,3,7,0,31,63,0,0,0,0,2047,4095] (by kernel_rfl) (gq 0 1 rfl (aw rfl) ?_));obtain ⟨a5,e6,H⟩:=H;refine gq 1 3 rfl (bG rfl e6) (gq 2 7 rfl (ay (off:=0) Zg dY rfl) ?_);obtain ⟨y7,k8,H⟩:=H;refine gh 3 15 rfl (aD Zk rfl) k8 (gq 4 31 rfl (aw rfl) ?_);obtain ⟨a9,e10,H⟩:=H;refine gq 5 63 rfl (bf (s:=y7) Zm ZBD rfl rfl e10) ?_;obtain ⟨y11,k12,H⟩:=H;refine gh 6 127 rfl (aD ZBE rfl) k12 (gq 7 255 rfl (aw rfl) ?_);obtain ⟨y13,k14,H⟩:=H;refine gh 8 511 rfl (aQ ZB ZA rfl rfl) k14 ?_;obtain ⟨y15,k16,H⟩:=H;refine gh 9 1023 rfl (aQ ZB ZA rfl rfl) k16 (gq 10 2047 rfl (aw rfl) (g_e 11 4095 [] (by kernel_rfl) rfl (by kernel_rfl) (av Tryz.call117 rfl (F.xah_ok H)) rfl rfl ?_));rintro _ h17 ⟨r18,rfl,H⟩;refine ⟨trivial,?_⟩;refine gq 12 8191 rfl (bp rfl) (g_d (by kernel_rfl) (aa (al ?_)));exact an rfl rfl ⟨_,rfl,H⟩
 ·refine aG (fun L' h=>∃ (x0:Option Addr) (x1:Int) (x2:Int) (x5:Int) (x9:Addr) (x10:Addr) (x23:Bool),L'=[(0,(.pointer x0)),(1,(.int .i64 x1)),(2,(.int .i64 x2)),(5,(.int .i64 x5)),(9,(.pointer (some x9))),(10,(.pointer (some x10))),(23,(.bool x23))]∧F.xcd.j2 Q x0 x1 x2 x5 x9 x10 x23 h) ?_ ?_
  ·rintro L' h ⟨x0,x1,x2,x5,x9,x10,x23,rfl,H⟩;unfold F.xcd.j2 at H;refine am rfl (fun g19=>?_) (fun g19=>?_)
   ·replace H:=H.1 g19;refine sr (qa rfl (nt (al (aq ?_))));exact an rfl rfl ⟨_,rfl,H⟩
   ·replace H:=H.2 g19;refine au (aa ?_);exact ah [(0,(.pointer x0)),(1,(.int .i64 x1)),(2,(.int .i64 x2)),(5,(.int .i64 x5)),(9,(.pointer (some x9))),(10,(.pointer (some x10)))] ⟨rfl,rfl,rfl,rfl,rfl,rfl,tv⟩ ⟨_,_,_,_,_,_,rfl,H⟩
  ·refine ai (qm rfl (tq (bN rfl rfl) (qm rfl ?_)));refine aT (t:=15) rfl (fun g20=>?_) (fun g20=>?_)
   ·replace H:=H.1 g20;refine ts (ts (ts (ts (ts (ts (ts (tq (aL rfl rfl) (nt ?_))))))));exact ah [(0,(.pointer p0)),(1,(.int .i64 p1)),(2,(.int .i64 p2)),(5,(.int .i64 p5)),(9,(.pointer (some a2))),(10,(.pointer (some a4))),(23,(.bool true))] ⟨rfl,rfl,rfl,rfl,rfl,rfl,rfl,tv⟩ ⟨_,_,_,_,_,_,_,rfl,H⟩
   ·replace H:=H.2 g20;refine qm rfl (qm rfl ?_);obtain ⟨a21,e22,H⟩:=H;refine tq (bG rfl e22) (tq (ay (off:=0) Zg dY rfl) ?_);obtain ⟨y23,k24,H⟩:=H;refine th (aD Zk rfl) k24 (tq (bB (ts:=#[]) Zm (o:=y23.ptr) (n:=y23.len) (cap:=y23.cap) rfl) (tq (jT rfl rfl) (tq (aH rfl rfl) (nt ?_))));exact ah [(0,(.pointer p0)),(1,(.int .i64 p1)),(2,(.int .i64 p2)),(5,(.int .i64 p5)),(9,(.pointer (some a2))),(10,(.pointer (some a4))),(23,(.bool (decide (p1>=(y23.len:Int)))))] ⟨rfl,rfl,rfl,rfl,rfl,rfl,rfl,tv⟩ ⟨_,_,_,_,_,_,_,rfl,H⟩
def F.xab.j4 (Q:Sl->H->Prop) (C1:(Option Addr)->Int->Int->Addr->Addr->Sl->Int->H->Prop) (C2:(Option Addr)->Int->Int->Addr->Addr->Sl->Int->Sl->Int->H->Prop) (C3:(Option Addr)->Int->Int->Addr->Addr->Sl->Int->Sl->Int->Int->H->Prop) (x0:Option Addr) (x1:Int) (x4:Int) (x7:Addr) (x8:Addr) (x11:Sl) (x12:Int) (x13:Sl) (x14:Int) (x15:Int) (h:H):Prop:=
  C3 x0 x1 x4 x7 x8 x11 x12 x13 x14 (IntKind.wrap .i64 (x15+1)) h
def F.xab.j5 (Q:Sl->H->Prop) (C1:(Option Addr)->Int->Int->Addr->Addr->Sl->Int->H->Prop) (C2:(Option Addr)->Int->Int->Addr->Addr->Sl->Int->Sl->Int->H->Prop) (C3:(Option Addr)->Int->Int->Addr->Addr->Sl->Int->Sl->Int->Int->H->Prop) (x0:Option Addr) (x1:Int) (x4:Int) (x7:Addr) (x8:Addr) (x11:Sl) (x12:Int) (x13:Sl) (x14:Int) (x15:Int) (x60:Bool) (h:H):Prop:=
  (x60=true ->
  F.xab.j4 Q C1 C2 C3 x0 x1 x4 x7 x8 x11 x12 x13 x14 x15 h) ∧
  (x60=false ->
  ly x11 0 x15 7 fun s27 =>
  dA PP (Builtin.append_ #[51,51] 51 #[(⟨none,0,0⟩:Sl).enc,s27.enc]) h fun s29 h28 =>
  bD x13 x14 7 fun a30 =>
  ec h28 a30 fun y32 =>
  fv h28 ((y32.cells).toArray) mx 1 fun s35 h34 =>
  dA PP (Builtin.append_ #[51,51] 51 #[s29.enc,s35.enc]) h34 fun s37 h36 =>
  ly x11 x15 (x11.len:Int) 7 fun s39 =>
  dA PP (Builtin.append_ #[51,51] 51 #[s37.enc,s39.enc]) h36 fun s41 h40 =>
  C2 x0 x1 x4 x7 x8 s41 x12 x13 (IntKind.wrap .i64 (x14+1)) h40)
def F.xab.l3 (Q:Sl->H->Prop) (C1:(Option Addr)->Int->Int->Addr->Addr->Sl->Int->H->Prop) (C2:(Option Addr)->Int->Int->Addr->Addr->Sl->Int->Sl->Int->H->Prop):Nat->(Option Addr)->Int->Int->Addr->Addr->Sl->Int->Sl->Int->Int->H->Prop
  | 0,_,_,_,_,_,_,_,_,_,_,_=>False
  | q3+1,x0,x1,x4,x7,x8,x11,x12,x13,x14,x15,h =>
    ((decide (x15<(x11.len:Int)))=true ->
    bD x11 x15 7 fun a43 =>
    ak h (a43.add 0) fun y45 =>
    bD x13 x14 7 fun a47 =>
    ak h (a47.add 0) fun y49 =>
    F.xdd y45 y49 h fun r52 h51 =>
    F.xab.j5 Q C1 C2 (F.xab.l3 Q C1 C2 q3) x0 x1 x4 x7 x8 x11 x12 x13 x14 x15 r52 h51) ∧
    ((decide (x15<(x11.len:Int)))=false ->
    F.xab.j5 Q C1 C2 (F.xab.l3 Q C1 C2 q3) x0 x1 x4 x7 x8 x11 x12 x13 x14 x15 false h)
def F.xab.l2 (Q:Sl->H->Prop) (C1:(Option Addr)->Int->Int->Addr->Addr->Sl->Int->H->Prop):Nat->(Option Addr)->Int->Int->Addr->Addr->Sl->Int->Sl->Int->H->Prop
  | 0,_,_,_,_,_,_,_,_,_,_=>False
  | q2+1,x0,x1,x4,x7,x8,x11,x12,x13,x14,h =>
    ((decide (x14<(x13.len:Int)))=true ->
    ∃ m,F.xab.l3 Q C1 (F.xab.l2 Q C1 q2) m x0 x1 x4 x7 x8 x11 x12 x13 x14 0 h) ∧
    ((decide (x14<(x13.len:Int)))=false ->
    C1 x0 x1 x4 x7 x8 x11 (IntKind.wrap .i64 (x12+1)) h)
def F.xab.j7 (Q:Sl->H->Prop) (x11:Sl) (h:H):Prop:=
  Q x11 h
def F.xab.j6 (Q:Sl->H->Prop) (x4:Int) (x11:Sl) (h:H):Prop:=
  ((decide ((x11.len:Int) > x4))=true ->
  ly x11 0 x4 7 fun s57 =>
  F.xab.j7 Q s57 h) ∧
  ((decide ((x11.len:Int) > x4))=false ->
  F.xab.j7 Q x11 h)
def F.xab.l1 (Q:Sl->H->Prop):Nat->(Option Addr)->Int->Int->Addr->Addr->Sl->Int->H->Prop
  | 0,_,_,_,_,_,_,_,_=>False
  | q1+1,x0,x1,x4,x7,x8,x11,x12,h =>
    nn x0 fun a5 =>
    ldL h (a5.add 0) fun y7 =>
    ((decide (x12<(y7.len:Int)))=true ->
    nn x0 fun a10 =>
    ldL h (a10.add 0) fun y12 =>
    bD y12 x12 1 fun a14 =>
    ldP h a14 fun y16 =>
    ak h x7 fun y18 =>
    ak h x8 fun y20 =>
    F.xah y16 x1 y18 y20 x4 h fun r23 h22 =>
    ∃ m,F.xab.l2 Q (F.xab.l1 Q q1) m x0 x1 x4 x7 x8 x11 x12 r23 0 h22) ∧
    ((decide (x12<(y7.len:Int)))=false ->
    ((decide (x4<0))=true ->
    F.xab.j6 Q 0 x11 h) ∧
    ((decide (x4<0))=false ->
    F.xab.j6 Q x4 x11 h))
def F.xab (p0:Option Addr) (p1:Int) (p2:ae) (p3:ae) (p4:Int) (h:H) (Q:Sl->H->Prop):Prop:=
  new h p2.cells.toArray cH fun a2 h1 =>
  new h1 p3.cells.toArray cH fun a4 h3 =>
  ∃ m,F.xab.l1 Q m p0 p1 p4 a2 a4 (⟨none,0,0⟩:Sl) 0 h3
theorem F.xab_ok {p0:Option Addr}{p1:Int}{p2:ae}{p3:ae}{p4:Int}{h:H}{Q:Sl->H->Prop}(H:F.xab p0 p1 p2 p3 p4 h Q):Fn PP 85 ([(.pointer p0),(.int .i64 p1),(.agg p2.cells.toArray),(.agg p3.cells.toArray),(.int .i64 p4)]:List Value).toArray h fun r h'=>∃ r0,r=r0.enc∧Q r0 h':=by
 unfold F.xab at H;refine aV Tryz.func85 Tryz.ntmps85 rfl rfl fun w0=>(az [(0,(.pointer p0)),(1,(.int .i64 p1)),(2,(.agg p2.cells.toArray)),(3,(.agg p3.cells.toArray)),(4,(.int .i64 p4))] ⟨rfl,rfl,rfl,rfl,rfl,tv⟩ (sr (te (cb (cs:=p2.cells.toArray) rfl rfl H) ?_)));rintro _ h1 ⟨a2,rfl,H⟩;refine te (cb (cs:=p3.cells.toArray) rfl rfl H) ?_;rintro _ h3 ⟨a4,rfl,H⟩;refine qa rfl (nt (sr (qa rfl (nt (aj (sr (qa rfl (nt ?_))))))));refine aB ?_;obtain ⟨m59,H⟩:=H;refine az [(0,(.pointer p0)),(1,(.int .i64 p1)),(4,(.int .i64 p4)),(7,(.pointer (some a2))),(8,(.pointer (some a4))),(11,(⟨none,0,0⟩:Sl).enc),(12,(.int .i64 0))] ⟨rfl,rfl,rfl,rfl,rfl,rfl,rfl,tv⟩ ?_;refine aY (fun m L' h=>∃ (x0:Option Addr) (x1:Int) (x4:Int) (x7:Addr) (x8:Addr) (x11:Sl) (x12:Int),L'=[(0,(.pointer x0)),(1,(.int .i64 x1)),(4,(.int .i64 x4)),(7,(.pointer (some x7))),(8,(.pointer (some x8))),(11,x11.enc),(12,(.int .i64 x12))]∧F.xab.l1 Q m x0 x1 x4 x7 x8 x11 x12 h) ?_ ?_ m59 ⟨_,_,_,_,_,_,_,rfl,H⟩
 ·rintro L' h ⟨_,_,_,_,_,_,_,_,H⟩;exact H
 ·rintro q1 L' h ⟨x0,x1,x4,x7,x8,x11,x12,rfl,H⟩;unfold F.xab.l1 at H;refine aj (sr (qm rfl (qm rfl ?_)));obtain ⟨a5,e6,H⟩:=H;refine tq (bG rfl e6) (tq (ay (off:=0) Zg dY rfl) ?_);obtain ⟨y7,k8,H⟩:=H;refine th (aD Zk rfl) k8 (tq (bB (ts:=#[]) Zm (o:=y7.ptr) (n:=y7.len) (cap:=y7.cap) rfl) (tq (bN rfl rfl) (nt ?_)));refine am rfl (fun g9=>?_) (fun g9=>?_)
  ·replace H:=H.1 g9;refine au (aa (aj (aB (aj (bv mixed [0,1,3,7,0,31,63,0,0,0,0,2047,4095] (by kernel_rfl) (gq 0 1 rfl (aw rfl) ?_))))));obtain ⟨a10,e11,H⟩:=H;refine gq 1 3 rfl (bG rfl e11) (gq 2 7 rfl (ay (off:=0) Zg dY rfl) ?_);obtain ⟨y12,k13,H⟩:=H;refine gh 3 15 rfl (aD Zk rfl) k13 (gq 4 31 rfl (aw rfl) ?_);obtain ⟨a14,e15,H⟩:=H;refine gq 5 63 rfl (bf (s:=y12) Zm ZBD rfl rfl e15) ?_;obtain ⟨y16,k17,H⟩:=H;refine gh 6 127 rfl (aD ZBE rfl) k17 (gq 7 255 rfl (aw rfl) ?_);obtain ⟨y18,k19,H⟩:=H;refine gh 8 511 rfl (aQ ZB ZA rfl rfl) k19 ?_;obtain ⟨y20,k21,H⟩:=H;refine gh 9 1023 rfl (aQ ZB ZA rfl rfl) k21 (gq 10 2047 rfl (aw rfl) (g_e 11 4095 [] (by kernel_rfl) rfl (by kernel_rfl) (av Tryz.call117 rfl (F.xah_ok H)) rfl rfl ?_));rintro _ h22 ⟨r23,rfl,H⟩;refine ⟨trivial,?_⟩;refine gq 12 8191 rfl (bp rfl) (g_d (by kernel_rfl) (aa (sr (qa rfl (nt (aB ?_))))));obtain ⟨m54,H⟩:=H;refine az [(0,(.pointer x0)),(1,(.int .i64 x1)),(4,(.int .i64 x4)),(7,(.pointer (some x7))),(8,(.pointer (some x8))),(11,x11.enc),(12,(.int .i64 x12)),(13,r23.enc),(14,(.int .i64 0))] ⟨rfl,rfl,rfl,rfl,rfl,rfl,rfl,rfl,rfl,tv⟩ ?_;refine aY (fun m L' h=>∃ (x0:Option Addr) (x1:Int) (x4:Int) (x7:Addr) (x8:Addr) (x11:Sl) (x12:Int) (x13:Sl) (x14:Int),L'=[(0,(.pointer x0)),(1,(.int .i64 x1)),(4,(.int .i64 x4)),(7,(.pointer (some x7))),(8,(.pointer (some x8))),(11,x11.enc),(12,(.int .i64 x12)),(13,x13.enc),(14,(.int .i64 x14))]∧F.xab.l2 Q (F.xab.l1 Q q1) m x0 x1 x4 x7 x8 x11 x12 x13 x14 h) ?_ ?_ m54 ⟨_,_,_,_,_,_,_,_,_,rfl,H⟩
   ·rintro L' h ⟨_,_,_,_,_,_,_,_,_,_,H⟩;exact H
   ·rintro q2 L' h ⟨x0,x1,x4,x7,x8,x11,x12,x13,x14,rfl,H⟩;unfold F.xab.l2 at H;refine aj (sr (qm rfl (qm rfl (tq (bB (ts:=#[]) ZW (o:=x13.ptr) (n:=x13.len) (cap:=x13.cap) rfl) (tq (bN rfl rfl) (nt ?_))))));refine am rfl (fun g24=>?_) (fun g24=>?_)
    ·replace H:=H.1 g24;refine au (aa (aj (aB (sr (qa rfl (nt (aj (aB ?_))))))));obtain ⟨m53,H⟩:=H;refine az [(0,(.pointer x0)),(1,(.int .i64 x1)),(4,(.int .i64 x4)),(7,(.pointer (some x7))),(8,(.pointer (some x8))),(11,x11.enc),(12,(.int .i64 x12)),(13,x13.enc),(14,(.int .i64 x14)),(15,(.int .i64 0))] ⟨rfl,rfl,rfl,rfl,rfl,rfl,rfl,rfl,rfl,rfl,tv⟩ ?_;refine aY (fun m L' h=>∃ (x0:Option Addr) (x1:Int) (x4:Int) (x7:Addr) (x8:Addr) (x11:Sl) (x12:Int) (x13:Sl) (x14:Int) (x15:Int),L'=[(0,(.pointer x0)),(1,(.int .i64 x1)),(4,(.int .i64 x4)),(7,(.pointer (some x7))),(8,(.pointer (some x8))),(11,x11.enc),(12,(.int .i64 x12)),(13,x13.enc),(14,(.int .i64 x14)),(15,(.int .i64 x15))]∧F.xab.l3 Q (F.xab.l1 Q q1) (F.xab.l2 Q (F.xab.l1 Q q1) q2) m x0 x1 x4 x7 x8 x11 x12 x13 x14 x15 h) ?_ ?_ m53 ⟨_,_,_,_,_,_,_,_,_,_,rfl,H⟩
     ·rintro L' h ⟨_,_,_,_,_,_,_,_,_,_,_,H⟩;exact H
     ·rintro q3 L' h ⟨x0,x1,x4,x7,x8,x11,x12,x13,x14,x15,rfl,H⟩;unfold F.xab.l3 at H;refine aG (fun L' h=>∃ (x0:Option Addr) (x1:Int) (x4:Int) (x7:Addr) (x8:Addr) (x11:Sl) (x12:Int) (x13:Sl) (x14:Int) (x15:Int),L'=[(0,(.pointer x0)),(1,(.int .i64 x1)),(4,(.int .i64 x4)),(7,(.pointer (some x7))),(8,(.pointer (some x8))),(11,x11.enc),(12,(.int .i64 x12)),(13,x13.enc),(14,(.int .i64 x14)),(15,(.int .i64 x15))]∧F.xab.j4 Q (F.xab.l1 Q q1) (F.xab.l2 Q (F.xab.l1 Q q1) q2) (F.xab.l3 Q (F.xab.l1 Q q1) (F.xab.l2 Q (F.xab.l1 Q q1) q2) q3) x0 x1 x4 x7 x8 x11 x12 x13 x14 x15 h) ?_ ?_
      ·rintro L' h ⟨x0,x1,x4,x7,x8,x11,x12,x13,x14,x15,rfl,H⟩;unfold F.xab.j4 at H;refine aB (ai (qm rfl (tq (bE rfl rfl) (qa rfl (bo (aI (aa ?_)))))));exact ah [(0,(.pointer x0)),(1,(.int .i64 x1)),(4,(.int .i64 x4)),(7,(.pointer (some x7))),(8,(.pointer (some x8))),(11,x11.enc),(12,(.int .i64 x12)),(13,x13.enc),(14,(.int .i64 x14)),(15,(.int .i64 (IntKind.wrap .i64 (x15+1))))] ⟨rfl,rfl,rfl,rfl,rfl,rfl,rfl,rfl,rfl,rfl,tv⟩ ⟨_,_,_,_,_,_,_,_,_,_,rfl,H⟩
      ·refine aG (fun L' h=>∃ (x0:Option Addr) (x1:Int) (x4:Int) (x7:Addr) (x8:Addr) (x11:Sl) (x12:Int) (x13:Sl) (x14:Int) (x15:Int) (x60:Bool),L'=[(0,(.pointer x0)),(1,(.int .i64 x1)),(4,(.int .i64 x4)),(7,(.pointer (some x7))),(8,(.pointer (some x8))),(11,x11.enc),(12,(.int .i64 x12)),(13,x13.enc),(14,(.int .i64 x14)),(15,(.int .i64 x15)),(60,(.bool x60))]∧F.xab.j5 Q (F.xab.l1 Q q1) (F.xab.l2 Q (F.xab.l1 Q q1) q2) (F.xab.l3 Q (F.xab.l1 Q q1) (F.xab.l2 Q (F.xab.l1 Q q1) q2) q3) x0 x1 x4 x7 x8 x11 x12 x13 x14 x15 x60 h) ?_ ?_
       ·rintro L' h ⟨x0,x1,x4,x7,x8,x11,x12,x13,x14,x15,x60,rfl,H⟩;unfold F.xab.j5 at H;refine am rfl (fun g25=>?_) (fun g25=>?_)
        ·replace H:=H.1 g25;refine au (aa ?_);exact ah [(0,(.pointer x0)),(1,(.int .i64 x1)),(4,(.int .i64 x4)),(7,(.pointer (some x7))),(8,(.pointer (some x8))),(11,x11.enc),(12,(.int .i64 x12)),(13,x13.enc),(14,(.int .i64 x14)),(15,(.int .i64 x15))] ⟨rfl,rfl,rfl,rfl,rfl,rfl,rfl,rfl,rfl,rfl,tv⟩ ⟨_,_,_,_,_,_,_,_,_,_,rfl,H⟩
        ·replace H:=H.2 g25;refine bC (aF (aF (bV (aa (sr (qa rfl (nt (sr (qm rfl (qm rfl ?_))))))))));refine qm rfl ?_;obtain ⟨s27,e26,H⟩:=H;refine tq (gU (s:=x11) none (some (.i64,x15)) ZW ZZ rfl rfl rfl e26) (te (dV rfl H) ?_);rintro _ h28 ⟨s29,rfl,H⟩;refine qa rfl (nt (sr (qm rfl (qm rfl (qm rfl ?_)))));obtain ⟨a30,e31,H⟩:=H;refine tq (bf (s:=x13) ZW ZZ rfl rfl e31) ?_;obtain ⟨y32,k33,H⟩:=H;refine th (aQ ZBJ ZZ rfl rfl) k33 (te (co (cs:=(y32.cells).toArray) rfl rfl (lX y32) H) ?_);rintro _ h34 ⟨s35,rfl,H⟩;refine te (dV rfl H) ?_;rintro _ h36 ⟨s37,rfl,H⟩;refine qa rfl (nt (ai (qm rfl (qm rfl (qm rfl ?_)))));obtain ⟨s39,e38,H⟩:=H;refine tq (gU (s:=x11) (some (.i64,x15)) none ZW ZZ rfl rfl rfl e38) (te (dV rfl H) ?_);rintro _ h40 ⟨s41,rfl,H⟩;refine qa rfl (bo (aI (aa (ai (qm rfl (tq (bE rfl rfl) (qa rfl (nt ?_))))))));exact ah [(0,(.pointer x0)),(1,(.int .i64 x1)),(4,(.int .i64 x4)),(7,(.pointer (some x7))),(8,(.pointer (some x8))),(11,s41.enc),(12,(.int .i64 x12)),(13,x13.enc),(14,(.int .i64 (IntKind.wrap .i64 (x14+1))))] ⟨rfl,rfl,rfl,rfl,rfl,rfl,rfl,rfl,rfl,tv⟩ ⟨_,_,_,_,_,_,_,_,_,rfl,H⟩
       ·refine bv mixed [0,0,2,7,15,31,31,127,255,511,31,31,3103,7199,15391,32767,65535] (by kernel_rfl) (gq 0 1 rfl (aw rfl) (gq 1 3 rfl (aw rfl) (gq 2 7 rfl (bB (ts:=#[]) ZW (o:=x11.ptr) (n:=x11.len) (cap:=x11.cap) rfl) (gq 3 15 rfl (bN rfl rfl) (gq 4 31 rfl (aw rfl) ?_)))));refine eO (t:=48) rfl (fun g42=>?_) (fun g42=>?_)
        ·replace H:=H.1 g42;refine gq 5 63 rfl (aw rfl) (gq 6 127 rfl (aw rfl) ?_);obtain ⟨a43,e44,H⟩:=H;refine gq 7 255 rfl (bf (s:=x11) ZW ZZ rfl rfl e44) (gq 8 511 rfl (ay (off:=0) Zq gZ rfl) ?_);obtain ⟨y45,k46,H⟩:=H;refine gh 9 1023 rfl (aQ ZB ZA rfl rfl) k46 (gq 10 2047 rfl (aw rfl) (gq 11 4095 rfl (aw rfl) ?_));obtain ⟨a47,e48,H⟩:=H;refine gq 12 8191 rfl (bf (s:=x13) ZW ZZ rfl rfl e48) (gq 13 16383 rfl (ay (off:=0) Zq gZ rfl) ?_);obtain ⟨y49,k50,H⟩:=H;refine gh 14 32767 rfl (aQ ZB ZA rfl rfl) k50 (g_e 15 65535 [] (by kernel_rfl) rfl (by kernel_rfl) (av Tryz.call118 rfl (F.xdd_ok H)) rfl rfl ?_);rintro _ h51 ⟨r52,rfl,H⟩;refine ⟨trivial,?_⟩;refine gq 16 131071 rfl (aL rfl rfl) (g_d (by kernel_rfl) (aa ?_));exact ah [(0,(.pointer x0)),(1,(.int .i64 x1)),(4,(.int .i64 x4)),(7,(.pointer (some x7))),(8,(.pointer (some x8))),(11,x11.enc),(12,(.int .i64 x12)),(13,x13.enc),(14,(.int .i64 x14)),(15,(.int .i64 x15)),(60,(.bool r52))] ⟨rfl,rfl,rfl,rfl,rfl,rfl,rfl,rfl,rfl,rfl,rfl,tv⟩ ⟨_,_,_,_,_,_,_,_,_,_,_,rfl,H⟩
        ·replace H:=H.2 g42;refine gs 5 63 rfl (gs 6 127 rfl (gs 7 255 rfl (gs 8 511 rfl (gs 9 1023 rfl (gs 10 2047 rfl (gs 11 4095 rfl (gs 12 8191 rfl (gs 13 16383 rfl (gs 14 32767 rfl (gs 15 65535 rfl (gq 16 131071 rfl (aH rfl rfl) (g_d (by kernel_rfl) (aa ?_)))))))))))));exact ah [(0,(.pointer x0)),(1,(.int .i64 x1)),(4,(.int .i64 x4)),(7,(.pointer (some x7))),(8,(.pointer (some x8))),(11,x11.enc),(12,(.int .i64 x12)),(13,x13.enc),(14,(.int .i64 x14)),(15,(.int .i64 x15)),(60,(.bool false))] ⟨rfl,rfl,rfl,rfl,rfl,rfl,rfl,rfl,rfl,rfl,rfl,tv⟩ ⟨_,_,_,_,_,_,_,_,_,_,_,rfl,H⟩
    ·replace H:=H.2 g24;refine bC (aF (aF (bV (aI (aa (ai (qm rfl (tq (bE rfl rfl) (qa rfl (nt ?_))))))))));exact ah [(0,(.pointer x0)),(1,(.int .i64 x1)),(4,(.int .i64 x4)),(7,(.pointer (some x7))),(8,(.pointer (some x8))),(11,x11.enc),(12,(.int .i64 (IntKind.wrap .i64 (x12+1))))] ⟨rfl,rfl,rfl,rfl,rfl,rfl,rfl,tv⟩ ⟨_,_,_,_,_,_,_,rfl,H⟩
  ·replace H:=H.2 g9;refine bC (aF (aF (bV (aa ?_))));refine aG (fun L' h=>∃ (x4:Int) (x11:Sl),L'=[(4,(.int .i64 x4)),(11,x11.enc)]∧F.xab.j6 Q x4 x11 h) ?_ ?_
   ·rintro L' h ⟨x4,x11,rfl,H⟩;unfold F.xab.j6 at H;refine aG (fun L' h=>∃ (x11:Sl),L'=[(11,x11.enc)]∧F.xab.j7 Q x11 h) ?_ ?_
    ·rintro L' h ⟨x11,rfl,H⟩;unfold F.xab.j7 at H;refine sr (qm rfl (qa rfl (nt (al ?_))));exact an rfl rfl ⟨_,rfl,H⟩
    ·refine sr (qm rfl (tq (bB (ts:=#[]) ZW (o:=x11.ptr) (n:=x11.len) (cap:=x11.cap) rfl) (qm rfl (tq (df rfl rfl) (nt ?_)))));refine am rfl (fun g55=>?_) (fun g55=>?_)
     ·replace H:=H.1 g55;refine ai (qm rfl (qm rfl ?_));obtain ⟨s57,e56,H⟩:=H;refine tq (gU (s:=x11) none (some (.i64,x4)) ZW ZZ rfl rfl rfl e56) (qa rfl (nt ?_));exact ah [(11,s57.enc)] ⟨rfl,tv⟩ ⟨_,rfl,H⟩
     ·replace H:=H.2 g55;refine au (aa ?_);exact ah [(11,x11.enc)] ⟨rfl,tv⟩ ⟨_,rfl,H⟩
   ·refine sr (qm rfl (tq (bN rfl rfl) (nt ?_)));refine am rfl (fun g58=>?_) (fun g58=>?_)
    ·replace H:=H.1 g58;refine ai (qa rfl (nt ?_));exact ah [(4,(.int .i64 0)),(11,x11.enc)] ⟨rfl,rfl,tv⟩ ⟨_,_,rfl,H⟩
    ·replace H:=H.2 g58;refine au (aa ?_);exact ah [(4,(.int .i64 x4)),(11,x11.enc)] ⟨rfl,rfl,tv⟩ ⟨_,_,rfl,H⟩
def F.xbu.j1 (Q:Bool->H->Prop) (x0:Option Addr) (x1:Option Addr) (x5:Addr) (h:H):Prop:=
  ldL h ((x5.add 0).add 9) fun y98 =>
  F.xen y98 h fun r101 h100 =>
  ldI .i64 h100 ((x5.add 0).add 1) fun y102 =>
  ldI .i64 h100 ((x5.add 0).add 1) fun y104 =>
  ldL h100 ((x5.add 0).add 9) fun y106 =>
  F.xbs x0 y102 r101 h100 fun r109 h108 =>
  aA h108 ((x5.add 0).add 9)=some y106.enc ∧
  aA h108 ((x5.add 0).add 1)=some (.int .i64 y104) ∧
  F.xap x1 y104 y106 h108 fun r113 h112 =>
  ((r109 == r113)=true ->
  ldL h112 ((x5.add 0).add 9) fun y115 =>
  F.xav r101 y115 h112 fun r118 h117 =>
  Q r118 h117) ∧
  ((r109 == r113)=false ->
  Q false h112)
def F.xbu.j2 (Q:Bool->H->Prop) (x0:Option Addr) (x1:Option Addr) (x5:Addr) (x140:Bool) (h:H):Prop:=
  (x140=true ->
  Q true h) ∧
  (x140=false ->
  F.xbu.j1 Q x0 x1 x5 h)
def F.xbu (p0:Option Addr) (p1:Option Addr) (p2:cO) (h:H) (Q:Bool->H->Prop):Prop:=
  new h p2.cells.toArray Cq fun a2 h1 =>
  ldI .i64 h1 ((a2.add 0).add 0) fun y3 =>
  (((y3 == 1))=true ->
  ak h1 ((a2.add 0).add 2) fun y6 =>
  bh h1 ((a2.add 0).add 5) fun y8 =>
  new h1 (((⟨(⟨0,(⟨#[]⟩:ByteArray),0⟩:ae),(⟨0,0,0,0⟩:ag)⟩:aO):aO).cells.toArray) mx fun a11 h10 =>
  stH h10 a11 ((⟨y6,y8⟩:aO).cells) fun h12 =>
  ldI .i64 h12 ((a2.add 0).add 1) fun y13 =>
  ec h12 a11 fun y15 =>
  ldI .i64 h12 ((a2.add 0).add 1) fun y17 =>
  ec h12 a11 fun y19 =>
  F.xdh p0 y13 y15 h12 fun r22 h21 =>
  Cells h21 a11 y19.cells ∧
  aA h21 ((a2.add 0).add 1)=some (.int .i64 y17) ∧
  F.xel p1 y17 y19 h21 fun r26 h25 =>
  Q ((r22 == r26)) h25) ∧
  (((y3 == 1))=false ->
  (((y3 == 2))=true ->
  ldI .i64 h1 ((a2.add 0).add 1) fun y28 =>
  ak h1 ((a2.add 0).add 2) fun y30 =>
  ldI .i64 h1 ((a2.add 0).add 1) fun y32 =>
  ak h1 ((a2.add 0).add 2) fun y34 =>
  F.xej p0 y28 y30 h1 fun r37 h36 =>
  Cells h36 ((a2.add 0).add 2) y34.cells ∧
  aA h36 ((a2.add 0).add 1)=some (.int .i64 y32) ∧
  F.xem p1 y32 y34 h36 fun r41 h40 =>
  Q ((r37 == r41)) h40) ∧
  (((y3 == 2))=false ->
  (((y3 == 3))=true ->
  ldL h1 ((a2.add 0).add 10) fun y43 =>
  F.xep y43 h1 fun r46 h45 =>
  ldI .i64 h45 (a2.add 15) fun y47 =>
  F.xef p0 y47 r46 h45 fun r50 h49 =>
  ldI .i64 h49 (a2.add 15) fun y51 =>
  ldL h49 ((a2.add 0).add 10) fun y53 =>
  F.xcb p1 y51 y53 h49 fun r56 h55 =>
  (((r50 == r56))=true ->
  ldL h55 ((a2.add 0).add 10) fun y58 =>
  F.xba r46 y58 h55 fun r61 h60 =>
  Q r61 h60) ∧
  (((r50 == r56))=false ->
  Q false h55)) ∧
  (((y3 == 3))=false ->
  (((y3 == 4))=true ->
  ak h1 ((a2.add 0).add 2) fun y63 =>
  ak h1 ((a2.add 0).add 2) fun y65 =>
  F.xeg p0 y63 h1 fun r68 h67 =>
  Cells h67 ((a2.add 0).add 2) y65.cells ∧
  F.xdt p1 y65 0 h67 fun r71 h70 =>
  (((r68.Count == r71.Count) && ((r68.Sum == r71.Sum) && ((r68.Min == r71.Min) && ((r68.Max == r71.Max) && true))))=true ->
  ak h70 ((a2.add 0).add 2) fun y73 =>
  ldI .i64 h70 ((a2.add 0).add 1) fun y75 =>
  ak h70 ((a2.add 0).add 2) fun y77 =>
  ldI .i64 h70 ((a2.add 0).add 1) fun y79 =>
  F.xeh p0 y73 y75 h70 fun r82 h81 =>
  aA h81 ((a2.add 0).add 1)=some (.int .i64 y79) ∧
  Cells h81 ((a2.add 0).add 2) y77.cells ∧
  F.xdt p1 y77 y79 h81 fun r86 h85 =>
  (((r82.Count == r86.Count) && ((r82.Sum == r86.Sum) && ((r82.Min == r86.Min) && ((r82.Max == r86.Max) && true))))=true ->
  ldS h85 (((a2.add 0).add 2).add 1) fun y88 =>
  ldS h85 (((a2.add 0).add 2).add 1) fun y90 =>
  F.xco p0 y88 h85 fun r93 h92 =>
  aA h92 (((a2.add 0).add 2).add 1)=some (.string y90) ∧
  F.xdp p1 y90 h92 fun r96 h95 =>
  Q ((r93 == r96)) h95) ∧
  (((r82.Count == r86.Count) && ((r82.Sum == r86.Sum) && ((r82.Min == r86.Min) && ((r82.Max == r86.Max) && true))))=false ->
  Q false h85)) ∧
  (((r68.Count == r71.Count) && ((r68.Sum == r71.Sum) && ((r68.Min == r71.Min) && ((r68.Max == r71.Max) && true))))=false ->
  Q false h70)) ∧
  (((y3 == 4))=false ->
  (((y3 == 5))=true ->
  ldI .i64 h1 ((a2.add 0).add 1) fun y120 =>
  ((decide (y120<1))=true ->
  F.xbu.j2 Q p0 p1 a2 true h1) ∧
  ((decide (y120<1))=false ->
  ldI .i64 h1 ((a2.add 0).add 1) fun y123 =>
  F.xbu.j2 Q p0 p1 a2 (decide (y123 > 1099511627776)) h1)) ∧
  (((y3 == 5))=false ->
  (((y3 == 6))=true ->
  ldI .i64 h1 (a2.add 15) fun y126 =>
  ldI .i64 h1 ((a2.add 0).add 1) fun y128 =>
  ak h1 ((a2.add 0).add 2) fun y130 =>
  ak h1 ((a2.add 0).add 11) fun y132 =>
  ldI .i64 h1 ((a2.add 0).add 14) fun y134 =>
  ldI .i64 h1 (a2.add 15) fun y136 =>
  ldI .i64 h1 ((a2.add 0).add 1) fun y138 =>
  ak h1 ((a2.add 0).add 2) fun y140 =>
  ak h1 ((a2.add 0).add 11) fun y142 =>
  ldI .i64 h1 ((a2.add 0).add 14) fun y144 =>
  F.xei p0 y126 y128 y130 y132 y134 h1 fun r147 h146 =>
  aA h146 ((a2.add 0).add 14)=some (.int .i64 y144) ∧
  Cells h146 ((a2.add 0).add 11) y142.cells ∧
  Cells h146 ((a2.add 0).add 2) y140.cells ∧
  aA h146 ((a2.add 0).add 1)=some (.int .i64 y138) ∧
  aA h146 (a2.add 15)=some (.int .i64 y136) ∧
  F.xcd p1 y136 y138 y140 y142 y144 h146 fun r154 h153 =>
  F.xcn r147 r154 h153 fun r156 h155 =>
  (r156=true ->
  ldI .i64 h155 ((a2.add 0).add 1) fun y158 =>
  ak h155 ((a2.add 0).add 2) fun y160 =>
  ak h155 ((a2.add 0).add 11) fun y162 =>
  ldI .i64 h155 ((a2.add 0).add 14) fun y164 =>
  ldI .i64 h155 ((a2.add 0).add 1) fun y166 =>
  ak h155 ((a2.add 0).add 2) fun y168 =>
  ak h155 ((a2.add 0).add 11) fun y170 =>
  ldI .i64 h155 ((a2.add 0).add 14) fun y172 =>
  F.xcl p0 y158 y160 y162 y164 h155 fun r175 h174 =>
  aA h174 ((a2.add 0).add 14)=some (.int .i64 y172) ∧
  Cells h174 ((a2.add 0).add 11) y170.cells ∧
  Cells h174 ((a2.add 0).add 2) y168.cells ∧
  aA h174 ((a2.add 0).add 1)=some (.int .i64 y166) ∧
  F.xab p1 y166 y168 y170 y172 h174 fun r181 h180 =>
  F.xcn r175 r181 h180 fun r183 h182 =>
  Q r183 h182) ∧
  (r156=false ->
  Q false h155)) ∧
  (((y3 == 6))=false ->
  Q true h1))))))
theorem F.xbu_ok {p0:Option Addr}{p1:Option Addr}{p2:cO}{h:H}{Q:Bool->H->Prop}(H:F.xbu p0 p1 p2 h Q):Fn PP 41 ([(.pointer p0),(.pointer p1),(.agg p2.cells.toArray)]:List Value).toArray h fun r h'=>∃ r0,r=(.bool r0)∧Q r0 h':=by
 unfold F.xbu at H;refine aV Tryz.func41 Tryz.ntmps41 rfl rfl fun w0=>(az [(0,(.pointer p0)),(1,(.pointer p1)),(2,(.agg p2.cells.toArray))] ⟨rfl,rfl,rfl,tv⟩ (sr (te (cb (cs:=p2.cells.toArray) rfl rfl H) ?_)));rintro _ h1 ⟨a2,rfl,H⟩;refine qa rfl (nt (aj (sr (tq (ay (off:=0) ZG bX rfl) (tq (ay (off:=0) ZI Bq rfl) ?_)))));obtain ⟨y3,k4,H⟩:=H;refine th (aD ZC rfl) k4 (nt (aB (sr (tq (ct rfl rfl) (qa rfl (nt ?_))))));refine am rfl (fun g5=>?_) (fun g5=>?_)
 ·replace H:=H.1 g5;refine sr (tq (ay (off:=0) ZG bX rfl) (tq (ay (off:=2) ZI fT rfl) ?_));obtain ⟨y6,k7,H⟩:=H;refine th (aQ ZB ZA rfl rfl) k7 (tq (ay (off:=0) ZG bX rfl) (tq (ay (off:=5) ZI Br rfl) ?_));obtain ⟨y8,k9,H⟩:=H;refine th (aQ ZK ZD rfl rfl) k9 (tq (bO rfl (j9 y6 y8)) (te (bJ (cs:=((⟨(⟨0,(⟨#[]⟩:ByteArray),0⟩:ae),(⟨0,0,0,0⟩:ag)⟩:aO):aO).cells.toArray) Tryz.zeroValue49 rfl H) ?_));rintro _ h10 ⟨a11,rfl,H⟩;refine te (aK (vs:=(⟨y6,y8⟩:aO).cells) ZZ rfl rfl ax rfl (by intro v hv;exact ei _ v hv) H) ?_;rintro _ h12 ⟨rfl,H⟩;refine nt (aj (bv mixed [0,0,2,6,0,31,0,0,128,384,0,2047,4095,8191] (by kernel_rfl) (gq 0 1 rfl (aw rfl) (gq 1 3 rfl (ay (off:=0) ZG bX rfl) (gq 2 7 rfl (ay (off:=1) ZI fC rfl) ?_)))));obtain ⟨y13,k14,H⟩:=H;refine gh 3 15 rfl (aD ZC rfl) k14 ?_;obtain ⟨y15,k16,H⟩:=H;refine gh 4 31 rfl (aQ ZBJ ZZ rfl rfl) k16 (gq 6 95 rfl (aw rfl) (gq 7 223 rfl (ay (off:=0) ZG bX rfl) (gq 8 479 rfl (ay (off:=1) ZI fC rfl) ?_)));obtain ⟨y17,k18,H⟩:=H;refine gh 9 991 rfl (aD ZC rfl) k18 ?_;obtain ⟨y19,k20,H⟩:=H;refine gh 10 2015 rfl (aQ ZBJ ZZ rfl rfl) k20 (g_e 5 2047 [(10,fun h=>Cells h a11 y19.cells),(9,fun h=>aA h ((a2.add 0).add 1)=some (.int .i64 y17))] (by kernel_rfl) rfl (by kernel_rfl) (av Tryz.call14 rfl (F.xdh_ok H)) rfl rfl ?_);rintro _ h21 ⟨r22,rfl,H⟩;obtain ⟨k23,k24,H⟩:=H;refine ⟨And.intro k23 (And.intro k24 trivial),?_⟩;refine g_e 11 4095 [] (by kernel_rfl) rfl (by kernel_rfl) (av Tryz.call74 rfl (F.xel_ok H)) rfl rfl ?_;rintro _ h25 ⟨r26,rfl,H⟩;refine ⟨trivial,?_⟩;refine gq 12 8191 rfl (ct rfl rfl) (gq 13 16383 rfl (bp rfl) (g_d (by kernel_rfl) (aa (al (aS (aq ?_))))));exact an rfl rfl ⟨_,rfl,H⟩
 ·replace H:=H.2 g5;refine sr (tq (ct rfl rfl) (qa rfl (nt ?_)));refine am rfl (fun g27=>?_) (fun g27=>?_)
  ·replace H:=H.1 g27;refine aj (bv mixed [0,0,2,6,0,16,48,127,0,0,512,1536,0,4096,12288,32767,65535,131071] (by kernel_rfl) (gq 0 1 rfl (aw rfl) (gq 1 3 rfl (ay (off:=0) ZG bX rfl) (gq 2 7 rfl (ay (off:=1) ZI fC rfl) ?_))));obtain ⟨y28,k29,H⟩:=H;refine gh 3 15 rfl (aD ZC rfl) k29 (gq 4 31 rfl (ay (off:=0) ZG bX rfl) (gq 5 63 rfl (ay (off:=2) ZI fT rfl) ?_));obtain ⟨y30,k31,H⟩:=H;refine gh 6 127 rfl (aQ ZB ZA rfl rfl) k31 (gq 8 383 rfl (aw rfl) (gq 9 895 rfl (ay (off:=0) ZG bX rfl) (gq 10 1919 rfl (ay (off:=1) ZI fC rfl) ?_)));obtain ⟨y32,k33,H⟩:=H;refine gh 11 3967 rfl (aD ZC rfl) k33 (gq 12 8063 rfl (ay (off:=0) ZG bX rfl) (gq 13 16255 rfl (ay (off:=2) ZI fT rfl) ?_));obtain ⟨y34,k35,H⟩:=H;refine gh 14 32639 rfl (aQ ZB ZA rfl rfl) k35 (g_e 7 32767 [(14,fun h=>Cells h ((a2.add 0).add 2) y34.cells),(11,fun h=>aA h ((a2.add 0).add 1)=some (.int .i64 y32))] (by kernel_rfl) rfl (by kernel_rfl) (av Tryz.call25 rfl (F.xej_ok H)) rfl rfl ?_);rintro _ h36 ⟨r37,rfl,H⟩;obtain ⟨k38,k39,H⟩:=H;refine ⟨And.intro k38 (And.intro k39 trivial),?_⟩;refine g_e 15 65535 [] (by kernel_rfl) rfl (by kernel_rfl) (av Tryz.call75 rfl (F.xem_ok H)) rfl rfl ?_;rintro _ h40 ⟨r41,rfl,H⟩;refine ⟨trivial,?_⟩;refine gq 16 131071 rfl (ct rfl rfl) (gq 17 262143 rfl (bp rfl) (g_d (by kernel_rfl) (aa (al (aS (aq ?_))))));exact an rfl rfl ⟨_,rfl,H⟩
  ·replace H:=H.2 g27;refine sr (tq (ct rfl rfl) (qa rfl (nt ?_)));refine am rfl (fun g42=>?_) (fun g42=>?_)
   ·replace H:=H.1 g42;refine sr (tq (ay (off:=0) ZG bX rfl) (tq (ay (off:=10) ZI pO rfl) ?_));obtain ⟨y43,k44,H⟩:=H;refine th (aD ZBK rfl) k44 (te (av Tryz.call76 rfl (F.xep_ok H)) ?_);rintro _ h45 ⟨r46,rfl,H⟩;refine qa rfl (nt (sr (qm rfl (tq (ay (off:=15) ZG pR rfl) ?_))));obtain ⟨y47,k48,H⟩:=H;refine th (aD ZC rfl) k48 (qm rfl (te (av Tryz.call28 rfl (F.xef_ok H)) ?_));rintro _ h49 ⟨r50,rfl,H⟩;refine qa rfl (nt (sr (qm rfl (qm rfl (tq (ay (off:=15) ZG pR rfl) ?_)))));obtain ⟨y51,k52,H⟩:=H;refine th (aD ZC rfl) k52 (tq (ay (off:=0) ZG bX rfl) (tq (ay (off:=10) ZI pO rfl) ?_));obtain ⟨y53,k54,H⟩:=H;refine th (aD ZBK rfl) k54 (te (av Tryz.call77 rfl (F.xcb_ok H)) ?_);rintro _ h55 ⟨r56,rfl,H⟩;refine tq (ct rfl rfl) (qm rfl ?_);refine aT (t:=75) rfl (fun g57=>?_) (fun g57=>?_)
    ·replace H:=H.1 g57;refine qm rfl (tq (ay (off:=0) ZG bX rfl) (tq (ay (off:=10) ZI pO rfl) ?_));obtain ⟨y58,k59,H⟩:=H;refine th (aD ZBK rfl) k59 (te (av Tryz.call78 rfl (F.xba_ok H)) ?_);rintro _ h60 ⟨r61,rfl,H⟩;refine tq (aL rfl rfl) (qa rfl (nt (al (aS (aq ?_)))));exact an rfl rfl ⟨_,rfl,H⟩
    ·replace H:=H.2 g57;refine ts (ts (ts (ts (ts (tq (aH rfl rfl) (qa rfl (nt (al (aS (aq ?_))))))))));exact an rfl rfl ⟨_,rfl,H⟩
   ·replace H:=H.2 g42;refine sr (tq (ct rfl rfl) (qa rfl (nt ?_)));refine am rfl (fun g62=>?_) (fun g62=>?_)
    ·replace H:=H.1 g62;refine aj (bv mixed [0,0,2,6,15,0,0,64,192,511,1023,2047,4095,4095,12287,28671,4095,69631,200703,524287,4095,4095,2101247,6295551,4095,16781311,50335743,134217727,268435455,536870911,1073741823,2147483647,2147483647,6442450943,15032385535,32212254719,68719476735,2147483647,2147483647,277025390591,826781204479,1926292832255,4398046511103,8796093022207,17592186044415,35184372088831] (by kernel_rfl) (gq 0 1 rfl (aw rfl) (gq 1 3 rfl (ay (off:=0) ZG bX rfl) (gq 2 7 rfl (ay (off:=2) ZI fT rfl) ?_))));obtain ⟨y63,k64,H⟩:=H;refine gh 3 15 rfl (aQ ZB ZA rfl rfl) k64 (gq 5 47 rfl (aw rfl) (gq 6 111 rfl (ay (off:=0) ZG bX rfl) (gq 7 239 rfl (ay (off:=2) ZI fT rfl) ?_)));obtain ⟨y65,k66,H⟩:=H;refine gh 8 495 rfl (aQ ZB ZA rfl rfl) k66 (g_e 4 511 [(8,fun h=>Cells h ((a2.add 0).add 2) y65.cells)] (by kernel_rfl) rfl (by kernel_rfl) (av Tryz.call20 rfl (F.xeg_ok H)) rfl rfl ?_);rintro _ h67 ⟨r68,rfl,H⟩;obtain ⟨k69,H⟩:=H;refine ⟨And.intro k69 trivial,?_⟩;refine g_e 9 1023 [] (by kernel_rfl) rfl (by kernel_rfl) (av Tryz.call79 rfl (F.xdt_ok H)) rfl rfl ?_;rintro _ h70 ⟨r71,rfl,H⟩;refine ⟨trivial,?_⟩;refine gq 10 2047 rfl (kX (b:=((r68.Count == r71.Count) && ((r68.Sum == r71.Sum) && ((r68.Min == r71.Min) && ((r68.Max == r71.Max) && true))))) tE (fun w=>ns r68 r71 9998 w) rfl rfl) (gq 11 4095 rfl (aw rfl) ?_);refine eO (t:=95) rfl (fun g72=>?_) (fun g72=>?_)
     ·replace H:=H.1 g72;refine gq 12 8191 rfl (aw rfl) (gq 13 16383 rfl (ay (off:=0) ZG bX rfl) (gq 14 32767 rfl (ay (off:=2) ZI fT rfl) ?_));obtain ⟨y73,k74,H⟩:=H;refine gh 15 65535 rfl (aQ ZB ZA rfl rfl) k74 (gq 16 131071 rfl (ay (off:=0) ZG bX rfl) (gq 17 262143 rfl (ay (off:=1) ZI fC rfl) ?_));obtain ⟨y75,k76,H⟩:=H;refine gh 18 524287 rfl (aD ZC rfl) k76 (gq 20 1572863 rfl (aw rfl) (gq 21 3670015 rfl (ay (off:=0) ZG bX rfl) (gq 22 7864319 rfl (ay (off:=2) ZI fT rfl) ?_)));obtain ⟨y77,k78,H⟩:=H;refine gh 23 16252927 rfl (aQ ZB ZA rfl rfl) k78 (gq 24 33030143 rfl (ay (off:=0) ZG bX rfl) (gq 25 66584575 rfl (ay (off:=1) ZI fC rfl) ?_));obtain ⟨y79,k80,H⟩:=H;refine gh 26 133693439 rfl (aD ZC rfl) k80 (g_e 19 134217727 [(26,fun h=>aA h ((a2.add 0).add 1)=some (.int .i64 y79)),(23,fun h=>Cells h ((a2.add 0).add 2) y77.cells)] (by kernel_rfl) rfl (by kernel_rfl) (av Tryz.call37 rfl (F.xeh_ok H)) rfl rfl ?_);rintro _ h81 ⟨r82,rfl,H⟩;obtain ⟨k83,k84,H⟩:=H;refine ⟨And.intro k83 (And.intro k84 trivial),?_⟩;refine g_e 27 268435455 [] (by kernel_rfl) rfl (by kernel_rfl) (av Tryz.call79 rfl (F.xdt_ok H)) rfl rfl ?_;rintro _ h85 ⟨r86,rfl,H⟩;refine ⟨trivial,?_⟩;refine gq 28 536870911 rfl (kX (b:=((r82.Count == r86.Count) && ((r82.Sum == r86.Sum) && ((r82.Min == r86.Min) && ((r82.Max == r86.Max) && true))))) tE (fun w=>ns r82 r86 9998 w) rfl rfl) (gq 29 1073741823 rfl (aL rfl rfl) (gq 30 2147483647 rfl (aw rfl) ?_));refine eO (t:=114) rfl (fun g87=>?_) (fun g87=>?_)
      ·replace H:=H.1 g87;refine gq 31 4294967295 rfl (aw rfl) (gq 32 8589934591 rfl (ay (off:=0) ZG bX rfl) (gq 33 17179869183 rfl (ay (off:=2) ZI fT rfl) (gq 34 34359738367 rfl (ay (off:=1) ZH dS rfl) ?_)));obtain ⟨y88,k89,H⟩:=H;refine gh 35 68719476735 rfl (aD ZP rfl) k89 (gq 37 206158430207 rfl (aw rfl) (gq 38 481036337151 rfl (ay (off:=0) ZG bX rfl) (gq 39 1030792151039 rfl (ay (off:=2) ZI fT rfl) (gq 40 2130303778815 rfl (ay (off:=1) ZH dS rfl) ?_))));obtain ⟨y90,k91,H⟩:=H;refine gh 41 4329327034367 rfl (aD ZP rfl) k91 (g_e 36 4398046511103 [(41,fun h=>aA h (((a2.add 0).add 2).add 1)=some (.string y90))] (by kernel_rfl) rfl (by kernel_rfl) (av Tryz.call10 rfl (F.xco_ok H)) rfl rfl ?_);rintro _ h92 ⟨r93,rfl,H⟩;obtain ⟨k94,H⟩:=H;refine ⟨And.intro k94 trivial,?_⟩;refine g_e 42 8796093022207 [] (by kernel_rfl) rfl (by kernel_rfl) (av Tryz.call11 rfl (F.xdp_ok H)) rfl rfl ?_;rintro _ h95 ⟨r96,rfl,H⟩;refine ⟨trivial,?_⟩;refine gq 43 17592186044415 rfl (ct rfl rfl) (gq 44 35184372088831 rfl (aL rfl rfl) (gq 45 70368744177663 rfl (bp rfl) (g_d (by kernel_rfl) (aa (al (aS (aq ?_)))))));exact an rfl rfl ⟨_,rfl,H⟩
      ·replace H:=H.2 g87;refine gs 31 4294967295 rfl (gs 32 8589934591 rfl (gs 33 17179869183 rfl (gs 34 34359738367 rfl (gs 35 68719476735 rfl (gs 36 137438953471 rfl (gs 37 274877906943 rfl (gs 38 549755813887 rfl (gs 39 1099511627775 rfl (gs 40 2199023255551 rfl (gs 41 4398046511103 rfl (gs 42 8796093022207 rfl (gs 43 17592186044415 rfl (gq 44 35184372088831 rfl (aH rfl rfl) ?_)))))))))))));refine gq 45 70368744177663 rfl (bp rfl) (g_d (by kernel_rfl) (aa (al (aS (aq ?_)))));exact an rfl rfl ⟨_,rfl,H⟩
     ·replace H:=H.2 g72;refine gs 12 8191 rfl (gs 13 16383 rfl (gs 14 32767 rfl (gs 15 65535 rfl (gs 16 131071 rfl (gs 17 262143 rfl (gs 18 524287 rfl (gs 19 1048575 rfl (gs 20 2097151 rfl (gs 21 4194303 rfl (gs 22 8388607 rfl (gs 23 16777215 rfl (gs 24 33554431 rfl (gs 25 67108863 rfl ?_)))))))))))));refine gs 26 134217727 rfl (gs 27 268435455 rfl (gs 28 536870911 rfl (gq 29 1073741823 rfl (aH rfl rfl) (gq 30 2147483647 rfl (aw rfl) (gs 31 4294967295 rfl (gs 32 8589934591 rfl (gs 33 17179869183 rfl (gs 34 34359738367 rfl (gs 35 68719476735 rfl (gs 36 137438953471 rfl (gs 37 274877906943 rfl (gs 38 549755813887 rfl (gs 39 1099511627775 rfl ?_)))))))))))));refine gs 40 2199023255551 rfl (gs 41 4398046511103 rfl (gs 42 8796093022207 rfl (gs 43 17592186044415 rfl (gq 44 35184372088831 rfl (aH rfl rfl) (gq 45 70368744177663 rfl (bp rfl) (g_d (by kernel_rfl) (aa (al (aS (aq ?_))))))))));exact an rfl rfl ⟨_,rfl,H⟩
    ·replace H:=H.2 g62;refine sr (tq (ct rfl rfl) (qa rfl (nt ?_)));refine am rfl (fun g97=>?_) (fun g97=>?_)
     ·replace H:=H.1 g97;refine aG (fun L' h=>∃ (x0:Option Addr) (x1:Option Addr) (x5:Addr),L'=[(0,(.pointer x0)),(1,(.pointer x1)),(5,(.pointer (some x5)))]∧F.xbu.j1 Q x0 x1 x5 h) ?_ ?_
      ·rintro L' h ⟨x0,x1,x5,rfl,H⟩;unfold F.xbu.j1 at H;refine sr (tq (ay (off:=0) ZG bX rfl) (tq (ay (off:=9) ZI pN rfl) ?_));obtain ⟨y98,k99,H⟩:=H;refine th (aD Tryz.isAgg41 rfl) k99 (te (av Tryz.call80 rfl (F.xen_ok H)) ?_);rintro _ h100 ⟨r101,rfl,H⟩;refine qa rfl (nt (aj (bv mixed [0,0,2,6,0,31,0,0,128,384,0,1024,3072,8191,16383,32767,65535,65535,196607,458751,1048575,2097151,4194303] (by kernel_rfl) (gq 0 1 rfl (aw rfl) (gq 1 3 rfl (ay (off:=0) ZG bX rfl) (gq 2 7 rfl (ay (off:=1) ZI fC rfl) ?_))))));obtain ⟨y102,k103,H⟩:=H;refine gh 3 15 rfl (aD ZC rfl) k103 (gq 4 31 rfl (aw rfl) (gq 6 95 rfl (aw rfl) (gq 7 223 rfl (ay (off:=0) ZG bX rfl) (gq 8 479 rfl (ay (off:=1) ZI fC rfl) ?_))));obtain ⟨y104,k105,H⟩:=H;refine gh 9 991 rfl (aD ZC rfl) k105 (gq 10 2015 rfl (ay (off:=0) ZG bX rfl) (gq 11 4063 rfl (ay (off:=9) ZI pN rfl) ?_));obtain ⟨y106,k107,H⟩:=H;refine gh 12 8159 rfl (aD Tryz.isAgg41 rfl) k107 (g_e 5 8191 [(12,fun h=>aA h ((x5.add 0).add 9)=some y106.enc),(9,fun h=>aA h ((x5.add 0).add 1)=some (.int .i64 y104))] (by kernel_rfl) rfl (by kernel_rfl) (av Tryz.call81 rfl (F.xbs_ok H)) rfl rfl ?_);rintro _ h108 ⟨r109,rfl,H⟩;obtain ⟨k110,k111,H⟩:=H;refine ⟨And.intro k110 (And.intro k111 trivial),?_⟩;refine g_e 13 16383 [] (by kernel_rfl) rfl (by kernel_rfl) (av Tryz.call82 rfl (F.xap_ok H)) rfl rfl ?_;rintro _ h112 ⟨r113,rfl,H⟩;refine ⟨trivial,?_⟩;refine gq 14 32767 rfl (A1 ZBQ rfl rfl) (gq 15 65535 rfl (aw rfl) ?_);refine eO (t:=160) rfl (fun g114=>?_) (fun g114=>?_)
       ·replace H:=H.1 g114;refine gq 16 131071 rfl (aw rfl) (gq 17 262143 rfl (ay (off:=0) ZG bX rfl) (gq 18 524287 rfl (ay (off:=9) ZI pN rfl) ?_));obtain ⟨y115,k116,H⟩:=H;refine gh 19 1048575 rfl (aD Tryz.isAgg41 rfl) k116 (g_e 20 2097151 [] (by kernel_rfl) rfl (by kernel_rfl) (av Tryz.call83 rfl (F.xav_ok H)) rfl rfl ?_);rintro _ h117 ⟨r118,rfl,H⟩;refine ⟨trivial,?_⟩;refine gq 21 4194303 rfl (aL rfl rfl) (gq 22 8388607 rfl (bp rfl) (g_d (by kernel_rfl) (aa (al (aS (aq ?_))))));exact an rfl rfl ⟨_,rfl,H⟩
       ·replace H:=H.2 g114;refine gs 16 131071 rfl (gs 17 262143 rfl (gs 18 524287 rfl (gs 19 1048575 rfl (gs 20 2097151 rfl (gq 21 4194303 rfl (aH rfl rfl) (gq 22 8388607 rfl (bp rfl) (g_d (by kernel_rfl) (aa (al (aS (aq ?_)))))))))));exact an rfl rfl ⟨_,rfl,H⟩
      ·refine aG (fun L' h=>∃ (x0:Option Addr) (x1:Option Addr) (x5:Addr) (x140:Bool),L'=[(0,(.pointer x0)),(1,(.pointer x1)),(5,(.pointer (some x5))),(140,(.bool x140))]∧F.xbu.j2 Q x0 x1 x5 x140 h) ?_ ?_
       ·rintro L' h ⟨x0,x1,x5,x140,rfl,H⟩;unfold F.xbu.j2 at H;refine am rfl (fun g119=>?_) (fun g119=>?_)
        ·replace H:=H.1 g119;refine sr (qa rfl (nt (al (aq (aS (aq ?_))))));exact an rfl rfl ⟨_,rfl,H⟩
        ·replace H:=H.2 g119;refine au (aa ?_);exact ah [(0,(.pointer x0)),(1,(.pointer x1)),(5,(.pointer (some x5)))] ⟨rfl,rfl,rfl,tv⟩ ⟨_,_,_,rfl,H⟩
       ·refine ai (tq (ay (off:=0) ZG bX rfl) (tq (ay (off:=1) ZI fC rfl) ?_));obtain ⟨y120,k121,H⟩:=H;refine th (aD ZC rfl) k121 (tq (bN rfl rfl) (qm rfl ?_));refine aT (t:=135) rfl (fun g122=>?_) (fun g122=>?_)
        ·replace H:=H.1 g122;refine ts (ts (ts (ts (tq (aL rfl rfl) (nt ?_)))));exact ah [(0,(.pointer p0)),(1,(.pointer p1)),(5,(.pointer (some a2))),(140,(.bool true))] ⟨rfl,rfl,rfl,rfl,tv⟩ ⟨_,_,_,_,rfl,H⟩
        ·replace H:=H.2 g122;refine tq (ay (off:=0) ZG bX rfl) (tq (ay (off:=1) ZI fC rfl) ?_);obtain ⟨y123,k124,H⟩:=H;refine th (aD ZC rfl) k124 (tq (df rfl rfl) (tq (aH rfl rfl) (nt ?_)));exact ah [(0,(.pointer p0)),(1,(.pointer p1)),(5,(.pointer (some a2))),(140,(.bool (decide (y123 > 1099511627776))))] ⟨rfl,rfl,rfl,rfl,tv⟩ ⟨_,_,_,_,rfl,H⟩
     ·replace H:=H.2 g97;refine sr (tq (ct rfl rfl) (qa rfl (nt ?_)));refine am rfl (fun g125=>?_) (fun g125=>?_)
      ·replace H:=H.1 g125;refine aj (bv mixed [0,0,2,0,8,24,0,64,192,0,512,1536,0,4096,12288,32767,0,0,131072,0,524288,1572864,0,4194304,12582912,0,33554432,100663296,0,268435456,805306368,2147483647,4294967295,8589934591,17179869183,17179869183,51539607551,120259084287,17179869183,292057776127,841813590015,17179869183,2216203124735,6614249635839,17179869183,17609365913599,52793738002431,140737488355327,17179869183,17179869183,562967133290495,1688867040133119,17179869183,4503616807239679,13510816061980671,17179869183,36028814198833151,108086408236761087,17179869183,288230393331580927,864691145635004415,2305843009213693951,4611686018427387903,9223372036854775807,18446744073709551615] (by kernel_rfl) (gq 0 1 rfl (aw rfl) (gq 1 3 rfl (ay (off:=15) ZG pR rfl) ?_)));obtain ⟨y126,k127,H⟩:=H;refine gh 2 7 rfl (aD ZC rfl) k127 (gq 3 15 rfl (ay (off:=0) ZG bX rfl) (gq 4 31 rfl (ay (off:=1) ZI fC rfl) ?_));obtain ⟨y128,k129,H⟩:=H;refine gh 5 63 rfl (aD ZC rfl) k129 (gq 6 127 rfl (ay (off:=0) ZG bX rfl) (gq 7 255 rfl (ay (off:=2) ZI fT rfl) ?_));obtain ⟨y130,k131,H⟩:=H;refine gh 8 511 rfl (aQ ZB ZA rfl rfl) k131 (gq 9 1023 rfl (ay (off:=0) ZG bX rfl) (gq 10 2047 rfl (ay (off:=11) ZI pP rfl) ?_));obtain ⟨y132,k133,H⟩:=H;refine gh 11 4095 rfl (aQ ZB ZA rfl rfl) k133 (gq 12 8191 rfl (ay (off:=0) ZG bX rfl) (gq 13 16383 rfl (ay (off:=14) ZI pQ rfl) ?_));obtain ⟨y134,k135,H⟩:=H;refine gh 14 32767 rfl (aD ZC rfl) k135 (gq 16 98303 rfl (aw rfl) (gq 17 229375 rfl (ay (off:=15) ZG pR rfl) ?_));obtain ⟨y136,k137,H⟩:=H;refine gh 18 491519 rfl (aD ZC rfl) k137 (gq 19 1015807 rfl (ay (off:=0) ZG bX rfl) (gq 20 2064383 rfl (ay (off:=1) ZI fC rfl) ?_));obtain ⟨y138,k139,H⟩:=H;refine gh 21 4161535 rfl (aD ZC rfl) k139 (gq 22 8355839 rfl (ay (off:=0) ZG bX rfl) (gq 23 16744447 rfl (ay (off:=2) ZI fT rfl) ?_));obtain ⟨y140,k141,H⟩:=H;refine gh 24 33521663 rfl (aQ ZB ZA rfl rfl) k141 (gq 25 67076095 rfl (ay (off:=0) ZG bX rfl) (gq 26 134184959 rfl (ay (off:=11) ZI pP rfl) ?_));obtain ⟨y142,k143,H⟩:=H;refine gh 27 268402687 rfl (aQ ZB ZA rfl rfl) k143 (gq 28 536838143 rfl (ay (off:=0) ZG bX rfl) (gq 29 1073709055 rfl (ay (off:=14) ZI pQ rfl) ?_));obtain ⟨y144,k145,H⟩:=H;refine gh 30 2147450879 rfl (aD ZC rfl) k145 (g_e 15 2147483647 [(30,fun h=>aA h ((a2.add 0).add 14)=some (.int .i64 y144)),(27,fun h=>Cells h ((a2.add 0).add 11) y142.cells),(24,fun h=>Cells h ((a2.add 0).add 2) y140.cells),(21,fun h=>aA h ((a2.add 0).add 1)=some (.int .i64 y138)),(18,fun h=>aA h (a2.add 15)=some (.int .i64 y136))] (by kernel_rfl) rfl (by kernel_rfl) (av Tryz.call21 rfl (F.xei_ok H)) rfl rfl ?_);rintro _ h146 ⟨r147,rfl,H⟩;obtain ⟨k148,k149,k150,k151,k152,H⟩:=H;refine ⟨And.intro k148 (And.intro k149 (And.intro k150 (And.intro k151 (And.intro k152 trivial)))),?_⟩;refine g_e 31 4294967295 [] (by kernel_rfl) rfl (by kernel_rfl) (av Tryz.call84 rfl (F.xcd_ok H)) rfl rfl ?_;rintro _ h153 ⟨r154,rfl,H⟩;refine ⟨trivial,?_⟩;refine g_e 32 8589934591 [] (by kernel_rfl) rfl (by kernel_rfl) (av Tryz.call19 rfl (F.xcn_ok H)) rfl rfl ?_;rintro _ h155 ⟨r156,rfl,H⟩;refine ⟨trivial,?_⟩;refine gq 33 17179869183 rfl (aw rfl) ?_;refine eO (t:=202) rfl (fun g157=>?_) (fun g157=>?_)
       ·replace H:=H.1 g157;refine gq 34 34359738367 rfl (aw rfl) (gq 35 68719476735 rfl (ay (off:=0) ZG bX rfl) (gq 36 137438953471 rfl (ay (off:=1) ZI fC rfl) ?_));obtain ⟨y158,k159,H⟩:=H;refine gh 37 274877906943 rfl (aD ZC rfl) k159 (gq 38 549755813887 rfl (ay (off:=0) ZG bX rfl) (gq 39 1099511627775 rfl (ay (off:=2) ZI fT rfl) ?_));obtain ⟨y160,k161,H⟩:=H;refine gh 40 2199023255551 rfl (aQ ZB ZA rfl rfl) k161 (gq 41 4398046511103 rfl (ay (off:=0) ZG bX rfl) (gq 42 8796093022207 rfl (ay (off:=11) ZI pP rfl) ?_));obtain ⟨y162,k163,H⟩:=H;refine gh 43 17592186044415 rfl (aQ ZB ZA rfl rfl) k163 (gq 44 35184372088831 rfl (ay (off:=0) ZG bX rfl) (gq 45 70368744177663 rfl (ay (off:=14) ZI pQ rfl) ?_));obtain ⟨y164,k165,H⟩:=H;refine gh 46 140737488355327 rfl (aD ZC rfl) k165 (gq 48 422212465065983 rfl (aw rfl) (gq 49 985162418487295 rfl (ay (off:=0) ZG bX rfl) (gq 50 2111062325329919 rfl (ay (off:=1) ZI fC rfl) ?_)));obtain ⟨y166,k167,H⟩:=H;refine gh 51 4362862139015167 rfl (aD ZC rfl) k167 (gq 52 8866461766385663 rfl (ay (off:=0) ZG bX rfl) (gq 53 17873661021126655 rfl (ay (off:=2) ZI fT rfl) ?_));obtain ⟨y168,k169,H⟩:=H;refine gh 54 35888059530608639 rfl (aQ ZB ZA rfl rfl) k169 (gq 55 71916856549572607 rfl (ay (off:=0) ZG bX rfl) (gq 56 143974450587500543 rfl (ay (off:=11) ZI pP rfl) ?_));obtain ⟨y170,k171,H⟩:=H;refine gh 57 288089638663356415 rfl (aQ ZB ZA rfl rfl) k171 (gq 58 576320014815068159 rfl (ay (off:=0) ZG bX rfl) (gq 59 1152780767118491647 rfl (ay (off:=14) ZI pQ rfl) ?_));obtain ⟨y172,k173,H⟩:=H;refine gh 60 2305702271725338623 rfl (aD ZC rfl) k173 (g_e 47 2305843009213693951 [(60,fun h=>aA h ((a2.add 0).add 14)=some (.int .i64 y172)),(57,fun h=>Cells h ((a2.add 0).add 11) y170.cells),(54,fun h=>Cells h ((a2.add 0).add 2) y168.cells),(51,fun h=>aA h ((a2.add 0).add 1)=some (.int .i64 y166))] (by kernel_rfl) rfl (by kernel_rfl) (av Tryz.call18 rfl (F.xcl_ok H)) rfl rfl ?_);rintro _ h174 ⟨r175,rfl,H⟩;obtain ⟨k176,k177,k178,k179,H⟩:=H;refine ⟨And.intro k176 (And.intro k177 (And.intro k178 (And.intro k179 trivial))),?_⟩;refine g_e 61 4611686018427387903 [] (by kernel_rfl) rfl (by kernel_rfl) (av Tryz.call85 rfl (F.xab_ok H)) rfl rfl ?_;rintro _ h180 ⟨r181,rfl,H⟩;refine ⟨trivial,?_⟩;refine g_e 62 9223372036854775807 [] (by kernel_rfl) rfl (by kernel_rfl) (av Tryz.call19 rfl (F.xcn_ok H)) rfl rfl ?_;rintro _ h182 ⟨r183,rfl,H⟩;refine ⟨trivial,?_⟩;refine gq 63 18446744073709551615 rfl (aL rfl rfl) (gq 64 36893488147419103231 rfl (bp rfl) (g_d (by kernel_rfl) (aa (al (aS (aq ?_))))));exact an rfl rfl ⟨_,rfl,H⟩
       ·replace H:=H.2 g157;refine gs 34 34359738367 rfl (gs 35 68719476735 rfl (gs 36 137438953471 rfl (gs 37 274877906943 rfl (gs 38 549755813887 rfl (gs 39 1099511627775 rfl (gs 40 2199023255551 rfl (gs 41 4398046511103 rfl (gs 42 8796093022207 rfl (gs 43 17592186044415 rfl (gs 44 35184372088831 rfl (gs 45 70368744177663 rfl (gs 46 140737488355327 rfl (gs 47 281474976710655 rfl ?_)))))))))))));refine gs 48 562949953421311 rfl (gs 49 1125899906842623 rfl (gs 50 2251799813685247 rfl (gs 51 4503599627370495 rfl (gs 52 9007199254740991 rfl (gs 53 18014398509481983 rfl (gs 54 36028797018963967 rfl (gs 55 72057594037927935 rfl (gs 56 144115188075855871 rfl (gs 57 288230376151711743 rfl (gs 58 576460752303423487 rfl (gs 59 1152921504606846975 rfl (gs 60 2305843009213693951 rfl (gs 61 4611686018427387903 rfl ?_)))))))))))));refine gs 62 9223372036854775807 rfl (gq 63 18446744073709551615 rfl (aH rfl rfl) (gq 64 36893488147419103231 rfl (bp rfl) (g_d (by kernel_rfl) (aa (al (aS (aq ?_)))))));exact an rfl rfl ⟨_,rfl,H⟩
      ·replace H:=H.2 g125;refine au (aI (aa (sr (qa rfl (nt (al ?_))))));exact an rfl rfl ⟨_,rfl,H⟩
def F.xce.j1 (Q:Int->H->Prop) (x0:Option Addr) (x1:Int) (h:H):Prop:=
  nn x0 fun a1 =>
  ldL h (a1.add 0) fun y3 =>
  bD y3 x1 1 fun a5 =>
  ldP h a5 fun y7 =>
  F.xbh y7 h fun r10 h9 =>
  Q r10 h9
def F.xce.j2 (Q:Int->H->Prop) (x0:Option Addr) (x1:Int) (x15:Bool) (h:H):Prop:=
  (x15=true ->
  Q 0 h) ∧
  (x15=false ->
  F.xce.j1 Q x0 x1 h)
def F.xce (p0:Option Addr) (p1:Int) (h:H) (Q:Int->H->Prop):Prop:=
  ((decide (p1<0))=true ->
  F.xce.j2 Q p0 p1 true h) ∧
  ((decide (p1<0))=false ->
  nn p0 fun a13 =>
  ldL h (a13.add 0) fun y15 =>
  F.xce.j2 Q p0 p1 (decide (p1>=(y15.len:Int))) h)
theorem F.xce_ok {p0:Option Addr}{p1:Int}{h:H}{Q:Int->H->Prop}(H:F.xce p0 p1 h Q):Fn PP 86 ([(.pointer p0),(.int .i64 p1)]:List Value).toArray h fun r h'=>∃ r0,r=(.int .i64 r0)∧Q r0 h':=by
 unfold F.xce at H;refine aV Tryz.func86 Tryz.ntmps86 rfl rfl fun w0=>(az [(0,(.pointer p0)),(1,(.int .i64 p1))] ⟨rfl,rfl,tv⟩ (sr (qa rfl (nt ?_))));refine aG (fun L' h=>∃ (x0:Option Addr) (x1:Int),L'=[(0,(.pointer x0)),(1,(.int .i64 x1))]∧F.xce.j1 Q x0 x1 h) ?_ ?_
 ·rintro L' h ⟨x0,x1,rfl,H⟩;unfold F.xce.j1 at H;refine sr (qm rfl ?_);obtain ⟨a1,e2,H⟩:=H;refine tq (bG rfl e2) (tq (ay (off:=0) Zg dY rfl) ?_);obtain ⟨y3,k4,H⟩:=H;refine th (aD Zk rfl) k4 (qm rfl ?_);obtain ⟨a5,e6,H⟩:=H;refine tq (bf (s:=y3) Zm ZBD rfl rfl e6) ?_;obtain ⟨y7,k8,H⟩:=H;refine th (aD ZBE rfl) k8 (te (av Tryz.call119 rfl (F.xbh_ok H)) ?_);rintro _ h9 ⟨r10,rfl,H⟩;refine qa rfl (nt (al ?_));exact an rfl rfl ⟨_,rfl,H⟩
 ·refine aG (fun L' h=>∃ (x0:Option Addr) (x1:Int) (x15:Bool),L'=[(0,(.pointer x0)),(1,(.int .i64 x1)),(15,(.bool x15))]∧F.xce.j2 Q x0 x1 x15 h) ?_ ?_
  ·rintro L' h ⟨x0,x1,x15,rfl,H⟩;unfold F.xce.j2 at H;refine am rfl (fun g11=>?_) (fun g11=>?_)
   ·replace H:=H.1 g11;refine sr (qa rfl (nt (al (aq ?_))));exact an rfl rfl ⟨_,rfl,H⟩
   ·replace H:=H.2 g11;refine au (aa ?_);exact ah [(0,(.pointer x0)),(1,(.int .i64 x1))] ⟨rfl,rfl,tv⟩ ⟨_,_,rfl,H⟩
  ·refine ai (qm rfl (tq (bN rfl rfl) (qm rfl ?_)));refine aT (t:=7) rfl (fun g12=>?_) (fun g12=>?_)
   ·replace H:=H.1 g12;refine ts (ts (ts (ts (ts (ts (ts (tq (aL rfl rfl) (nt ?_))))))));exact ah [(0,(.pointer p0)),(1,(.int .i64 p1)),(15,(.bool true))] ⟨rfl,rfl,rfl,tv⟩ ⟨_,_,_,rfl,H⟩
   ·replace H:=H.2 g12;refine qm rfl (qm rfl ?_);obtain ⟨a13,e14,H⟩:=H;refine tq (bG rfl e14) (tq (ay (off:=0) Zg dY rfl) ?_);obtain ⟨y15,k16,H⟩:=H;refine th (aD Zk rfl) k16 (tq (bB (ts:=#[]) Zm (o:=y15.ptr) (n:=y15.len) (cap:=y15.cap) rfl) (tq (jT rfl rfl) (tq (aH rfl rfl) (nt ?_))));exact ah [(0,(.pointer p0)),(1,(.int .i64 p1)),(15,(.bool (decide (p1>=(y15.len:Int)))))] ⟨rfl,rfl,rfl,tv⟩ ⟨_,_,_,rfl,H⟩
def F.xbj.j2 (Q:Int->H->Prop) (C1:(Option Addr)->Int->Int->H->Prop) (x0:Option Addr) (x3:Int) (x4:Int) (h:H):Prop:=
  C1 x0 x3 (IntKind.wrap .i64 (x4+1)) h
def F.xbj.l1 (Q:Int->H->Prop):Nat->(Option Addr)->Int->Int->H->Prop
  | 0,_,_,_,_=>False
  | q1+1,x0,x3,x4,h =>
    nn x0 fun a1 =>
    ldL h (a1.add 1) fun y3 =>
    ((decide (x4<(y3.len:Int)))=true ->
    nn x0 fun a6 =>
    ldL h (a6.add 1) fun y8 =>
    bD y8 x4 4 fun a10 =>
    ldL h (a10.add 3) fun y12 =>
    bD y12 (IntKind.wrap .i64 ((y12.len:Int)-1)) 6 fun a14 =>
    ldB h (a14.add 5) fun y16 =>
    ((!y16)=true ->
    F.xbj.j2 Q (F.xbj.l1 Q q1) x0 (IntKind.wrap .i64 (x3+1)) x4 h) ∧
    ((!y16)=false ->
    F.xbj.j2 Q (F.xbj.l1 Q q1) x0 x3 x4 h)) ∧
    ((decide (x4<(y3.len:Int)))=false ->
    Q x3 h)
def F.xbj (p0:Option Addr) (h:H) (Q:Int->H->Prop):Prop:=
  ∃ m,F.xbj.l1 Q m p0 0 0 h
theorem F.xbj_ok {p0:Option Addr}{h:H}{Q:Int->H->Prop}(H:F.xbj p0 h Q):Fn PP 120 ([(.pointer p0)]:List Value).toArray h fun r h'=>∃ r0,r=(.int .i64 r0)∧Q r0 h':=by
 unfold F.xbj at H;refine aV Tryz.func120 Tryz.ntmps120 rfl rfl fun w0=>(az [(0,(.pointer p0))] ⟨rfl,tv⟩ (sr (qa rfl (nt (sr (qa rfl (nt (aj (aj ?_)))))))));refine ai (qa rfl (nt (aB ?_)));obtain ⟨m19,H⟩:=H;refine az [(0,(.pointer p0)),(3,(.int .i64 0)),(4,(.int .i64 0))] ⟨rfl,rfl,rfl,tv⟩ ?_;refine aY (fun m L' h=>∃ (x0:Option Addr) (x3:Int) (x4:Int),L'=[(0,(.pointer x0)),(3,(.int .i64 x3)),(4,(.int .i64 x4))]∧F.xbj.l1 Q m x0 x3 x4 h) ?_ ?_ m19 ⟨_,_,_,rfl,H⟩
 ·rintro L' h ⟨_,_,_,_,H⟩;exact H
 ·rintro q1 L' h ⟨x0,x3,x4,rfl,H⟩;unfold F.xbj.l1 at H;refine aj (sr (qm rfl (qm rfl ?_)));obtain ⟨a1,e2,H⟩:=H;refine tq (bG rfl e2) (tq (ay (off:=1) ZX dc rfl) ?_);obtain ⟨y3,k4,H⟩:=H;refine th (aD Ze rfl) k4 (tq (bB (ts:=#[]) Zf (o:=y3.ptr) (n:=y3.len) (cap:=y3.cap) rfl) (tq (bN rfl rfl) (nt ?_)));refine am rfl (fun g5=>?_) (fun g5=>?_)
  ·replace H:=H.1 g5;refine au (aa ?_);refine aG (fun L' h=>∃ (x0:Option Addr) (x3:Int) (x4:Int),L'=[(0,(.pointer x0)),(3,(.int .i64 x3)),(4,(.int .i64 x4))]∧F.xbj.j2 Q (F.xbj.l1 Q q1) x0 x3 x4 h) ?_ ?_
   ·rintro L' h ⟨x0,x3,x4,rfl,H⟩;unfold F.xbj.j2 at H;refine ai (qm rfl (tq (bE rfl rfl) (qa rfl (nt ?_))));exact ah [(0,(.pointer x0)),(3,(.int .i64 x3)),(4,(.int .i64 (IntKind.wrap .i64 (x4+1))))] ⟨rfl,rfl,rfl,tv⟩ ⟨_,_,_,rfl,H⟩
   ·refine aB (sr (qm rfl ?_));obtain ⟨a6,e7,H⟩:=H;refine tq (bG rfl e7) (tq (ay (off:=1) ZX dc rfl) ?_);obtain ⟨y8,k9,H⟩:=H;refine th (aD Ze rfl) k9 (qm rfl ?_);obtain ⟨a10,e11,H⟩:=H;refine tq (bf (s:=y8) Zf Zy rfl rfl e11) (tq (ay (off:=3) Z4 iO rfl) ?_);obtain ⟨y12,k13,H⟩:=H;refine th (aD ZBL rfl) k13 (qa rfl (nt (sr (qm rfl (qm rfl (tq (bB (ts:=#[]) ZO (o:=y12.ptr) (n:=y12.len) (cap:=y12.cap) rfl) (tq (cJ rfl rfl) ?_)))))));obtain ⟨a14,e15,H⟩:=H;refine tq (bf (s:=y12) ZO Zt rfl rfl e15) (tq (ay (off:=5) Z5 lF rfl) ?_);obtain ⟨y16,k17,H⟩:=H;refine th (aD Zj rfl) k17 (tq (eI rfl) (nt ?_));refine am rfl (fun g18=>?_) (fun g18=>?_)
    ·replace H:=H.1 g18;refine ai (qm rfl (tq (bE rfl rfl) (qa rfl (bo (aI (aa ?_))))));exact ah [(0,(.pointer x0)),(3,(.int .i64 (IntKind.wrap .i64 (x3+1)))),(4,(.int .i64 x4))] ⟨rfl,rfl,rfl,tv⟩ ⟨_,_,_,rfl,H⟩
    ·replace H:=H.2 g18;refine au (aI (aa ?_));exact ah [(0,(.pointer x0)),(3,(.int .i64 x3)),(4,(.int .i64 x4))] ⟨rfl,rfl,rfl,tv⟩ ⟨_,_,_,rfl,H⟩
  ·replace H:=H.2 g5;refine bC (aF (aF (bV (aa (sr (qm rfl (qa rfl (nt (al ?_)))))))));exact an rfl rfl ⟨_,rfl,H⟩
def F.xcv.l1 (Q:Int->H->Prop):Nat->(Option Addr)->Int->Int->H->Prop
  | 0,_,_,_,_=>False
  | q1+1,x0,x3,x4,h =>
    nn x0 fun a1 =>
    ldL h (a1.add 0) fun y3 =>
    ((decide (x4<(y3.len:Int)))=true ->
    nn x0 fun a6 =>
    ldL h (a6.add 0) fun y8 =>
    bD y8 x4 1 fun a10 =>
    ldP h a10 fun y12 =>
    F.xbj y12 h fun r15 h14 =>
    (F.xcv.l1 Q q1) x0 (IntKind.wrap .i64 (x3+r15)) (IntKind.wrap .i64 (x4+1)) h14) ∧
    ((decide (x4<(y3.len:Int)))=false ->
    Q x3 h)
def F.xcv (p0:Option Addr) (h:H) (Q:Int->H->Prop):Prop:=
  ∃ m,F.xcv.l1 Q m p0 0 0 h
theorem F.xcv_ok {p0:Option Addr}{h:H}{Q:Int->H->Prop}(H:F.xcv p0 h Q):Fn PP 87 ([(.pointer p0)]:List Value).toArray h fun r h'=>∃ r0,r=(.int .i64 r0)∧Q r0 h':=by
 unfold F.xcv at H;refine aV Tryz.func87 Tryz.ntmps87 rfl rfl fun w0=>(az [(0,(.pointer p0))] ⟨rfl,tv⟩ (sr (qa rfl (nt (sr (qa rfl (nt (aj (aj ?_)))))))));refine ai (qa rfl (nt (aB ?_)));obtain ⟨m16,H⟩:=H;refine az [(0,(.pointer p0)),(3,(.int .i64 0)),(4,(.int .i64 0))] ⟨rfl,rfl,rfl,tv⟩ ?_;refine aY (fun m L' h=>∃ (x0:Option Addr) (x3:Int) (x4:Int),L'=[(0,(.pointer x0)),(3,(.int .i64 x3)),(4,(.int .i64 x4))]∧F.xcv.l1 Q m x0 x3 x4 h) ?_ ?_ m16 ⟨_,_,_,rfl,H⟩
 ·rintro L' h ⟨_,_,_,_,H⟩;exact H
 ·rintro q1 L' h ⟨x0,x3,x4,rfl,H⟩;unfold F.xcv.l1 at H;refine aj (sr (qm rfl (qm rfl ?_)));obtain ⟨a1,e2,H⟩:=H;refine tq (bG rfl e2) (tq (ay (off:=0) Zg dY rfl) ?_);obtain ⟨y3,k4,H⟩:=H;refine th (aD Zk rfl) k4 (tq (bB (ts:=#[]) Zm (o:=y3.ptr) (n:=y3.len) (cap:=y3.cap) rfl) (tq (bN rfl rfl) (nt ?_)));refine am rfl (fun g5=>?_) (fun g5=>?_)
  ·replace H:=H.1 g5;refine au (aa (aj (aB (ai (qm rfl (qm rfl ?_))))));obtain ⟨a6,e7,H⟩:=H;refine tq (bG rfl e7) (tq (ay (off:=0) Zg dY rfl) ?_);obtain ⟨y8,k9,H⟩:=H;refine th (aD Zk rfl) k9 (qm rfl ?_);obtain ⟨a10,e11,H⟩:=H;refine tq (bf (s:=y8) Zm ZBD rfl rfl e11) ?_;obtain ⟨y12,k13,H⟩:=H;refine th (aD ZBE rfl) k13 (te (av Tryz.call120 rfl (F.xbj_ok H)) ?_);rintro _ h14 ⟨r15,rfl,H⟩;refine tq (bE rfl rfl) (qa rfl (bo (aI (aa (ai (qm rfl (tq (bE rfl rfl) (qa rfl (nt ?_)))))))));exact ah [(0,(.pointer x0)),(3,(.int .i64 (IntKind.wrap .i64 (x3+r15)))),(4,(.int .i64 (IntKind.wrap .i64 (x4+1))))] ⟨rfl,rfl,rfl,tv⟩ ⟨_,_,_,rfl,H⟩
  ·replace H:=H.2 g5;refine bC (aF (aF (bV (aa (sr (qm rfl (qa rfl (nt (al ?_)))))))));exact an rfl rfl ⟨_,rfl,H⟩
def F.xbd.j2 (Q:Int->H->Prop) (C1:(Option Addr)->Int->Int->H->Prop) (x0:Option Addr) (x3:Int) (x4:Int) (h:H):Prop:=
  C1 x0 x3 (IntKind.wrap .i64 (x4+1)) h
def F.xbd.l1 (Q:Int->H->Prop):Nat->(Option Addr)->Int->Int->H->Prop
  | 0,_,_,_,_=>False
  | q1+1,x0,x3,x4,h =>
    nn x0 fun a1 =>
    ldL h (a1.add 1) fun y3 =>
    ((decide (x4<(y3.len:Int)))=true ->
    nn x0 fun a6 =>
    ldL h (a6.add 1) fun y8 =>
    bD y8 x4 4 fun a10 =>
    ldL h (a10.add 3) fun y12 =>
    ((decide ((y12.len:Int) > x3))=true ->
    nn x0 fun a15 =>
    ldL h (a15.add 1) fun y17 =>
    bD y17 x4 4 fun a19 =>
    ldL h (a19.add 3) fun y21 =>
    F.xbd.j2 Q (F.xbd.l1 Q q1) x0 (y21.len:Int) x4 h) ∧
    ((decide ((y12.len:Int) > x3))=false ->
    F.xbd.j2 Q (F.xbd.l1 Q q1) x0 x3 x4 h)) ∧
    ((decide (x4<(y3.len:Int)))=false ->
    Q x3 h)
def F.xbd (p0:Option Addr) (h:H) (Q:Int->H->Prop):Prop:=
  ∃ m,F.xbd.l1 Q m p0 0 0 h
theorem F.xbd_ok {p0:Option Addr}{h:H}{Q:Int->H->Prop}(H:F.xbd p0 h Q):Fn PP 121 ([(.pointer p0)]:List Value).toArray h fun r h'=>∃ r0,r=(.int .i64 r0)∧Q r0 h':=by
 unfold F.xbd at H;refine aV Tryz.func121 Tryz.ntmps121 rfl rfl fun w0=>(az [(0,(.pointer p0))] ⟨rfl,tv⟩ (sr (qa rfl (nt (sr (qa rfl (nt (aj (aj ?_)))))))));refine ai (qa rfl (nt (aB ?_)));obtain ⟨m23,H⟩:=H;refine az [(0,(.pointer p0)),(3,(.int .i64 0)),(4,(.int .i64 0))] ⟨rfl,rfl,rfl,tv⟩ ?_;refine aY (fun m L' h=>∃ (x0:Option Addr) (x3:Int) (x4:Int),L'=[(0,(.pointer x0)),(3,(.int .i64 x3)),(4,(.int .i64 x4))]∧F.xbd.l1 Q m x0 x3 x4 h) ?_ ?_ m23 ⟨_,_,_,rfl,H⟩
 ·rintro L' h ⟨_,_,_,_,H⟩;exact H
 ·rintro q1 L' h ⟨x0,x3,x4,rfl,H⟩;unfold F.xbd.l1 at H;refine aj (sr (qm rfl (qm rfl ?_)));obtain ⟨a1,e2,H⟩:=H;refine tq (bG rfl e2) (tq (ay (off:=1) ZX dc rfl) ?_);obtain ⟨y3,k4,H⟩:=H;refine th (aD Ze rfl) k4 (tq (bB (ts:=#[]) Zf (o:=y3.ptr) (n:=y3.len) (cap:=y3.cap) rfl) (tq (bN rfl rfl) (nt ?_)));refine am rfl (fun g5=>?_) (fun g5=>?_)
  ·replace H:=H.1 g5;refine au (aa ?_);refine aG (fun L' h=>∃ (x0:Option Addr) (x3:Int) (x4:Int),L'=[(0,(.pointer x0)),(3,(.int .i64 x3)),(4,(.int .i64 x4))]∧F.xbd.j2 Q (F.xbd.l1 Q q1) x0 x3 x4 h) ?_ ?_
   ·rintro L' h ⟨x0,x3,x4,rfl,H⟩;unfold F.xbd.j2 at H;refine ai (qm rfl (tq (bE rfl rfl) (qa rfl (nt ?_))));exact ah [(0,(.pointer x0)),(3,(.int .i64 x3)),(4,(.int .i64 (IntKind.wrap .i64 (x4+1))))] ⟨rfl,rfl,rfl,tv⟩ ⟨_,_,_,rfl,H⟩
   ·refine aB (sr (qm rfl ?_));obtain ⟨a6,e7,H⟩:=H;refine tq (bG rfl e7) (tq (ay (off:=1) ZX dc rfl) ?_);obtain ⟨y8,k9,H⟩:=H;refine th (aD Ze rfl) k9 (qm rfl ?_);obtain ⟨a10,e11,H⟩:=H;refine tq (bf (s:=y8) Zf Zy rfl rfl e11) (tq (ay (off:=3) Z4 iO rfl) ?_);obtain ⟨y12,k13,H⟩:=H;refine th (aD ZBL rfl) k13 (tq (bB (ts:=#[]) ZO (o:=y12.ptr) (n:=y12.len) (cap:=y12.cap) rfl) (qm rfl (tq (df rfl rfl) (nt ?_))));refine am rfl (fun g14=>?_) (fun g14=>?_)
    ·replace H:=H.1 g14;refine ai (qm rfl ?_);obtain ⟨a15,e16,H⟩:=H;refine tq (bG rfl e16) (tq (ay (off:=1) ZX dc rfl) ?_);obtain ⟨y17,k18,H⟩:=H;refine th (aD Ze rfl) k18 (qm rfl ?_);obtain ⟨a19,e20,H⟩:=H;refine tq (bf (s:=y17) Zf Zy rfl rfl e20) (tq (ay (off:=3) Z4 iO rfl) ?_);obtain ⟨y21,k22,H⟩:=H;refine th (aD ZBL rfl) k22 (tq (bB (ts:=#[]) ZO (o:=y21.ptr) (n:=y21.len) (cap:=y21.cap) rfl) (qa rfl (bo (aI (aa ?_)))));exact ah [(0,(.pointer x0)),(3,(.int .i64 (y21.len:Int))),(4,(.int .i64 x4))] ⟨rfl,rfl,rfl,tv⟩ ⟨_,_,_,rfl,H⟩
    ·replace H:=H.2 g14;refine au (aI (aa ?_));exact ah [(0,(.pointer x0)),(3,(.int .i64 x3)),(4,(.int .i64 x4))] ⟨rfl,rfl,rfl,tv⟩ ⟨_,_,_,rfl,H⟩
  ·replace H:=H.2 g5;refine bC (aF (aF (bV (aa (sr (qm rfl (qa rfl (nt (al ?_)))))))));exact an rfl rfl ⟨_,rfl,H⟩
def F.xbm.j2 (Q:Int->H->Prop) (C1:(Option Addr)->Int->Int->H->Prop) (x0:Option Addr) (x3:Int) (x4:Int) (h:H):Prop:=
  C1 x0 x3 (IntKind.wrap .i64 (x4+1)) h
def F.xbm.l1 (Q:Int->H->Prop):Nat->(Option Addr)->Int->Int->H->Prop
  | 0,_,_,_,_=>False
  | q1+1,x0,x3,x4,h =>
    nn x0 fun a1 =>
    ldL h (a1.add 0) fun y3 =>
    ((decide (x4<(y3.len:Int)))=true ->
    nn x0 fun a6 =>
    ldL h (a6.add 0) fun y8 =>
    bD y8 x4 1 fun a10 =>
    ldP h a10 fun y12 =>
    F.xbd y12 h fun r15 h14 =>
    ((decide (r15 > x3))=true ->
    nn x0 fun a17 =>
    ldL h14 (a17.add 0) fun y19 =>
    bD y19 x4 1 fun a21 =>
    ldP h14 a21 fun y23 =>
    F.xbd y23 h14 fun r26 h25 =>
    F.xbm.j2 Q (F.xbm.l1 Q q1) x0 r26 x4 h25) ∧
    ((decide (r15 > x3))=false ->
    F.xbm.j2 Q (F.xbm.l1 Q q1) x0 x3 x4 h14)) ∧
    ((decide (x4<(y3.len:Int)))=false ->
    Q x3 h)
def F.xbm (p0:Option Addr) (h:H) (Q:Int->H->Prop):Prop:=
  ∃ m,F.xbm.l1 Q m p0 0 0 h
theorem F.xbm_ok {p0:Option Addr}{h:H}{Q:Int->H->Prop}(H:F.xbm p0 h Q):Fn PP 88 ([(.pointer p0)]:List Value).toArray h fun r h'=>∃ r0,r=(.int .i64 r0)∧Q r0 h':=by
 unfold F.xbm at H;refine aV Tryz.func88 Tryz.ntmps88 rfl rfl fun w0=>(az [(0,(.pointer p0))] ⟨rfl,tv⟩ (sr (qa rfl (nt (sr (qa rfl (nt (aj (aj ?_)))))))));refine ai (qa rfl (nt (aB ?_)));obtain ⟨m27,H⟩:=H;refine az [(0,(.pointer p0)),(3,(.int .i64 0)),(4,(.int .i64 0))] ⟨rfl,rfl,rfl,tv⟩ ?_;refine aY (fun m L' h=>∃ (x0:Option Addr) (x3:Int) (x4:Int),L'=[(0,(.pointer x0)),(3,(.int .i64 x3)),(4,(.int .i64 x4))]∧F.xbm.l1 Q m x0 x3 x4 h) ?_ ?_ m27 ⟨_,_,_,rfl,H⟩
 ·rintro L' h ⟨_,_,_,_,H⟩;exact H
 ·rintro q1 L' h ⟨x0,x3,x4,rfl,H⟩;unfold F.xbm.l1 at H;refine aj (sr (qm rfl (qm rfl ?_)));obtain ⟨a1,e2,H⟩:=H;refine tq (bG rfl e2) (tq (ay (off:=0) Zg dY rfl) ?_);obtain ⟨y3,k4,H⟩:=H;refine th (aD Zk rfl) k4 (tq (bB (ts:=#[]) Zm (o:=y3.ptr) (n:=y3.len) (cap:=y3.cap) rfl) (tq (bN rfl rfl) (nt ?_)));refine am rfl (fun g5=>?_) (fun g5=>?_)
  ·replace H:=H.1 g5;refine au (aa ?_);refine aG (fun L' h=>∃ (x0:Option Addr) (x3:Int) (x4:Int),L'=[(0,(.pointer x0)),(3,(.int .i64 x3)),(4,(.int .i64 x4))]∧F.xbm.j2 Q (F.xbm.l1 Q q1) x0 x3 x4 h) ?_ ?_
   ·rintro L' h ⟨x0,x3,x4,rfl,H⟩;unfold F.xbm.j2 at H;refine ai (qm rfl (tq (bE rfl rfl) (qa rfl (nt ?_))));exact ah [(0,(.pointer x0)),(3,(.int .i64 x3)),(4,(.int .i64 (IntKind.wrap .i64 (x4+1))))] ⟨rfl,rfl,rfl,tv⟩ ⟨_,_,_,rfl,H⟩
   ·refine aB (sr (qm rfl ?_));obtain ⟨a6,e7,H⟩:=H;refine tq (bG rfl e7) (tq (ay (off:=0) Zg dY rfl) ?_);obtain ⟨y8,k9,H⟩:=H;refine th (aD Zk rfl) k9 (qm rfl ?_);obtain ⟨a10,e11,H⟩:=H;refine tq (bf (s:=y8) Zm ZBD rfl rfl e11) ?_;obtain ⟨y12,k13,H⟩:=H;refine th (aD ZBE rfl) k13 (te (av Tryz.call121 rfl (F.xbd_ok H)) ?_);rintro _ h14 ⟨r15,rfl,H⟩;refine qm rfl (tq (df rfl rfl) (nt ?_));refine am rfl (fun g16=>?_) (fun g16=>?_)
    ·replace H:=H.1 g16;refine ai (qm rfl ?_);obtain ⟨a17,e18,H⟩:=H;refine tq (bG rfl e18) (tq (ay (off:=0) Zg dY rfl) ?_);obtain ⟨y19,k20,H⟩:=H;refine th (aD Zk rfl) k20 (qm rfl ?_);obtain ⟨a21,e22,H⟩:=H;refine tq (bf (s:=y19) Zm ZBD rfl rfl e22) ?_;obtain ⟨y23,k24,H⟩:=H;refine th (aD ZBE rfl) k24 (te (av Tryz.call121 rfl (F.xbd_ok H)) ?_);rintro _ h25 ⟨r26,rfl,H⟩;refine qa rfl (bo (aI (aa ?_)));exact ah [(0,(.pointer x0)),(3,(.int .i64 r26)),(4,(.int .i64 x4))] ⟨rfl,rfl,rfl,tv⟩ ⟨_,_,_,rfl,H⟩
    ·replace H:=H.2 g16;refine au (aI (aa ?_));exact ah [(0,(.pointer x0)),(3,(.int .i64 x3)),(4,(.int .i64 x4))] ⟨rfl,rfl,rfl,tv⟩ ⟨_,_,_,rfl,H⟩
  ·replace H:=H.2 g5;refine bC (aF (aF (bV (aa (sr (qm rfl (qa rfl (nt (al ?_)))))))));exact an rfl rfl ⟨_,rfl,H⟩
def F.xcz.l1 (Q:Bool->H->Prop):Nat->(Option Addr)->(Option Addr)->Int->H->Prop
  | 0,_,_,_,_=>False
  | q1+1,x0,x1,x5,h =>
    nn x1 fun a1 =>
    ldL h (a1.add 0) fun y3 =>
    ((decide (x5<=(y3.len:Int)))=true ->
    F.xdf x0 x5 h fun r7 h6 =>
    F.xce x1 x5 h6 fun r9 h8 =>
    (((r7 != r9))=true ->
    Q false h8) ∧
    (((r7 != r9))=false ->
    (F.xcz.l1 Q q1) x0 x1 (IntKind.wrap .i64 (x5+1)) h8)) ∧
    ((decide (x5<=(y3.len:Int)))=false ->
    F.xct x0 h fun r12 h11 =>
    F.xcv x1 h11 fun r14 h13 =>
    (((r12 == r14))=true ->
    F.xcu x0 h13 fun r17 h16 =>
    F.xbm x1 h16 fun r19 h18 =>
    Q ((r17 == r19)) h18) ∧
    (((r12 == r14))=false ->
    Q false h13))
def F.xcz (p0:Option Addr) (p1:Option Addr) (h:H) (Q:Bool->H->Prop):Prop:=
  ∃ m,F.xcz.l1 Q m p0 p1 (-1) h
theorem F.xcz_ok {p0:Option Addr}{p1:Option Addr}{h:H}{Q:Bool->H->Prop}(H:F.xcz p0 p1 h Q):Fn PP 42 ([(.pointer p0),(.pointer p1)]:List Value).toArray h fun r h'=>∃ r0,r=(.bool r0)∧Q r0 h':=by
 unfold F.xcz at H;refine aV Tryz.func42 Tryz.ntmps42 rfl rfl fun w0=>(az [(0,(.pointer p0)),(1,(.pointer p1))] ⟨rfl,rfl,tv⟩ (sr (qa rfl (nt (aj (sr (qa rfl (nt (aB ?_)))))))));obtain ⟨m20,H⟩:=H;refine az [(0,(.pointer p0)),(1,(.pointer p1)),(5,(.int .i64 (-1)))] ⟨rfl,rfl,rfl,tv⟩ ?_;refine aY (fun m L' h=>∃ (x0:Option Addr) (x1:Option Addr) (x5:Int),L'=[(0,(.pointer x0)),(1,(.pointer x1)),(5,(.int .i64 x5))]∧F.xcz.l1 Q m x0 x1 x5 h) ?_ ?_ m20 ⟨_,_,_,rfl,H⟩
 ·rintro L' h ⟨_,_,_,_,H⟩;exact H
 ·rintro q1 L' h ⟨x0,x1,x5,rfl,H⟩;unfold F.xcz.l1 at H;refine aj (sr (qm rfl (qm rfl ?_)));obtain ⟨a1,e2,H⟩:=H;refine tq (bG rfl e2) (tq (ay (off:=0) Zg dY rfl) ?_);obtain ⟨y3,k4,H⟩:=H;refine th (aD Zk rfl) k4 (tq (bB (ts:=#[]) Zm (o:=y3.ptr) (n:=y3.len) (cap:=y3.cap) rfl) (tq (lh rfl rfl) (nt ?_)));refine am rfl (fun g5=>?_) (fun g5=>?_)
  ·replace H:=H.1 g5;refine au (aa (aj (aB (sr (qm rfl (qm rfl (te (av Tryz.call24 rfl (F.xdf_ok H)) ?_)))))));rintro _ h6 ⟨r7,rfl,H⟩;refine qm rfl (qm rfl (te (av Tryz.call86 rfl (F.xce_ok H)) ?_));rintro _ h8 ⟨r9,rfl,H⟩;refine tq (ey rfl rfl) (nt ?_);refine am rfl (fun g10=>?_) (fun g10=>?_)
   ·replace H:=H.1 g10;refine sr (qa rfl (nt (al (aS (aq (aq (aS (aq ?_))))))));exact an rfl rfl ⟨_,rfl,H⟩
   ·replace H:=H.2 g10;refine au (aI (aa (ai (qm rfl (tq (bE rfl rfl) (qa rfl (nt ?_)))))));exact ah [(0,(.pointer x0)),(1,(.pointer x1)),(5,(.int .i64 (IntKind.wrap .i64 (x5+1))))] ⟨rfl,rfl,rfl,tv⟩ ⟨_,_,_,rfl,H⟩
  ·replace H:=H.2 g5;refine bC (aF (aF (bV (aa (sr (qm rfl (te (av Tryz.call32 rfl (F.xct_ok H)) ?_)))))));rintro _ h11 ⟨r12,rfl,H⟩;refine qm rfl (te (av Tryz.call87 rfl (F.xcv_ok H)) ?_);rintro _ h13 ⟨r14,rfl,H⟩;refine tq (ct rfl rfl) (qm rfl ?_);refine aT (t:=27) rfl (fun g15=>?_) (fun g15=>?_)
   ·replace H:=H.1 g15;refine qm rfl (te (av Tryz.call34 rfl (F.xcu_ok H)) ?_);rintro _ h16 ⟨r17,rfl,H⟩;refine qm rfl (te (av Tryz.call88 rfl (F.xbm_ok H)) ?_);rintro _ h18 ⟨r19,rfl,H⟩;refine tq (ct rfl rfl) (tq (aL rfl rfl) (qa rfl (nt (al ?_))));exact an rfl rfl ⟨_,rfl,H⟩
   ·replace H:=H.2 g15;refine ts (ts (ts (ts (ts (tq (aH rfl rfl) (qa rfl (nt (al ?_))))))));exact an rfl rfl ⟨_,rfl,H⟩
def F.xac.j4 (Q:Bool->H->Prop) (C1:Sl->(Option Addr)->(Option Addr)->Int->H->Prop) (x2:Sl) (x7:Option Addr) (x9:Option Addr) (x11:Int) (h:H):Prop:=
  C1 x2 x7 x9 (IntKind.wrap .i64 (x11+1)) h
def F.xac.j5 (Q:Bool->H->Prop) (C1:Sl->(Option Addr)->(Option Addr)->Int->H->Prop) (x2:Sl) (x7:Option Addr) (x9:Option Addr) (x11:Int) (x68:Bool) (h:H):Prop:=
  (x68=true ->
  Q false h) ∧
  (x68=false ->
  F.xac.j4 Q C1 x2 x7 x9 x11 h)
def F.xac.j3 (Q:Bool->H->Prop) (C1:Sl->(Option Addr)->(Option Addr)->Int->H->Prop) (x2:Sl) (x7:Option Addr) (x9:Option Addr) (x11:Int) (h:H):Prop:=
  bD x2 x11 16 fun a8 =>
  iQ h a8 fun y10 =>
  F.xer y10 h fun r13 h12 =>
  (r13=true ->
  bD x2 x11 16 fun a15 =>
  iQ h12 a15 fun y17 =>
  F.xbu x7 x9 y17 h12 fun r20 h19 =>
  ((!r20)=true ->
  F.xac.j5 Q C1 x2 x7 x9 x11 true h19) ∧
  ((!r20)=false ->
  F.xcz x7 x9 h19 fun r23 h22 =>
  F.xac.j5 Q C1 x2 x7 x9 x11 (!r23) h22)) ∧
  (r13=false ->
  F.xac.j5 Q C1 x2 x7 x9 x11 false h12)
def F.xac.j6 (Q:Bool->H->Prop) (C1:Sl->(Option Addr)->(Option Addr)->Int->H->Prop) (x2:Sl) (x7:Option Addr) (x9:Option Addr) (x11:Int) (x45:Bool) (h:H):Prop:=
  (x45=true ->
  F.xac.j3 Q C1 x2 x7 x9 x11 h) ∧
  (x45=false ->
  F.xcc  h fun r26 h25 =>
  Q r26 h25)
def F.xac.l2 (Q:Bool->H->Prop):Nat->Sl->(Option Addr)->(Option Addr)->Int->H->Prop
  | 0,_,_,_,_,_=>False
  | q2+1,x2,x7,x9,x11,h =>
    ((decide (x11<(x2.len:Int)))=true ->
    ((decide (x11<150))=true ->
    F.xac.j6 Q (F.xac.l2 Q q2) x2 x7 x9 x11 (!x9.isNone) h) ∧
    ((decide (x11<150))=false ->
    F.xac.j6 Q (F.xac.l2 Q q2) x2 x7 x9 x11 false h)) ∧
    ((decide (x11<(x2.len:Int)))=false ->
    F.xac.j6 Q (F.xac.l2 Q q2) x2 x7 x9 x11 false h)
def F.xac.j1 (Q:Bool->H->Prop) (x2:Sl) (x7:Option Addr) (x9:Option Addr) (h:H):Prop:=
  ∃ m,F.xac.l2 Q m x2 x7 x9 0 h
def F.xac.j7 (Q:Bool->H->Prop) (x2:Sl) (x7:Option Addr) (x9:Option Addr) (x33:Bool) (h:H):Prop:=
  (x33=true ->
  Q false h) ∧
  (x33=false ->
  F.xac.j1 Q x2 x7 x9 h)
def F.xac (p0:Int) (p1:Int) (p2:Sl) (h:H) (Q:Bool->H->Prop):Prop:=
  F.xaw p0 p1 h fun r2 r3 h1 =>
  F.xbb p0 p1 h1 fun r5 r6 h4 =>
  (((r3 != r6))=true ->
  F.xac.j7 Q p2 r2 r5 true h4) ∧
  (((r3 != r6))=false ->
  F.xac.j7 Q p2 r2 r5 (!(r2.isNone == r5.isNone)) h4)
theorem F.xac_ok {p0:Int}{p1:Int}{p2:Sl}{h:H}{Q:Bool->H->Prop}(H:F.xac p0 p1 p2 h Q):Fn PP 7 ([(.int .i64 p0),(.int .i64 p1),p2.enc]:List Value).toArray h fun r h'=>∃ r0,r=(.bool r0)∧Q r0 h':=by
 unfold F.xac at H;refine aV Tryz.func7 Tryz.ntmps7 rfl rfl fun w0=>(az [(0,(.int .i64 p0)),(1,(.int .i64 p1)),(2,p2.enc)] ⟨rfl,rfl,rfl,tv⟩ (sr (qa rfl (nt (sr (qm rfl (qm rfl (te (av Tryz.call8 rfl (F.xaw_ok H)) ?_))))))));rintro _ h1 ⟨r2,r3,rfl,H⟩;refine qm rfl (tq (bW rfl rfl) (tq (bW rfl rfl) (qa rfl (qa rfl (nt (sr (qm rfl (qm rfl (te (av Tryz.call9 rfl (F.xbb_ok H)) ?_)))))))));rintro _ h4 ⟨r5,r6,rfl,H⟩;refine qm rfl (tq (bW rfl rfl) (tq (bW rfl rfl) (qa rfl (qa rfl (nt ?_)))));refine aG (fun L' h=>∃ (x2:Sl) (x7:Option Addr) (x9:Option Addr),L'=[(2,x2.enc),(7,(.pointer x7)),(9,(.pointer x9))]∧F.xac.j1 Q x2 x7 x9 h) ?_ ?_
 ·rintro L' h ⟨x2,x7,x9,rfl,H⟩;unfold F.xac.j1 at H;refine aj (sr (qa rfl (nt (aB ?_))));obtain ⟨m29,H⟩:=H;refine az [(2,x2.enc),(7,(.pointer x7)),(9,(.pointer x9)),(11,(.int .i64 0))] ⟨rfl,rfl,rfl,rfl,tv⟩ ?_;refine aY (fun m L' h=>∃ (x2:Sl) (x7:Option Addr) (x9:Option Addr) (x11:Int),L'=[(2,x2.enc),(7,(.pointer x7)),(9,(.pointer x9)),(11,(.int .i64 x11))]∧F.xac.l2 Q m x2 x7 x9 x11 h) ?_ ?_ m29 ⟨_,_,_,_,rfl,H⟩
  ·rintro L' h ⟨_,_,_,_,_,H⟩;exact H
  ·rintro q2 L' h ⟨x2,x7,x9,x11,rfl,H⟩;unfold F.xac.l2 at H;refine aG (fun L' h=>∃ (x2:Sl) (x7:Option Addr) (x9:Option Addr) (x11:Int),L'=[(2,x2.enc),(7,(.pointer x7)),(9,(.pointer x9)),(11,(.int .i64 x11))]∧F.xac.j3 Q (F.xac.l2 Q q2) x2 x7 x9 x11 h) ?_ ?_
   ·rintro L' h ⟨x2,x7,x9,x11,rfl,H⟩;unfold F.xac.j3 at H;refine aG (fun L' h=>∃ (x2:Sl) (x7:Option Addr) (x9:Option Addr) (x11:Int),L'=[(2,x2.enc),(7,(.pointer x7)),(9,(.pointer x9)),(11,(.int .i64 x11))]∧F.xac.j4 Q (F.xac.l2 Q q2) x2 x7 x9 x11 h) ?_ ?_
    ·rintro L' h ⟨x2,x7,x9,x11,rfl,H⟩;unfold F.xac.j4 at H;refine ai (qm rfl (tq (bE rfl rfl) (qa rfl (nt ?_))));exact ah [(2,x2.enc),(7,(.pointer x7)),(9,(.pointer x9)),(11,(.int .i64 (IntKind.wrap .i64 (x11+1))))] ⟨rfl,rfl,rfl,rfl,tv⟩ ⟨_,_,_,_,rfl,H⟩
    ·refine aB ?_;refine aG (fun L' h=>∃ (x2:Sl) (x7:Option Addr) (x9:Option Addr) (x11:Int) (x68:Bool),L'=[(2,x2.enc),(7,(.pointer x7)),(9,(.pointer x9)),(11,(.int .i64 x11)),(68,(.bool x68))]∧F.xac.j5 Q (F.xac.l2 Q q2) x2 x7 x9 x11 x68 h) ?_ ?_
     ·rintro L' h ⟨x2,x7,x9,x11,x68,rfl,H⟩;unfold F.xac.j5 at H;refine am rfl (fun g7=>?_) (fun g7=>?_)
      ·replace H:=H.1 g7;refine sr (qa rfl (nt (al (aS (aq (aq (aS (aq ?_))))))));exact an rfl rfl ⟨_,rfl,H⟩
      ·replace H:=H.2 g7;refine au (aI (aa ?_));exact ah [(2,x2.enc),(7,(.pointer x7)),(9,(.pointer x9)),(11,(.int .i64 x11))] ⟨rfl,rfl,rfl,rfl,tv⟩ ⟨_,_,_,_,rfl,H⟩
     ·refine ai (qm rfl (qm rfl ?_));obtain ⟨a8,e9,H⟩:=H;refine tq (bf (s:=x2) Tryz.runUnderlying33 Tryz.sizeOf46 rfl rfl e9) ?_;obtain ⟨y10,k11,H⟩:=H;refine th (aQ Tryz.isAgg46 Tryz.sizeOf46 rfl rfl) k11 (te (av Tryz.call40 rfl (F.xer_ok H)) ?_);rintro _ h12 ⟨r13,rfl,H⟩;refine qm rfl ?_;refine aT (t:=53) rfl (fun g14=>?_) (fun g14=>?_)
      ·replace H:=H.1 g14;refine qm rfl (qm rfl (qm rfl (qm rfl ?_)));obtain ⟨a15,e16,H⟩:=H;refine tq (bf (s:=x2) Tryz.runUnderlying33 Tryz.sizeOf46 rfl rfl e16) ?_;obtain ⟨y17,k18,H⟩:=H;refine th (aQ Tryz.isAgg46 Tryz.sizeOf46 rfl rfl) k18 (te (av Tryz.call41 rfl (F.xbu_ok H)) ?_);rintro _ h19 ⟨r20,rfl,H⟩;refine tq (eI rfl) (qm rfl ?_);refine aT (t:=62) rfl (fun g21=>?_) (fun g21=>?_)
       ·replace H:=H.1 g21;refine ts (ts (ts (ts (tq (aL rfl rfl) (tq (aL rfl rfl) (nt ?_))))));exact ah [(2,x2.enc),(7,(.pointer x7)),(9,(.pointer x9)),(11,(.int .i64 x11)),(68,(.bool true))] ⟨rfl,rfl,rfl,rfl,rfl,tv⟩ ⟨_,_,_,_,_,rfl,H⟩
       ·replace H:=H.2 g21;refine qm rfl (qm rfl (te (av Tryz.call42 rfl (F.xcz_ok H)) ?_));rintro _ h22 ⟨r23,rfl,H⟩;refine tq (eI rfl) (tq (aH rfl rfl) (tq (aL rfl rfl) (nt ?_)));exact ah [(2,x2.enc),(7,(.pointer x7)),(9,(.pointer x9)),(11,(.int .i64 x11)),(68,(.bool (!r23)))] ⟨rfl,rfl,rfl,rfl,rfl,tv⟩ ⟨_,_,_,_,_,rfl,H⟩
      ·replace H:=H.2 g14;refine ts (ts (ts (ts (ts (ts (ts (ts (ts (ts (ts (ts (ts (ts ?_)))))))))))));refine tq (aH rfl rfl) (nt ?_);exact ah [(2,x2.enc),(7,(.pointer x7)),(9,(.pointer x9)),(11,(.int .i64 x11)),(68,(.bool false))] ⟨rfl,rfl,rfl,rfl,rfl,tv⟩ ⟨_,_,_,_,_,rfl,H⟩
   ·refine aG (fun L' h=>∃ (x2:Sl) (x7:Option Addr) (x9:Option Addr) (x11:Int) (x45:Bool),L'=[(2,x2.enc),(7,(.pointer x7)),(9,(.pointer x9)),(11,(.int .i64 x11)),(45,(.bool x45))]∧F.xac.j6 Q (F.xac.l2 Q q2) x2 x7 x9 x11 x45 h) ?_ ?_
    ·rintro L' h ⟨x2,x7,x9,x11,x45,rfl,H⟩;unfold F.xac.j6 at H;refine am rfl (fun g24=>?_) (fun g24=>?_)
     ·replace H:=H.1 g24;refine au (aa ?_);exact ah [(2,x2.enc),(7,(.pointer x7)),(9,(.pointer x9)),(11,(.int .i64 x11))] ⟨rfl,rfl,rfl,rfl,tv⟩ ⟨_,_,_,_,rfl,H⟩
     ·replace H:=H.2 g24;refine bC (aF (aF (bV (aa (sr (te (av Tryz.call12 rfl (F.xcc_ok H)) ?_))))));rintro _ h25 ⟨r26,rfl,H⟩;refine qa rfl (nt (al ?_));exact an rfl rfl ⟨_,rfl,H⟩
    ·refine ai (qm rfl (qm rfl (tq (bB (ts:=#[]) Tryz.runUnderlying33 (o:=x2.ptr) (n:=x2.len) (cap:=x2.cap) rfl) (tq (bN rfl rfl) (qm rfl ?_)))));refine aT (t:=38) rfl (fun g27=>?_) (fun g27=>?_)
     ·replace H:=H.1 g27;refine qm rfl (tq (bN rfl rfl) (tq (aL rfl rfl) (qm rfl ?_)));refine aT (t:=42) rfl (fun g28=>?_) (fun g28=>?_)
      ·replace H:=H.1 g28;refine qm rfl (tq (mW Tryz.runUnderlying27 rfl rfl) (tq (aL rfl rfl) (nt ?_)));exact ah [(2,x2.enc),(7,(.pointer x7)),(9,(.pointer x9)),(11,(.int .i64 x11)),(45,(.bool (!x9.isNone)))] ⟨rfl,rfl,rfl,rfl,rfl,tv⟩ ⟨_,_,_,_,_,rfl,H⟩
      ·replace H:=H.2 g28;refine ts (ts (tq (aH rfl rfl) (nt ?_)));exact ah [(2,x2.enc),(7,(.pointer x7)),(9,(.pointer x9)),(11,(.int .i64 x11)),(45,(.bool false))] ⟨rfl,rfl,rfl,rfl,rfl,tv⟩ ⟨_,_,_,_,_,rfl,H⟩
     ·replace H:=H.2 g27;refine ts (ts (tq (aH rfl rfl) (qm rfl (ts (ts (tq (aH rfl rfl) (nt ?_)))))));exact ah [(2,x2.enc),(7,(.pointer x7)),(9,(.pointer x9)),(11,(.int .i64 x11)),(45,(.bool false))] ⟨rfl,rfl,rfl,rfl,rfl,tv⟩ ⟨_,_,_,_,_,rfl,H⟩
 ·refine aG (fun L' h=>∃ (x2:Sl) (x7:Option Addr) (x9:Option Addr) (x33:Bool),L'=[(2,x2.enc),(7,(.pointer x7)),(9,(.pointer x9)),(33,(.bool x33))]∧F.xac.j7 Q x2 x7 x9 x33 h) ?_ ?_
  ·rintro L' h ⟨x2,x7,x9,x33,rfl,H⟩;unfold F.xac.j7 at H;refine am rfl (fun g30=>?_) (fun g30=>?_)
   ·replace H:=H.1 g30;refine sr (qa rfl (nt (al (aq ?_))));exact an rfl rfl ⟨_,rfl,H⟩
   ·replace H:=H.2 g30;refine au (aa ?_);exact ah [(2,x2.enc),(7,(.pointer x7)),(9,(.pointer x9))] ⟨rfl,rfl,rfl,tv⟩ ⟨_,_,_,rfl,H⟩
  ·refine ai (qm rfl (qm rfl (tq (ey rfl rfl) (qm rfl ?_))));refine aT (t:=27) rfl (fun g31=>?_) (fun g31=>?_)
   ·replace H:=H.1 g31;refine ts (ts (ts (ts (ts (tq (aL rfl rfl) (nt ?_))))));exact ah [(2,p2.enc),(7,(.pointer r2)),(9,(.pointer r5)),(33,(.bool true))] ⟨rfl,rfl,rfl,rfl,tv⟩ ⟨_,_,_,_,rfl,H⟩
   ·replace H:=H.2 g31;refine qm rfl (tq (iG Tryz.runUnderlying23 rfl rfl) (qm rfl (tq (iG Tryz.runUnderlying27 rfl rfl) (tq (wQ ZBQ rfl rfl) (tq (aH rfl rfl) (nt ?_))))));exact ah [(2,p2.enc),(7,(.pointer r2)),(9,(.pointer r5)),(33,(.bool (!(r2.isNone == r5.isNone))))] ⟨rfl,rfl,rfl,rfl,tv⟩ ⟨_,_,_,_,rfl,H⟩
set_option linter.unusedSimpArgs false
abbrev Cel:=ae
theorem oi (b:UInt8):∀ v∈cU b,v.oneCell'=true:=de rfl
theorem Blk.cells3 {h:H}{n:Nat}{c:Cel}{e:TypeId}(k:Blk h n c.cells.toArray e):Cells h ⟨n,0,none⟩ c.cells:=fun j v hv=>by rw [aC,Nat.zero_add];exact k.cell (by simpa using hv)
def jI (c:Cel):Int:=if c.View<0∨c.View > 4 then 23 else if (c.Key.size:Int) > 32 then 21 else if c.Start < -2305843009213693952∨c.Start > 2305843009213693952 then 22 else 0
theorem sK {h:H}{c:Cel}{Q:Int->H->Prop}(k:∀ h',Ext h h'->Q (jI c) h'):F.xbo c h Q:=by
 unfold F.xbo
 refine aN fun n h1 e1 e2 e3 e4=>?_
 have k:=k h1 e3
 unfold jI at k
 simp only [F.xbo.j1,F.xbo.j2,aC,Nat.zero_add,bA (e2.cell (i:=0) (v:=.int .i64 c.View) rfl),eP (e2.cell (i:=1) (v:=.string c.Key) rfl),bA (e2.cell (i:=2) (v:=.int .i64 c.Start) rfl),decide_eq_true_eq,decide_eq_false_iff_not]
 have hb:¬ (c.View<0∨c.View > 4)->((c.Key.size:Int) > 32->Q 21 h1)∧(¬ (c.Key.size:Int) > 32->(c.Start < -2305843009213693952->(True->Q 22 h1)∧(true=false->Q 0 h1))∧(¬ c.Start < -2305843009213693952->(c.Start > 2305843009213693952->Q 22 h1)∧(¬ c.Start > 2305843009213693952->Q 0 h1))):=fun g=>by
  rw [if_neg g] at k
  refine ⟨fun g1=>by rw [if_pos g1] at k;exact k,fun g1=>?_⟩
  rw [if_neg g1] at k
  refine ⟨fun g2=>⟨fun _=>by rw [if_pos (.inl g2)] at k;exact k,fun h=>by cases h⟩,fun g2=>⟨fun g3=>by rw [if_pos (.inr g3)] at k;exact k,fun g3=>by rw [if_neg (by omega)] at k;exact k⟩⟩
 refine ⟨fun g=>⟨fun _=>by rw [if_pos (.inl g)] at k;exact k,fun h=>by cases h⟩,fun g=>⟨fun g2=>by rw [if_pos (.inr g2)] at k;exact k,fun g2=>hb (by omega)⟩⟩
def gT:List UInt8->List UInt8
 | []=>[]
 | b :: r=>if b=0 then 0 :: 255 :: gT r else b :: gT r
theorem se (b:UInt8):∀ l,gT (l ++ [b])=gT l ++ (if b=0 then [0,255] else [b])
 | []=>by by_cases h:b=0 <;> simp [gT,h]
 | x :: r=>by simp only [List.cons_append,gT,se b r];split <;> simp
theorem nu:∀ l:List UInt8,(gT l).length<=2*l.length
 | []=>by simp [gT]
 | b :: r=>by have:=nu r;simp only [gT];split <;> simp <;> omega
def beT (u:Nat):Nat->List UInt8
 | 0=>[]
 | j+1=>UInt8.ofNat (u / 2 ^ (8*j)) :: beT u j
theorem pL (u:Nat):∀ j,(beT u j).length=j
 | 0=>rfl
 | j+1=>by simp [beT,pL u j]
def upU (n:Int):Nat:=(IntKind.wrap .u64 (IntKind.wrap .u64 n+9223372036854775808)).toNat
def kq (c:Cel):List UInt8:=UInt8.ofNat c.View.toNat :: (gT c.Key.data.toList ++ [0,1] ++ beT (upU c.Start) 8)
theorem cg (n:Int):IntKind.wrap .u64 n=n % 18446744073709551616:=by
 unfold IntKind.wrap;simp [IntKind.bits,IntKind.signed]
theorem B6 (n:Int):IntKind.wrap .u8 n=n % 256:=by
 unfold IntKind.wrap;simp [IntKind.bits,IntKind.signed]
theorem AZ (n:Int):((upU n:Nat):Int)=IntKind.wrap .u64 (IntKind.wrap .u64 n+9223372036854775808):=by
 unfold upU
 rw [Int.toNat_of_nonneg]
 rw [cg];omega
theorem zO (u i:Nat):Int.fdiv (u:Int) (2 ^ i:Int)=((u / 2 ^ i:Nat):Int):=by
 have e:(2 ^ i:Int)=((2 ^ i:Nat):Int):=by simp
 rw [e,Int.ofNat_fdiv]
theorem Cu (n:Nat):((UInt8.ofNat n).toNat:Int)=IntKind.wrap .u8 (n:Int):=by
 rw [B6];simp
theorem uO {h0:H}{u:Nat}{Q:ByteArray->Int->H->Prop}{L0:List UInt8}(hL0:L0.length<=1000) (k:∀ h',Ext h0 h'->Q ⟨(L0 ++ beT u 8).toArray⟩ 0 h') :
  ∀ (j m:Nat) (h:H) (s:Sl) (L:List UInt8),j<=8->j<m->Ext h0 h->aU h s 5 1 (L.flatMap cU)->dL h0 s->L ++ beT u j=L0 ++ beT u 8->F.xbk.l2 Q m s (u:Int) (8*(j:Int)-8) h
 | j,0,h,s,L,_,hm,_,_,_,_=>by omega
 | j,m+1,h,s,L,hj,hm,e0,ow,mi,hL=>by
  unfold F.xbk.l2
  simp only [decide_eq_true_eq,decide_eq_false_iff_not]
  have hlen:L.length+j=L0.length+8:=by have:=congrArg List.length hL;simpa [pL] using this
  refine ⟨fun g=>⟨g,?_⟩,fun g=>?_⟩
  ·obtain ⟨i,rfl⟩:∃ i,j=i+1:=⟨j-1,by omega⟩
   have hb:IntKind.wrap .u8 (Int.fdiv (u:Int) (2 ^ (min (8*((i+1:Nat):Int)-8).toNat (IntKind.bits .u64)):Int))=((UInt8.ofNat (u / 2 ^ (8*i))).toNat:Int):=by
    rw [Cu,show (8*((i+1:Nat):Int)-8).toNat=8*i from by omega,show min (8*i) (IntKind.bits .u64)=8*i from by simp [IntKind.bits];omega]
    rw [zO]
   rw [hb]
   refine eA (f:=cU) (UInt8.ofNat (u / 2 ^ (8*i))) e0 mi ip (by omega) fj ow oi (by omega) fun r h1 q1 q2 q3 q4 q5=>?_
   rw [w64 (by omega) (by omega),show 8*((i+1:Nat):Int)-8-8=8*(i:Int)-8 from by omega]
   refine uO hL0 k i m h1 r _ (by omega) (by omega) q2 q1 q3 ?_
   rw [← hL];simp [beT]
  ·have:j=0:=by omega
   subst this
   refine xb (l:=L) fj.slice ZBT ZBF ow.reads ?_
   have:L=L0 ++ beT u 8:=by simpa [beT] using hL
   rw [this];exact k h e0
theorem qG {h0:H}{c:Cel}{n:Nat}{Q:ByteArray->Int->H->Prop}{pre:UInt8}(hk:c.Key.size<=32) (k:∀ h',Ext h0 h'->Q ⟨(pre :: (gT c.Key.data.toList ++ [0,1] ++ beT (upU c.Start) 8)).toArray⟩ 0 h') (hn:h0.size<=n) :
  ∀ (m i:Nat) (h:H) (s:Sl),i<=c.Key.size->c.Key.size-i<m->Ext h0 h->Blk h n c.cells.toArray aJ->n<h.size->aU h s 5 1 ((pre :: gT (c.Key.data.toList.take i)).flatMap cU)->dL h0 s->s.blk≠some n ->
  F.xbk.l1 Q m ⟨n,0,none⟩ s (c.Key.size:Int) (i:Int) h
 | 0,i,h,s,_,hm,_,_,_,_,_,_=>by omega
 | m+1,i,h,s,hi,hm,e0,bl,hnl,ow,mi,hne=>by
  unfold F.xbk.l1
  simp only [decide_eq_true_eq,decide_eq_false_iff_not,aC,Nat.zero_add]
  have hel:=nu (c.Key.data.toList.take i)
  rw [List.length_take,← dC] at hel
  refine ⟨fun g=>?_,fun g=>?_⟩
  ·rw [eP (bl.cell (i:=1) (v:=.string c.Key) rfl)]
   obtain ⟨b,hb⟩:∃ b,c.Key.data.toList[i]?=some b:=⟨_,List.getElem?_eq_getElem (by rw [← dC];omega)⟩
   refine jf hb rfl ?_
   have htk:gT (c.Key.data.toList.take (i+1))=gT (c.Key.data.toList.take i) ++ (if b=0 then [0,255] else [b]):=by rw [List.take_add_one,hb];exact se b _
   refine eA (f:=cU) b e0 mi ip (by omega) fj ow oi (by simp;omega) fun r h1 q1 q2 q3 q4 q5=>?_
   have bl1:Blk h1 n c.cells.toArray aJ:=q4.block bl hne
   have hg1:=q4.size
   have hne1:r.blk≠some n:=by
    rcases q5 with q5 | ⟨x,q5,q6⟩
    ·rw [q5];exact hne
    ·rw [q5];intro e;cases e;omega
   rw [eP (bl1.cell (i:=1) (v:=.string c.Key) rfl)]
   refine jf hb rfl ?_
   have hw:IntKind.wrap .i64 ((i:Int)+1)=((i+1:Nat):Int):=by rw [w64 (by omega) (by omega)];omega
   rw [hw,beq_iff_eq,beq_eq_false_iff_ne]
   have hb0:(b.toNat:Int)=0↔b=0:=by
    constructor
    ·intro h;exact UInt8.toNat_inj.1 (by simpa using (by omega:b.toNat=0))
    ·intro h;subst h;rfl
   rw [hb0,Ne,hb0]
   refine ⟨fun g2=>?_,fun g2=>?_⟩
   ·refine eA (f:=cU) 255 q2 q3 ip (by omega) fj q1 oi (by simp;omega) fun r2 h2 p1 p2 p3 p4 p5=>?_
    have hne2:r2.blk≠some n:=by
     rcases p5 with p5 | ⟨x,p5,p6⟩
     ·rw [p5];exact hne1
     ·rw [p5];intro e;cases e;omega
    refine qG hk k hn m (i+1) h2 r2 (by omega) (by omega) p2 (p4.block bl1 hne1) (by have:=p4.size;omega) ?_ p3 hne2
    rw [htk,if_pos g2];subst g2;simpa using p1
   ·refine qG hk k hn m (i+1) h1 r (by omega) (by omega) q2 bl1 (by omega) ?_ q3 hne1
    rw [htk,if_neg g2];simpa using q1
  ·have hii:i=c.Key.size:=by omega
   subst hii
   refine dT fun x h1 e1 e2 e3 e4=>?_
   refine fJ (f:=cU) (M:=[0,1]) (e0.trans e3) mi ip (by omega) fj (ow.ext e3) (dB (show Blk h1 x (([0,1]:List UInt8).flatMap cU).toArray 5 from e2) rfl) oi (by simp;omega) fun r h2 q1 q2 q3 q4 q5=>?_
   have bl1:Blk h2 n c.cells.toArray aJ:=q4.block (e3.block bl (fun f=>f)) hne
   rw [bA (bl1.cell (i:=2) (v:=.int .i64 c.Start) rfl),← AZ]
   refine ⟨9,?_⟩
   have ht:c.Key.data.toList.take c.Key.size=c.Key.data.toList:=List.take_of_length_le (by rw [← dC];omega)
   rw [ht] at q1
   have hl2:=nu c.Key.data.toList
   rw [← dC] at hl2
   refine uO (L0:=pre :: (gT c.Key.data.toList ++ [0,1])) (by simp;omega) (by simpa using k) 8 9 h2 r _ (by omega) (by omega) q2 q1 q3 (by simp)
theorem zl {h:H}{c:Cel}{Q:ByteArray->Int->H->Prop}(k0:jI c≠0->∀ h',Ext h h'->Q ⟨#[]⟩ (jI c) h') (k1:jI c=0->∀ h',Ext h h'->Q ⟨(kq c).toArray⟩ 0 h'):F.xbk c h Q:=by
 unfold F.xbk
 refine aN fun n h1 e1 e2 e3 e4=>?_
 refine ⟨c,e2.cells3,sK fun h2 f1=>?_⟩
 have e5:=e3.trans f1
 have bl:Blk h2 n c.cells.toArray aJ:=f1.block e2 (fun f=>f)
 refine ⟨fun g=>k0 (by simpa using g) h2 e5,fun g=>?_⟩
 have hm:jI c=0:=by simpa using g
 simp only [aC,Nat.zero_add]
 rw [bA (bl.cell (i:=0) (v:=.int .i64 c.View) rfl)]
 have hv:0<=c.View∧c.View<=4∧c.Key.size<=32:=by
  unfold jI at hm
  split at hm
  ·omega
  ·split at hm
   ·omega
   ·omega
 have hw:IntKind.wrap .u8 c.View=((UInt8.ofNat c.View.toNat).toNat:Int):=by rw [Cu,Int.toNat_of_nonneg hv.1]
 rw [hw]
 refine dT fun x h3 g1 g2 g3 g4=>?_
 have bl3:Blk h3 n c.cells.toArray aJ:=g3.block bl (fun f=>f)
 rw [eP (bl3.cell (i:=1) (v:=.string c.Key) rfl)]
 have hs:=e5.size
 have hs3:=e3.size
 have hf1:=f1.size
 refine ⟨c.Key.size+1,?_⟩
 refine qG (h0:=h) (pre:=UInt8.ofNat c.View.toNat) hv.2.2 (fun h' e=>k1 hm h' e) (by omega) _ 0 h3 _ (by omega) (by omega) (e5.trans g3) bl3 (by omega) (show aU h3 ⟨some ⟨x,0,none⟩,1,1⟩ 5 1 [.int .u8 ((UInt8.ofNat c.View.toNat).toNat:Int)] from uy (m:=1) g2 rfl (by simp [maxLen])) (fun b hb=>by simp [Sl.blk] at hb;omega) (by simp [Sl.blk];omega)
end Go.Proofs.YtjjchpaomgmmdaaGreat.V
