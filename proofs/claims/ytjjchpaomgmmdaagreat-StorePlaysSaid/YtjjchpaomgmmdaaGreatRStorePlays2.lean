/- Parts of the proof of StorePlays; no condition. -/
import Derived.Test.YtjjchpaomgmmdaaGreatRStorePlays1
namespace Go.Proofs.YtjjchpaomgmmdaaGreat.V
open Go
set_option linter.unusedVariables false
set_option maxRecDepth 100000
def F.xfm (p0:ByteArray) (p1:ByteArray) (h:H) (Q:Int->H->Prop):Prop:=
  F.xfi p0 p1 h fun r2 h1 =>
  Q r2 h1
theorem F.xfm_ok {p0:ByteArray}{p1:ByteArray}{h:H}{Q:Int->H->Prop}(H:F.xfm p0 p1 h Q):Fn PP 49 ([(.string p0),(.string p1)]:List Value).toArray h fun r h'=>∃ r0,r=(.int .i64 r0)∧Q r0 h':=by
 unfold F.xfm at H;refine aV Tryz.func49 Tryz.ntmps49 rfl rfl fun w0=>(az [(0,(.string p0)),(1,(.string p1))] ⟨rfl,rfl,tv⟩ (sr (qa rfl (nt (sr (qm rfl (qm rfl (te (av Tryz.call90 rfl (F.xfi_ok H)) ?_))))))));rintro _ h1 ⟨r2,rfl,H⟩;refine qa rfl (nt (al ?_));exact an rfl rfl ⟨_,rfl,H⟩
def F.xed (p0:Int) (h:H) (Q:Bool->H->Prop):Prop:=
  Q ((p0 != p0)) h
theorem F.xed_ok {p0:Int}{h:H}{Q:Bool->H->Prop}(H:F.xed p0 h Q):Fn PP 91 ([(.int .i64 p0)]:List Value).toArray h fun r h'=>∃ r0,r=(.bool r0)∧Q r0 h':=by
 unfold F.xed at H;refine aV Tryz.func91 Tryz.ntmps91 rfl rfl fun w0=>(az [(0,(.int .i64 p0))] ⟨rfl,tv⟩ (sr (qa rfl (nt (sr (qm rfl (qm rfl (tq (ey rfl rfl) (qa rfl (bo ?_))))))))));refine aa (al ?_);exact an rfl rfl ⟨_,rfl,H⟩
def F.xet (p0:Int) (p1:Int) (h:H) (Q:Int->H->Prop):Prop:=
  F.xed p0 h fun r2 h1 =>
  F.xed p1 h1 fun r4 h3 =>
  (r2=true ->
  (r4=true ->
  Q 0 h3) ∧
  (r4=false ->
  Q (-1) h3)) ∧
  (r2=false ->
  (r4=true ->
  Q 1 h3) ∧
  (r4=false ->
  ((decide (p0<p1))=true ->
  Q (-1) h3) ∧
  ((decide (p0<p1))=false ->
  ((decide (p0 > p1))=true ->
  Q 1 h3) ∧
  ((decide (p0 > p1))=false ->
  Q 0 h3))))
theorem F.xet_ok {p0:Int}{p1:Int}{h:H}{Q:Int->H->Prop}(H:F.xet p0 p1 h Q):Fn PP 50 ([(.int .i64 p0),(.int .i64 p1)]:List Value).toArray h fun r h'=>∃ r0,r=(.int .i64 r0)∧Q r0 h':=by
 unfold F.xet at H;refine aV Tryz.func50 Tryz.ntmps50 rfl rfl fun w0=>(az [(0,(.int .i64 p0)),(1,(.int .i64 p1))] ⟨rfl,rfl,tv⟩ (sr (qa rfl (nt (sr (qm rfl (te (av Tryz.call91 rfl (F.xed_ok H)) ?_)))))));rintro _ h1 ⟨r2,rfl,H⟩;refine qa rfl (nt (sr (qm rfl (te (av Tryz.call91 rfl (F.xed_ok H)) ?_))));rintro _ h3 ⟨r4,rfl,H⟩;refine qa rfl (nt (aj (sr (qm rfl (nt ?_)))));refine am rfl (fun g5=>?_) (fun g5=>?_)
 ·replace H:=H.1 g5;refine aj (sr (qm rfl (nt ?_)));refine am rfl (fun g6=>?_) (fun g6=>?_)
  ·replace H:=H.1 g6;refine sr (qa rfl (nt (al (aq (aq ?_)))));exact an rfl rfl ⟨_,rfl,H⟩
  ·replace H:=H.2 g6;refine au (aa (sr (qa rfl (nt (al (aq ?_))))));exact an rfl rfl ⟨_,rfl,H⟩
 ·replace H:=H.2 g5;refine au (aa (aj (sr (qm rfl (nt ?_)))));refine am rfl (fun g7=>?_) (fun g7=>?_)
  ·replace H:=H.1 g7;refine sr (qa rfl (nt (al (aq ?_))));exact an rfl rfl ⟨_,rfl,H⟩
  ·replace H:=H.2 g7;refine au (aa (aj (sr (qm rfl (qm rfl (tq (bN rfl rfl) (nt ?_)))))));refine am rfl (fun g8=>?_) (fun g8=>?_)
   ·replace H:=H.1 g8;refine sr (qa rfl (nt (al (aq ?_))));exact an rfl rfl ⟨_,rfl,H⟩
   ·replace H:=H.2 g8;refine au (aa (aj (sr (qm rfl (qm rfl (tq (df rfl rfl) (nt ?_)))))));refine am rfl (fun g9=>?_) (fun g9=>?_)
    ·replace H:=H.1 g9;refine sr (qa rfl (nt (al (aq ?_))));exact an rfl rfl ⟨_,rfl,H⟩
    ·replace H:=H.2 g9;refine au (aa (sr (qa rfl (nt (al ?_)))));exact an rfl rfl ⟨_,rfl,H⟩
def F.xbg.l1 (Q:Int->H->Prop):Nat->Int->Sl->Int->Int->H->Prop
  | 0,_,_,_,_,_=>False
  | q1+1,x3,x6,x7,x8,h =>
    ((decide (x8<x7))=true ->
    bD x6 x8 1 fun a2 =>
    ldI .i64 h a2 fun y4 =>
    (((y4 != x3))=true ->
    Q y4 h) ∧
    (((y4 != x3))=false ->
    (F.xbg.l1 Q q1) x3 x6 x7 (IntKind.wrap .i64 (x8+1)) h)) ∧
    ((decide (x8<x7))=false ->
    Q x3 h)
def F.xbg (p0:Sl) (h:H) (Q:Int->H->Prop):Prop:=
  ∃ m,F.xbg.l1 Q m 0 p0 (p0.len:Int) 0 h
theorem F.xbg_ok {p0:Sl}{h:H}{Q:Int->H->Prop}(H:F.xbg p0 h Q):Fn PP 47 ([p0.enc]:List Value).toArray h fun r h'=>∃ r0,r=(.int .i64 r0)∧Q r0 h':=by
 unfold F.xbg at H;refine aV Tryz.func47 Tryz.ntmps47 rfl rfl fun w0=>(az [(0,p0.enc)] ⟨rfl,tv⟩ (sr (qa rfl (nt (sr (qa rfl (nt (aj (aj ?_)))))))));refine ai (qm rfl (tq (bB (ts:=#[]) ZY (o:=p0.ptr) (n:=p0.len) (cap:=p0.cap) rfl) (qm rfl (nt (aB ?_)))));obtain ⟨m7,H⟩:=H;refine az [(3,(.int .i64 0)),(6,p0.enc),(7,(.int .i64 (p0.len:Int))),(8,(.int .i64 0))] ⟨rfl,rfl,rfl,rfl,tv⟩ ?_;refine aY (fun m L' h=>∃ (x3:Int) (x6:Sl) (x7:Int) (x8:Int),L'=[(3,(.int .i64 x3)),(6,x6.enc),(7,(.int .i64 x7)),(8,(.int .i64 x8))]∧F.xbg.l1 Q m x3 x6 x7 x8 h) ?_ ?_ m7 ⟨_,_,_,_,rfl,H⟩
 ·rintro L' h ⟨_,_,_,_,_,H⟩;exact H
 ·rintro q1 L' h ⟨x3,x6,x7,x8,rfl,H⟩;unfold F.xbg.l1 at H;refine sr (tq (bN rfl rfl) (nt (aj ?_)));refine am rfl (fun g1=>?_) (fun g1=>?_)
  ·replace H:=H.1 g1;refine au (aa (aj (aB (sr ?_))));obtain ⟨a2,e3,H⟩:=H;refine tq (bf (s:=x6) ZY ZQ rfl rfl e3) ?_;obtain ⟨y4,k5,H⟩:=H;refine th (aD ZC rfl) k5 (qa rfl (nt (sr (qm rfl (qm rfl (tq (ey rfl rfl) (nt ?_)))))));refine am rfl (fun g6=>?_) (fun g6=>?_)
   ·replace H:=H.1 g6;refine sr (qm rfl (qa rfl (nt (al (aS (aq (aq (aS (aq ?_)))))))));exact an rfl rfl ⟨_,rfl,H⟩
   ·replace H:=H.2 g6;refine au (aI (aa (ai (tq (bE rfl rfl) (qm rfl (nt ?_))))));exact ah [(3,(.int .i64 x3)),(6,x6.enc),(7,(.int .i64 x7)),(8,(.int .i64 (IntKind.wrap .i64 (x8+1))))] ⟨rfl,rfl,rfl,rfl,tv⟩ ⟨_,_,_,_,rfl,H⟩
  ·replace H:=H.2 g1;refine bC (aF (aF (bV (aa (sr (qm rfl (qa rfl (nt (al ?_)))))))));exact an rfl rfl ⟨_,rfl,H⟩
def F.xdi (p0:ae) (p1:ae) (h:H) (Q:Int->H->Prop):Prop:=
  new h p0.cells.toArray cH fun a2 h1 =>
  new h1 p1.cells.toArray cH fun a4 h3 =>
  ldI .i64 h3 (a2.add 0) fun y5 =>
  ldI .i64 h3 (a4.add 0) fun y7 =>
  ldS h3 (a2.add 1) fun y9 =>
  ldS h3 (a4.add 1) fun y11 =>
  ldI .i64 h3 (a2.add 2) fun y13 =>
  ldI .i64 h3 (a4.add 2) fun y15 =>
  F.xcm y5 y7 h3 fun r18 h17 =>
  aA h17 (a4.add 2)=some (.int .i64 y15) ∧
  aA h17 (a2.add 2)=some (.int .i64 y13) ∧
  aA h17 (a4.add 1)=some (.string y11) ∧
  aA h17 (a2.add 1)=some (.string y9) ∧
  F.xfm y9 y11 h17 fun r24 h23 =>
  aA h23 (a4.add 2)=some (.int .i64 y15) ∧
  aA h23 (a2.add 2)=some (.int .i64 y13) ∧
  F.xet y13 y15 h23 fun r28 h27 =>
  fv h27 #[(.int .i64 r18),(.int .i64 r24),(.int .i64 r28)] rL 3 fun s30 h29 =>
  F.xbg s30 h29 fun r32 h31 =>
  Q r32 h31
theorem F.xdi_ok {p0:ae}{p1:ae}{h:H}{Q:Int->H->Prop}(H:F.xdi p0 p1 h Q):Fn PP 17 ([(.agg p0.cells.toArray),(.agg p1.cells.toArray)]:List Value).toArray h fun r h'=>∃ r0,r=(.int .i64 r0)∧Q r0 h':=by
 unfold F.xdi at H;refine aV Tryz.func17 Tryz.ntmps17 rfl rfl fun w0=>(az [(0,(.agg p0.cells.toArray)),(1,(.agg p1.cells.toArray))] ⟨rfl,rfl,tv⟩ (sr (te (cb (cs:=p0.cells.toArray) rfl rfl H) ?_)));rintro _ h1 ⟨a2,rfl,H⟩;refine te (cb (cs:=p1.cells.toArray) rfl rfl H) ?_;rintro _ h3 ⟨a4,rfl,H⟩;refine qa rfl (nt (aj (bv mixed [0,1,0,4,15,0,32,0,128,511,0,1024,0,4096,16383,32767,65535,131071] (by kernel_rfl) (gq 0 1 rfl (ay (off:=0) ZH fS rfl) ?_))));obtain ⟨y5,k6,H⟩:=H;refine gh 1 3 rfl (aD ZC rfl) k6 (gq 2 7 rfl (ay (off:=0) ZH fS rfl) ?_);obtain ⟨y7,k8,H⟩:=H;refine gh 3 15 rfl (aD ZC rfl) k8 (gq 5 47 rfl (ay (off:=1) ZH dS rfl) ?_);obtain ⟨y9,k10,H⟩:=H;refine gh 6 111 rfl (aD ZP rfl) k10 (gq 7 239 rfl (ay (off:=1) ZH dS rfl) ?_);obtain ⟨y11,k12,H⟩:=H;refine gh 8 495 rfl (aD ZP rfl) k12 (gq 10 1519 rfl (ay (off:=2) ZH gA rfl) ?_);obtain ⟨y13,k14,H⟩:=H;refine gh 11 3567 rfl (aD ZE rfl) k14 (gq 12 7663 rfl (ay (off:=2) ZH gA rfl) ?_);obtain ⟨y15,k16,H⟩:=H;refine gh 13 15855 rfl (aD ZE rfl) k16 (g_e 4 15871 [(13,fun h=>aA h (a4.add 2)=some (.int .i64 y15)),(11,fun h=>aA h (a2.add 2)=some (.int .i64 y13)),(8,fun h=>aA h (a4.add 1)=some (.string y11)),(6,fun h=>aA h (a2.add 1)=some (.string y9))] (by kernel_rfl) rfl (by kernel_rfl) (av Tryz.call48 rfl (F.xcm_ok H)) rfl rfl ?_);rintro _ h17 ⟨r18,rfl,H⟩;obtain ⟨k19,k20,k21,k22,H⟩:=H;refine ⟨And.intro k19 (And.intro k20 (And.intro k21 (And.intro k22 trivial))),?_⟩;refine g_e 9 16383 [(13,fun h=>aA h (a4.add 2)=some (.int .i64 y15)),(11,fun h=>aA h (a2.add 2)=some (.int .i64 y13))] (by kernel_rfl) rfl (by kernel_rfl) (av Tryz.call49 rfl (F.xfm_ok H)) rfl rfl ?_;rintro _ h23 ⟨r24,rfl,H⟩;obtain ⟨k25,k26,H⟩:=H;refine ⟨And.intro k25 (And.intro k26 trivial),?_⟩;refine g_e 14 32767 [] (by kernel_rfl) rfl (by kernel_rfl) (av Tryz.call50 rfl (F.xet_ok H)) rfl rfl ?_;rintro _ h27 ⟨r28,rfl,H⟩;refine ⟨trivial,?_⟩;refine g_e 15 65535 [] (by kernel_rfl) rfl (by kernel_rfl) (co (cs:=#[(.int .i64 r18),(.int .i64 r24),(.int .i64 r28)]) rfl rfl (rC r18 r24 r28) H) rfl rfl ?_;rintro _ h29 ⟨s30,rfl,H⟩;refine ⟨trivial,?_⟩;refine g_e 16 131071 [] (by kernel_rfl) rfl (by kernel_rfl) (av Tryz.call47 rfl (F.xbg_ok H)) rfl rfl ?_;rintro _ h31 ⟨r32,rfl,H⟩;refine ⟨trivial,?_⟩;refine gq 17 262143 rfl (bp rfl) (g_d (by kernel_rfl) (aa (al ?_)));exact an rfl rfl ⟨_,rfl,H⟩
def F.xfj (p0:ae) (p1:Addr) (p2:Addr) (h:H) (Q:Bool->H->Prop):Prop:=
  new h p0.cells.toArray cH fun a2 h1 =>
  ak h1 p1 fun y3 =>
  ak h1 a2 fun y5 =>
  F.xdi y3 y5 h1 fun r8 h7 =>
  ((decide (r8<=0))=true ->
  ak h7 a2 fun y10 =>
  ak h7 p2 fun y12 =>
  F.xdi y10 y12 h7 fun r15 h14 =>
  Q (decide (r15<0)) h14) ∧
  ((decide (r8<=0))=false ->
  Q false h7)
theorem F.xfj_ok {p0:ae}{p1:Addr}{p2:Addr}{h:H}{Q:Bool->H->Prop}(H:F.xfj p0 p1 p2 h Q):Fn PP 72 ([(.agg p0.cells.toArray),(.pointer (some p1)),(.pointer (some p2))]:List Value).toArray h fun r h'=>∃ r0,r=(.bool r0)∧Q r0 h':=by
 unfold F.xfj at H;refine aV Tryz.func72 Tryz.ntmps72 rfl rfl fun w0=>(az [(0,(.agg p0.cells.toArray)),(1,(.pointer (some p1))),(2,(.pointer (some p2)))] ⟨rfl,rfl,rfl,tv⟩ (sr (te (cb (cs:=p0.cells.toArray) rfl rfl H) ?_)));rintro _ h1 ⟨a2,rfl,H⟩;refine qa rfl (nt (sr ?_));obtain ⟨y3,k4,H⟩:=H;refine th (aQ ZB ZA rfl rfl) k4 ?_;obtain ⟨y5,k6,H⟩:=H;refine th (aQ ZB ZA rfl rfl) k6 (te (av Tryz.call17 rfl (F.xdi_ok H)) ?_);rintro _ h7 ⟨r8,rfl,H⟩;refine tq (lh rfl rfl) (qm rfl ?_);refine aT (t:=9) rfl (fun g9=>?_) (fun g9=>?_)
 ·replace H:=H.1 g9;obtain ⟨y10,k11,H⟩:=H;refine th (aQ ZB ZA rfl rfl) k11 ?_;obtain ⟨y12,k13,H⟩:=H;refine th (aQ ZB ZA rfl rfl) k13 (te (av Tryz.call17 rfl (F.xdi_ok H)) ?_);rintro _ h14 ⟨r15,rfl,H⟩;refine tq (bN rfl rfl) (tq (aL rfl rfl) (qa rfl (nt (al ?_))));exact an rfl rfl ⟨_,rfl,H⟩
 ·replace H:=H.2 g9;refine ts (ts (ts (ts (tq (aH rfl rfl) (qa rfl (nt (al ?_)))))));exact an rfl rfl ⟨_,rfl,H⟩
def F.xde.l1 (Q:H->Prop):Nat->Value->Addr->H->Prop
  | 0,_,_,_=>False
  | q1+1,x0,x5,h =>
    cY PP (Instr.next (.pointer (some x5)) false 0) h fun u h5=>∃ (b6:Bool) (t7:Array Value),u=(.tuple (#[.bool b6] ++ t7)) ∧
    (b6=true ->
    cY PP (Instr.entry (.pointer (some x5))) h5 fun u h9=>∃ (r10:ByteArray) (r11:Option Addr),u=(.tuple #[(.string r10),(.pointer r11)]) ∧
    CV PP x0 [(.string r10)] h9 fun u h12=>∃ (r13:Bool),u=(.bool r13) ∧
    ((!r13)=true ->
    Q h12) ∧
    ((!r13)=false ->
    (F.xde.l1 Q q1) x0 x5 h12)) ∧
    (b6=false ->
    Q h5)
def F.xde (p0:Value) (p1:Addr) (h:H) (Q:H->Prop):Prop:=
  ldM h p1 fun y1 =>
  cY PP (Instr.range 153 (.map y1)) h fun u h3=>∃ a4:Addr,u=(.pointer (some a4)) ∧
  ∃ m,F.xde.l1 Q m p0 a4 h3
theorem F.xde_ok {p0:Value}{p1:Addr}{h:H}{Q:H->Prop}(H:F.xde p0 p1 h Q):Fn PP 125 ([p0,(.pointer (some p1))]:List Value).toArray h fun r h'=>r=.tuple #[]∧Q  h':=by
 unfold F.xde at H;refine aV Tryz.func125 Tryz.ntmps125 rfl rfl fun w0=>(az [(0,p0),(1,(.pointer (some p1)))] ⟨rfl,rfl,tv⟩ (sr ?_));obtain ⟨y1,k2,H⟩:=H;refine th (aD Tryz.isAgg153 rfl) k2 (te (Ep rfl H) ?_);rintro _ h3 ⟨a4,rfl,H⟩;refine nt (aB ?_);obtain ⟨m15,H⟩:=H;refine az [(0,p0),(5,(.pointer (some a4)))] ⟨rfl,rfl,tv⟩ ?_;refine aY (fun m L' h=>∃ (x0:Value) (x5:Addr),L'=[(0,x0),(5,(.pointer (some x5)))]∧F.xde.l1 Q m x0 x5 h) ?_ ?_ m15 ⟨_,_,rfl,H⟩
 ·rintro L' h ⟨_,_,_,H⟩;exact H
 ·rintro q1 L' h ⟨x0,x5,rfl,H⟩;unfold F.xde.l1 at H;refine sr (te (Eo rfl H) ?_);rintro _ h5 ⟨b6,t7,rfl,H⟩;refine tq (Du (t:=t7) rfl) (nt (aj ?_));refine am rfl (fun g8=>?_) (fun g8=>?_)
  ·replace H:=H.1 g8;refine au (aa (aB (sr (te (Ek rfl H) ?_))));rintro _ h9 ⟨r10,r11,rfl,H⟩;refine tq (bW rfl rfl) (qa rfl (nt (sr (qm rfl (qm rfl (te (nk rfl rfl H) ?_))))));rintro _ h12 ⟨r13,rfl,H⟩;refine tq (eI rfl) (nt ?_);refine am rfl (fun g14=>?_) (fun g14=>?_)
   ·replace H:=H.1 g14;refine al (aS (aq (aS ?_)));exact uj rfl ⟨rfl,H⟩
   ·replace H:=H.2 g14;refine au (aI (aa ?_));exact ah [(0,x0),(5,(.pointer (some x5)))] ⟨rfl,rfl,tv⟩ ⟨_,_,rfl,H⟩
  ·replace H:=H.2 g8;refine bC (aF (aF (bV ?_)));exact jk rfl ⟨rfl,H⟩
def F.xbv (p0:Option Nat) (h:H) (Q:Value->H->Prop):Prop:=
  new h #[(.map p0)] AW fun a2 h1 =>
  Q (.func (.func 125) #[] #[(.pointer (some a2))]) h1
theorem F.xbv_ok {p0:Option Nat}{h:H}{Q:Value->H->Prop}(H:F.xbv p0 h Q):Fn PP 98 ([(.map p0)]:List Value).toArray h fun r h'=>∃ r0,r=r0∧Q r0 h':=by
 unfold F.xbv at H;refine aV Tryz.func98 Tryz.ntmps98 rfl rfl fun w0=>(az [(0,(.map p0))] ⟨rfl,tv⟩ (sr (te (cb (cs:=#[(.map p0)]) rfl rfl H) ?_)));rintro _ h1 ⟨a2,rfl,H⟩;refine qa rfl (nt (sr (tq (Dv rfl rfl) (qa rfl (nt (al ?_))))));exact an rfl rfl ⟨_,rfl,H⟩
def F.xfe (p0:Sl) (p1:Value) (h:H) (Q:Sl->H->Prop):Prop:=
  new h #[p0.enc] AX fun a2 h1 =>
  rng PP p1 h1 [] (fun bg1 l1 args h K1 J1=>∃ (y1_7:ByteArray),args=[(.string y1_7)] ∧
    bg1 h fun h3 =>
    ldL h3 a2 fun y4 =>
    fv h3 #[(.string y1_7)] B1 1 fun s7 h6 =>
    dA PP (Builtin.append_ #[22,22] 22 #[y4.enc,s7.enc]) h6 fun s9 h8 =>
    stH h8 a2 [s9.enc] fun h10 =>
    K1 h10) (fun h11 =>
    ldL h11 a2 fun y12 =>
    lO (h1.size :: ([]:List Nat)) h11 fun h14 =>
    Q y12 h14) (fun jj h15 =>
    True)
theorem F.xfe_ok {p0:Sl}{p1:Value}{h:H}{Q:Sl->H->Prop}(H:F.xfe p0 p1 h Q):Fn PP 143 ([p0.enc,p1]:List Value).toArray h fun r h'=>∃ r0,r=r0.enc∧Q r0 h':=by
 unfold F.xfe at H;refine tH Tryz.func143 Tryz.ntmps143 rfl rfl fun w0=>(az [(0,p0.enc),(1,p1)] ⟨rfl,rfl,tv⟩ (sr (te (cb (cs:=#[p0.enc]) rfl rfl H) ?_)));rintro _ h1 ⟨a2,rfl,H⟩;refine qa rfl (nt (aj (sr (qm rfl (nt (aB ?_))))));refine nU rfl (by kernel_rfl) H ?_ ?_ ?_
 ·intro bg1 l1 args h K1 J1 w1 hbg1 H;obtain ⟨y1_7,rfl,H⟩:=H;refine ⟨rfl,?_⟩;refine az [(0,p0.enc),(1,p1),(2,(.pointer (some a2))),(4,(⟨none,0,0⟩:Sl).enc),(6,p1),(7,(.string y1_7))] ⟨rfl,rfl,rfl,rfl,rfl,rfl,tv⟩ (ai (qa rfl (nt (ui hbg1 H fun h3 H=>(aB (ai ?_))))));obtain ⟨y4,k5,H⟩:=H;refine th (aD Tryz.isAgg22 rfl) k5 (qm rfl (te (co (cs:=#[(.string y1_7)]) rfl rfl (rU y1_7) H) ?_));rintro _ h6 ⟨s7,rfl,H⟩;refine te (dV rfl H) ?_;rintro _ h8 ⟨s9,rfl,H⟩;refine te (aK (vs:=[s9.enc]) Tryz.sizeOf22 rfl rfl rfl rfl (de rfl) H) ?_;rintro _ h10 ⟨rfl,H⟩;refine bo (aI ?_);exact sX H
 ·intro h11 H;refine aI (aa (sr ?_));obtain ⟨y12,k13,H⟩:=H;refine th (aD Tryz.isAgg22 rfl) k13 (qa rfl (nt (al (nV (h1.size :: ([]:List Nat)) rfl H fun h14 H=>?_))));exact an rfl rfl ⟨_,rfl,H⟩
 ·intro jj c h15 hjc H;simp at hjc
def F.xfk (p0:Value) (h:H) (Q:Sl->H->Prop):Prop:=
  F.xfe (⟨none,0,0⟩:Sl) p0 h fun r2 h1 =>
  Q r2 h1
theorem F.xfk_ok {p0:Value}{h:H}{Q:Sl->H->Prop}(H:F.xfk p0 h Q):Fn PP 123 ([p0]:List Value).toArray h fun r h'=>∃ r0,r=r0.enc∧Q r0 h':=by
 unfold F.xfk at H;refine aV Tryz.func123 Tryz.ntmps123 rfl rfl fun w0=>(az [(0,p0)] ⟨rfl,tv⟩ (sr (qa rfl (nt (sr (qm rfl (te (av Tryz.call143 rfl (F.xfe_ok H)) ?_)))))));rintro _ h1 ⟨r2,rfl,H⟩;refine qa rfl (nt (al ?_));exact an rfl rfl ⟨_,rfl,H⟩
def F.xev (p0:Value) (h:H) (Q:Sl->H->Prop):Prop:=
  F.xfk p0 h fun r2 h1 =>
  Fn PP 124 [r2.enc].toArray h1 fun u h3=>u=(.tuple #[]) ∧
  Q r2 h3
theorem F.xev_ok {p0:Value}{h:H}{Q:Sl->H->Prop}(H:F.xev p0 h Q):Fn PP 97 ([p0]:List Value).toArray h fun r h'=>∃ r0,r=r0.enc∧Q r0 h':=by
 unfold F.xev at H;refine aV Tryz.func97 Tryz.ntmps97 rfl rfl fun w0=>(az [(0,p0)] ⟨rfl,tv⟩ (sr (qa rfl (nt (sr (qm rfl (te (av Tryz.call123 rfl (F.xfk_ok H)) ?_)))))));rintro _ h1 ⟨r2,rfl,H⟩;refine qa rfl (nt (sr (qm rfl (te (av Tryz.call124 rfl H) ?_))));rintro _ h3 ⟨rfl,H⟩;refine nt (sr (qm rfl (qa rfl (nt (al ?_)))));exact an rfl rfl ⟨_,rfl,H⟩
def F.xdb.l1 (Q:H->Prop):Nat->Value->Addr->Sl->Int->Int->H->Prop
  | 0,_,_,_,_,_,_=>False
  | q1+1,x0,x2,x6,x7,x8,h =>
    ((decide (x8<x7))=true ->
    bD x6 x8 1 fun a4 =>
    ldS h a4 fun y6 =>
    ldM h x2 fun y8 =>
    cY PP (Instr.lookup 153 (.map y8) (.string y6) false) h fun u h10=>∃ r11:Option Addr,u=(.pointer r11) ∧
    CV PP x0 [(.string y6),(.pointer r11)] h10 fun u h12=>∃ (r13:Bool),u=(.bool r13) ∧
    ((!r13)=true ->
    Q h12) ∧
    ((!r13)=false ->
    (F.xdb.l1 Q q1) x0 x2 x6 x7 (IntKind.wrap .i64 (x8+1)) h12)) ∧
    ((decide (x8<x7))=false ->
    Q h)
def F.xdb (p0:Value) (p1:Addr) (p2:Addr) (h:H) (Q:H->Prop):Prop:=
  ldL h p1 fun y1 =>
  ∃ m,F.xdb.l1 Q m p0 p2 y1 (y1.len:Int) 0 h
theorem F.xdb_ok {p0:Value}{p1:Addr}{p2:Addr}{h:H}{Q:H->Prop}(H:F.xdb p0 p1 p2 h Q):Fn PP 99 ([p0,(.pointer (some p1)),(.pointer (some p2))]:List Value).toArray h fun r h'=>r=.tuple #[]∧Q  h':=by
 unfold F.xdb at H;refine aV Tryz.func99 Tryz.ntmps99 rfl rfl fun w0=>(az [(0,p0),(1,(.pointer (some p1))),(2,(.pointer (some p2)))] ⟨rfl,rfl,rfl,tv⟩ (sr ?_));obtain ⟨y1,k2,H⟩:=H;refine th (aD Tryz.isAgg22 rfl) k2 (tq (bB (ts:=#[]) ZBV (o:=y1.ptr) (n:=y1.len) (cap:=y1.cap) rfl) (qm rfl (nt (aB ?_))));obtain ⟨m15,H⟩:=H;refine az [(0,p0),(2,(.pointer (some p2))),(6,y1.enc),(7,(.int .i64 (y1.len:Int))),(8,(.int .i64 0))] ⟨rfl,rfl,rfl,rfl,rfl,tv⟩ ?_;refine aY (fun m L' h=>∃ (x0:Value) (x2:Addr) (x6:Sl) (x7:Int) (x8:Int),L'=[(0,x0),(2,(.pointer (some x2))),(6,x6.enc),(7,(.int .i64 x7)),(8,(.int .i64 x8))]∧F.xdb.l1 Q m x0 x2 x6 x7 x8 h) ?_ ?_ m15 ⟨_,_,_,_,_,rfl,H⟩
 ·rintro L' h ⟨_,_,_,_,_,_,H⟩;exact H
 ·rintro q1 L' h ⟨x0,x2,x6,x7,x8,rfl,H⟩;unfold F.xdb.l1 at H;refine sr (tq (bN rfl rfl) (nt (aj ?_)));refine am rfl (fun g3=>?_) (fun g3=>?_)
  ·replace H:=H.1 g3;refine au (aa (aj (aB (sr ?_))));obtain ⟨a4,e5,H⟩:=H;refine tq (bf (s:=x6) ZBV Tryz.sizeOf9 rfl rfl e5) ?_;obtain ⟨y6,k7,H⟩:=H;refine th (aD ZP rfl) k7 (qa rfl (nt (sr (qm rfl (qm rfl ?_)))));obtain ⟨y8,k9,H⟩:=H;refine th (aD Tryz.isAgg153 rfl) k9 (qm rfl (te (Em rfl rfl H) ?_));rintro _ h10 ⟨r11,rfl,H⟩;refine te (nk rfl rfl H) ?_;rintro _ h12 ⟨r13,rfl,H⟩;refine tq (eI rfl) (nt ?_);refine am rfl (fun g14=>?_) (fun g14=>?_)
   ·replace H:=H.1 g14;refine al (aS (aq (aq (aS ?_))));exact uj rfl ⟨rfl,H⟩
   ·replace H:=H.2 g14;refine au (aI (aa (ai (tq (bE rfl rfl) (qm rfl (nt ?_))))));exact ah [(0,x0),(2,(.pointer (some x2))),(6,x6.enc),(7,(.int .i64 x7)),(8,(.int .i64 (IntKind.wrap .i64 (x8+1))))] ⟨rfl,rfl,rfl,rfl,rfl,tv⟩ ⟨_,_,_,_,_,rfl,H⟩
  ·replace H:=H.2 g3;refine bC (aF (aF (bV ?_)));exact jk rfl ⟨rfl,H⟩
def F.xai.l2 (Q:Value->H->Prop) (C1:Addr->Sl->Int->Int->H->Prop):Nat->Addr->Sl->Int->Int->Sl->Int->Int->H->Prop
  | 0,_,_,_,_,_,_,_,_=>False
  | q2+1,x3,x22,x23,x24,x28,x29,x30,h =>
    ((decide (x30<x29))=true ->
    bD x28 x30 3 fun a26 =>
    dj h a26 fun y28 =>
    new h (((⟨0,(⟨#[]⟩:ByteArray),none⟩:aE):aE).cells.toArray) Dq fun a31 h30 =>
    stH h30 a31 y28.cells fun h32 =>
    ldI .u8 h32 (a31.add 0) fun y33 =>
    (((y33 == 1))=true ->
    ldM h32 x3 fun y36 =>
    ldS h32 (a31.add 1) fun y38 =>
    ldP h32 (a31.add 2) fun y40 =>
    cY PP (Instr.mapUpdate 153 (.map y36) (.string y38) (.pointer y40)) h32 fun _ h42 =>
    (F.xai.l2 Q C1 q2) x3 x22 x23 x24 x28 x29 (IntKind.wrap .i64 (x30+1)) h42) ∧
    (((y33 == 1))=false ->
    (F.xai.l2 Q C1 q2) x3 x22 x23 x24 x28 x29 (IntKind.wrap .i64 (x30+1)) h32)) ∧
    ((decide (x30<x29))=false ->
    C1 x3 x22 x23 (IntKind.wrap .i64 (x24+1)) h)
def F.xai.l1 (Q:Value->H->Prop):Nat->Addr->Sl->Int->Int->H->Prop
  | 0,_,_,_,_,_=>False
  | q1+1,x3,x22,x23,x24,h =>
    ((decide (x24<x23))=true ->
    bD x22 x24 1 fun a21 =>
    ldL h a21 fun y23 =>
    ∃ m,F.xai.l2 Q (F.xai.l1 Q q1) m x3 x22 x23 x24 y23 (y23.len:Int) 0 h) ∧
    ((decide (x24<x23))=false ->
    ldM h x3 fun y44 =>
    F.xbv y44 h fun r47 h46 =>
    F.xev r47 h46 fun r49 h48 =>
    new h48 #[(⟨none,0,0⟩:Sl).enc] AX fun a51 h50 =>
    stH h50 a51 [r49.enc] fun h52 =>
    Q (.func (.func 99) #[] #[(.pointer (some a51)),(.pointer (some x3))]) h52)
def F.xai (p0:Option Addr) (h:H) (Q:Value->H->Prop):Prop:=
  nn p0 fun a1 =>
  ldI .i64 h (a1.add 3) fun y3 =>
  cY PP (Instr.makeMap 153 (some (.int .i64 y3))) h fun u h5=>∃ m6:Option Nat,u=(.map m6) ∧
  new h5 #[(.map none)] AW fun a8 h7 =>
  stH h7 a8 [(.map m6)] fun h9 =>
  nn p0 fun a10 =>
  ldL h9 (a10.add 0) fun y12 =>
  nn p0 fun a14 =>
  ldL h9 (a14.add 1) fun y16 =>
  fv h9 #[y12.enc,y16.enc] AV 2 fun s19 h18 =>
  ∃ m,F.xai.l1 Q m a8 s19 (s19.len:Int) 0 h18
theorem F.xai_ok {p0:Option Addr}{h:H}{Q:Value->H->Prop}(H:F.xai p0 h Q):Fn PP 59 ([(.pointer p0)]:List Value).toArray h fun r h'=>∃ r0,r=r0∧Q r0 h':=by
 unfold F.xai at H;refine aV Tryz.func59 Tryz.ntmps59 rfl rfl fun w0=>(az [(0,(.pointer p0))] ⟨rfl,tv⟩ (sr (qa rfl (nt (sr (qm rfl ?_))))));obtain ⟨a1,e2,H⟩:=H;refine tq (bG rfl e2) (tq (ay (off:=3) ZF iN rfl) ?_);obtain ⟨y3,k4,H⟩:=H;refine th (aD ZC rfl) k4 (te (DT rfl H) ?_);rintro _ h5 ⟨m6,rfl,H⟩;refine te (bJ (cs:=#[(.map none)]) Tryz.zeroValue153 rfl H) ?_;rintro _ h7 ⟨a8,rfl,H⟩;refine te (aK (vs:=[(.map m6)]) Tryz.sizeOf153 rfl rfl rfl rfl (de rfl) H) ?_;rintro _ h9 ⟨rfl,H⟩;refine nt (aj (aj (bv mixed [0,1,3,7,0,16,48,112,255,511,0] (by kernel_rfl) (gq 0 1 rfl (aw rfl) ?_))));obtain ⟨a10,e11,H⟩:=H;refine gq 1 3 rfl (bG rfl e11) (gq 2 7 rfl (ay (off:=0) ZF dt rfl) ?_);obtain ⟨y12,k13,H⟩:=H;refine gh 3 15 rfl (aD ZN rfl) k13 (gq 4 31 rfl (aw rfl) ?_);obtain ⟨a14,e15,H⟩:=H;refine gq 5 63 rfl (bG rfl e15) (gq 6 127 rfl (ay (off:=1) ZF eT rfl) ?_);obtain ⟨y16,k17,H⟩:=H;refine gh 7 255 rfl (aD ZN rfl) k17 (gq 10 1279 rfl (aw rfl) (g_e 8 1535 [] (by kernel_rfl) rfl (by kernel_rfl) (co (cs:=#[y12.enc,y16.enc]) rfl rfl (tr y12 y16) H) rfl rfl ?_));rintro _ h18 ⟨s19,rfl,H⟩;refine ⟨trivial,?_⟩;refine gq 9 2047 rfl (bB (ts:=#[]) Tryz.runUnderlying154 (o:=s19.ptr) (n:=s19.len) (cap:=s19.cap) rfl) (g_d (by kernel_rfl) (aa (aB ?_)));obtain ⟨m53,H⟩:=H;refine az [(3,(.pointer (some a8))),(22,s19.enc),(23,(.int .i64 (s19.len:Int))),(24,(.int .i64 0))] ⟨rfl,rfl,rfl,rfl,tv⟩ ?_;refine aY (fun m L' h=>∃ (x3:Addr) (x22:Sl) (x23:Int) (x24:Int),L'=[(3,(.pointer (some x3))),(22,x22.enc),(23,(.int .i64 x23)),(24,(.int .i64 x24))]∧F.xai.l1 Q m x3 x22 x23 x24 h) ?_ ?_ m53 ⟨_,_,_,_,rfl,H⟩
 ·rintro L' h ⟨_,_,_,_,_,H⟩;exact H
 ·rintro q1 L' h ⟨x3,x22,x23,x24,rfl,H⟩;unfold F.xai.l1 at H;refine sr (tq (bN rfl rfl) (nt (aj ?_)));refine am rfl (fun g20=>?_) (fun g20=>?_)
  ·replace H:=H.1 g20;refine au (aa (aj (aB (sr ?_))));obtain ⟨a21,e22,H⟩:=H;refine tq (bf (s:=x22) Tryz.runUnderlying154 Tryz.sizeOf146 rfl rfl e22) ?_;obtain ⟨y23,k24,H⟩:=H;refine th (aD ZN rfl) k24 (qa rfl (nt (sr (qm rfl (tq (bB (ts:=#[]) ZR (o:=y23.ptr) (n:=y23.len) (cap:=y23.cap) rfl) (qm rfl (nt (aB ?_))))))));obtain ⟨m43,H⟩:=H;refine az [(3,(.pointer (some x3))),(22,x22.enc),(23,(.int .i64 x23)),(24,(.int .i64 x24)),(28,y23.enc),(29,(.int .i64 (y23.len:Int))),(30,(.int .i64 0))] ⟨rfl,rfl,rfl,rfl,rfl,rfl,rfl,tv⟩ ?_;refine aY (fun m L' h=>∃ (x3:Addr) (x22:Sl) (x23:Int) (x24:Int) (x28:Sl) (x29:Int) (x30:Int),L'=[(3,(.pointer (some x3))),(22,x22.enc),(23,(.int .i64 x23)),(24,(.int .i64 x24)),(28,x28.enc),(29,(.int .i64 x29)),(30,(.int .i64 x30))]∧F.xai.l2 Q (F.xai.l1 Q q1) m x3 x22 x23 x24 x28 x29 x30 h) ?_ ?_ m43 ⟨_,_,_,_,_,_,_,rfl,H⟩
   ·rintro L' h ⟨_,_,_,_,_,_,_,_,H⟩;exact H
   ·rintro q2 L' h ⟨x3,x22,x23,x24,x28,x29,x30,rfl,H⟩;unfold F.xai.l2 at H;refine sr (tq (bN rfl rfl) (nt (aj ?_)));refine am rfl (fun g25=>?_) (fun g25=>?_)
    ·replace H:=H.1 g25;refine au (aa (aj (aB (sr ?_))));obtain ⟨a26,e27,H⟩:=H;refine tq (bf (s:=x28) ZR ZT rfl rfl e27) ?_;obtain ⟨y28,k29,H⟩:=H;refine th (aQ Tryz.isAgg156 ZT rfl rfl) k29 (te (bJ (cs:=((⟨0,(⟨#[]⟩:ByteArray),none⟩:aE):aE).cells.toArray) Tryz.zeroValue156 rfl H) ?_);rintro _ h30 ⟨a31,rfl,H⟩;refine te (aK (vs:=y28.cells) ZT rfl rfl ax rfl (by intro v hv;exact bM _ v hv) H) ?_;rintro _ h32 ⟨rfl,H⟩;refine nt (sr (tq (ay (off:=0) Zx lD rfl) ?_));obtain ⟨y33,k34,H⟩:=H;refine th (aD Tryz.isAgg5 rfl) k34 (tq (ct rfl rfl) (nt ?_));refine am rfl (fun g35=>?_) (fun g35=>?_)
     ·replace H:=H.1 g35;refine ai ?_;obtain ⟨y36,k37,H⟩:=H;refine th (aD Tryz.isAgg153 rfl) k37 (tq (ay (off:=1) Zx nv rfl) ?_);obtain ⟨y38,k39,H⟩:=H;refine th (aD ZP rfl) k39 (tq (ay (off:=2) Zx lE rfl) ?_);obtain ⟨y40,k41,H⟩:=H;refine th (aD Tryz.isAgg107 rfl) k41 (te (En rfl rfl rfl H) ?_);rintro _ h42 ⟨rfl,H⟩;refine bo (aI (aa (ai (tq (bE rfl rfl) (qm rfl (nt ?_))))));exact ah [(3,(.pointer (some x3))),(22,x22.enc),(23,(.int .i64 x23)),(24,(.int .i64 x24)),(28,x28.enc),(29,(.int .i64 x29)),(30,(.int .i64 (IntKind.wrap .i64 (x30+1))))] ⟨rfl,rfl,rfl,rfl,rfl,rfl,rfl,tv⟩ ⟨_,_,_,_,_,_,_,rfl,H⟩
     ·replace H:=H.2 g35;refine au (aI (aa (ai (tq (bE rfl rfl) (qm rfl (nt ?_))))));exact ah [(3,(.pointer (some x3))),(22,x22.enc),(23,(.int .i64 x23)),(24,(.int .i64 x24)),(28,x28.enc),(29,(.int .i64 x29)),(30,(.int .i64 (IntKind.wrap .i64 (x30+1))))] ⟨rfl,rfl,rfl,rfl,rfl,rfl,rfl,tv⟩ ⟨_,_,_,_,_,_,_,rfl,H⟩
    ·replace H:=H.2 g25;refine bC (aF (aF (bV (aI (aa (ai (tq (bE rfl rfl) (qm rfl (nt ?_)))))))));exact ah [(3,(.pointer (some x3))),(22,x22.enc),(23,(.int .i64 x23)),(24,(.int .i64 (IntKind.wrap .i64 (x24+1))))] ⟨rfl,rfl,rfl,rfl,tv⟩ ⟨_,_,_,_,rfl,H⟩
  ·replace H:=H.2 g20;refine bC (aF (aF (bV (aa (sr ?_)))));obtain ⟨y44,k45,H⟩:=H;refine th (aD Tryz.isAgg153 rfl) k45 (te (av Tryz.call98 rfl (F.xbv_ok H)) ?_);rintro r47 h46 ⟨_,rfl,H⟩;refine te (av Tryz.call97 rfl (F.xev_ok H)) ?_;rintro _ h48 ⟨r49,rfl,H⟩;refine te (bJ (cs:=#[(⟨none,0,0⟩:Sl).enc]) Tryz.zeroValue22 rfl H) ?_;rintro _ h50 ⟨a51,rfl,H⟩;refine te (aK (vs:=[r49.enc]) Tryz.sizeOf22 rfl rfl rfl rfl (de rfl) H) ?_;rintro _ h52 ⟨rfl,H⟩;refine nt (sr (tq (Dv rfl rfl) (qa rfl (nt (al ?_)))));exact an rfl rfl ⟨_,rfl,H⟩
def F.xbi.l2 (Q:ae->Int->H->Prop):Nat->ByteArray->Addr->Addr->Int->Sl->Int->H->Prop
  | 0,_,_,_,_,_,_,_=>False
  | q2+1,x0,x2,x4,x5,x6,x8,h =>
    ((decide (x5<(x0.size:Int)))=true ->
    0<=(8:Int) ∧
    rH x0 x5 fun b42 =>
    (F.xbi.l2 Q q2) x0 x2 x4 (IntKind.wrap .i64 (x5+1)) x6 (cj .or .u64 (IntKind.wrap .u64 (x8*(2 ^ (min (8:Int).toNat (IntKind.bits .u64)):Int))) (IntKind.wrap .u64 b42)) h) ∧
    ((decide (x5<(x0.size:Int)))=false ->
    BT PP (convert 93 9 x6.enc) h fun s45 h44 =>
    stH h44 (x4.add 1) [(.string s45)] fun h46 =>
    stH h46 (x4.add 2) [(.int .i64 (IntKind.wrap .i64 (IntKind.wrap .u64 (x8-9223372036854775808))))] fun h47 =>
    ak h47 x4 fun y48 =>
    F.xbo y48 h47 fun r51 h50 =>
    (((r51 != 0))=true ->
    stH h50 x2 ((⟨0,(⟨#[]⟩:ByteArray),0⟩:ae).cells) fun h53 =>
    ak h53 x2 fun y54 =>
    Q y54 r51 h53) ∧
    (((r51 != 0))=false ->
    ak h50 x4 fun y56 =>
    stH h50 x2 y56.cells fun h58 =>
    ak h58 x2 fun y59 =>
    Q y59 0 h58))
def F.xbi.l1 (Q:ae->Int->H->Prop):Nat->ByteArray->Addr->Addr->Int->Sl->H->Prop
  | 0,_,_,_,_,_,_=>False
  | q1+1,x0,x2,x4,x5,x6,h =>
    (((x5 == (x0.size:Int)))=true ->
    stH h x2 ((⟨0,(⟨#[]⟩:ByteArray),0⟩:ae).cells) fun h13 =>
    ak h13 x2 fun y14 =>
    Q y14 11 h13) ∧
    (((x5 == (x0.size:Int)))=false ->
    rH x0 x5 fun b16 =>
    (((b16 != 0))=true ->
    rH x0 x5 fun b19 =>
    fv h #[(.int .u8 b19)] ul 1 fun s22 h21 =>
    dA PP (Builtin.append_ #[93,93] 93 #[x6.enc,s22.enc]) h21 fun s24 h23 =>
    (F.xbi.l1 Q q1) x0 x2 x4 (IntKind.wrap .i64 (x5+1)) s24 h23) ∧
    (((b16 != 0))=false ->
    ((((IntKind.wrap .i64 (x5+1)) == (x0.size:Int)))=true ->
    stH h x2 ((⟨0,(⟨#[]⟩:ByteArray),0⟩:ae).cells) fun h26 =>
    ak h26 x2 fun y27 =>
    Q y27 11 h26) ∧
    ((((IntKind.wrap .i64 (x5+1)) == (x0.size:Int)))=false ->
    rH x0 (IntKind.wrap .i64 ((IntKind.wrap .i64 (x5+2))-1)) fun b29 =>
    (((b29 == 1))=true ->
    ((decide ((IntKind.wrap .i64 ((x0.size:Int)-(IntKind.wrap .i64 (x5+2))))<8))=true ->
    stH h x2 ((⟨0,(⟨#[]⟩:ByteArray),0⟩:ae).cells) fun h33 =>
    ak h33 x2 fun y34 =>
    Q y34 11 h33) ∧
    ((decide ((IntKind.wrap .i64 ((x0.size:Int)-(IntKind.wrap .i64 (x5+2))))<8))=false ->
    ((decide ((IntKind.wrap .i64 ((x0.size:Int)-(IntKind.wrap .i64 (x5+2)))) > 8))=true ->
    stH h x2 ((⟨0,(⟨#[]⟩:ByteArray),0⟩:ae).cells) fun h37 =>
    ak h37 x2 fun y38 =>
    Q y38 13 h37) ∧
    ((decide ((IntKind.wrap .i64 ((x0.size:Int)-(IntKind.wrap .i64 (x5+2)))) > 8))=false ->
    ∃ m,F.xbi.l2 Q m x0 x2 x4 (IntKind.wrap .i64 (x5+2)) x6 0 h))) ∧
    (((b29 == 1))=false ->
    rH x0 (IntKind.wrap .i64 ((IntKind.wrap .i64 (x5+2))-1)) fun b62 =>
    (((b62 != 255))=true ->
    stH h x2 ((⟨0,(⟨#[]⟩:ByteArray),0⟩:ae).cells) fun h65 =>
    ak h65 x2 fun y66 =>
    Q y66 12 h65) ∧
    (((b62 != 255))=false ->
    fv h #[(.int .u8 0)] ul 1 fun s69 h68 =>
    dA PP (Builtin.append_ #[93,93] 93 #[x6.enc,s69.enc]) h68 fun s71 h70 =>
    (F.xbi.l1 Q q1) x0 x2 x4 (IntKind.wrap .i64 (x5+2)) s71 h70)))))
def F.xbi (p0:ByteArray) (h:H) (Q:ae->Int->H->Prop):Prop:=
  new h (((⟨0,(⟨#[]⟩:ByteArray),0⟩:ae):ae).cells.toArray) cH fun a2 h1 =>
  ((p0.toList == (⟨#[]⟩:ByteArray).toList)=true ->
  stH h1 a2 ((⟨0,(⟨#[]⟩:ByteArray),0⟩:ae).cells) fun h4 =>
  ak h4 a2 fun y5 =>
  Q y5 11 h4) ∧
  ((p0.toList == (⟨#[]⟩:ByteArray).toList)=false ->
  rH p0 0 fun b7 =>
  new h1 (((⟨0,(⟨#[]⟩:ByteArray),0⟩:ae):ae).cells.toArray) cH fun a10 h9 =>
  stH h9 a10 ((⟨(IntKind.wrap .i64 b7),(⟨#[]⟩:ByteArray),0⟩:ae).cells) fun h11 =>
  ∃ m,F.xbi.l1 Q m p0 a2 a10 1 (⟨none,0,0⟩:Sl) h11)
theorem F.xbi_ok {p0:ByteArray}{h:H}{Q:ae->Int->H->Prop}(H:F.xbi p0 h Q):Fn PP 73 ([(.string p0)]:List Value).toArray h fun r h'=>∃ r0 r1,r=.tuple #[(.agg r0.cells.toArray),(.int .i64 r1)]∧Q r0 r1 h':=by
 unfold F.xbi at H;refine aV Tryz.func73 Tryz.ntmps73 rfl rfl fun w0=>(az [(0,(.string p0))] ⟨rfl,tv⟩ (sr (te (bJ (cs:=((⟨0,(⟨#[]⟩:ByteArray),0⟩:ae):ae).cells.toArray) ZBP rfl H) ?_)));rintro _ h1 ⟨a2,rfl,H⟩;refine qa rfl (nt (aj (sr (qm rfl (tq (A2 rfl rfl) (nt ?_))))));refine am rfl (fun g3=>?_) (fun g3=>?_)
 ·replace H:=H.1 g3;refine sr (tq (bO rfl (lx )) (te (aK (vs:=(⟨0,(⟨#[]⟩:ByteArray),0⟩:ae).cells) ZA rfl rfl ax rfl (by intro v hv;exact bz _ v hv) H) ?_));rintro _ h4 ⟨rfl,H⟩;refine qa rfl (nt (al (aq ?_)));obtain ⟨y5,k6,H⟩:=H;exact gG rfl (bY ZB ZA rfl rfl k6) (fm rfl) ⟨_,_,rfl,H⟩
 ·replace H:=H.2 g3;refine au (aa (sr (qm rfl ?_)));obtain ⟨b7,e8,H⟩:=H;refine tq (kP Zb rfl rfl e8) (tq (fN ZBR Z7 rfl) (tq (bO rfl (pK (IntKind.wrap .i64 b7))) (te (bJ (cs:=((⟨0,(⟨#[]⟩:ByteArray),0⟩:ae):ae).cells.toArray) ZBP rfl H) ?_)));rintro _ h9 ⟨a10,rfl,H⟩;refine te (aK (vs:=(⟨(IntKind.wrap .i64 b7),(⟨#[]⟩:ByteArray),0⟩:ae).cells) ZA rfl rfl ax rfl (by intro v hv;exact bz _ v hv) H) ?_;rintro _ h11 ⟨rfl,H⟩;refine nt (sr (qa rfl (nt (sr (qa rfl (nt (aj (aB ?_))))))));obtain ⟨m72,H⟩:=H;refine az [(0,(.string p0)),(2,(.pointer (some a2))),(4,(.pointer (some a10))),(5,(.int .i64 1)),(6,(⟨none,0,0⟩:Sl).enc)] ⟨rfl,rfl,rfl,rfl,rfl,tv⟩ ?_;refine aY (fun m L' h=>∃ (x0:ByteArray) (x2:Addr) (x4:Addr) (x5:Int) (x6:Sl),L'=[(0,(.string x0)),(2,(.pointer (some x2))),(4,(.pointer (some x4))),(5,(.int .i64 x5)),(6,x6.enc)]∧F.xbi.l1 Q m x0 x2 x4 x5 x6 h) ?_ ?_ m72 ⟨_,_,_,_,_,rfl,H⟩
  ·rintro L' h ⟨_,_,_,_,_,_,H⟩;exact H
  ·rintro q1 L' h ⟨x0,x2,x4,x5,x6,rfl,H⟩;unfold F.xbi.l1 at H;refine aB (aj (sr (qm rfl (qm rfl (tq (jG Zb rfl) (tq (ct rfl rfl) (nt ?_)))))));refine am rfl (fun g12=>?_) (fun g12=>?_)
   ·replace H:=H.1 g12;refine sr (tq (bO rfl (lx )) (te (aK (vs:=(⟨0,(⟨#[]⟩:ByteArray),0⟩:ae).cells) ZA rfl rfl ax rfl (by intro v hv;exact bz _ v hv) H) ?_));rintro _ h13 ⟨rfl,H⟩;refine qa rfl (nt (al (aq (aS (aq (aS (aq ?_)))))));obtain ⟨y14,k15,H⟩:=H;exact gG rfl (bY ZB ZA rfl rfl k15) (fm rfl) ⟨_,_,rfl,H⟩
   ·replace H:=H.2 g12;refine au (aa (aj (sr (qm rfl (qm rfl ?_)))));obtain ⟨b16,e17,H⟩:=H;refine tq (kP Zb rfl rfl e17) (tq (ey rfl rfl) (nt ?_));refine am rfl (fun g18=>?_) (fun g18=>?_)
    ·replace H:=H.1 g18;refine sr (qm rfl (qm rfl (qm rfl ?_)));obtain ⟨b19,e20,H⟩:=H;refine tq (kP Zb rfl rfl e20) (te (co (cs:=#[(.int .u8 b19)]) rfl rfl (jm b19) H) ?_);rintro _ h21 ⟨s22,rfl,H⟩;refine te (dV rfl H) ?_;rintro _ h23 ⟨s24,rfl,H⟩;refine qa rfl (nt (sr (qm rfl (tq (bE rfl rfl) (qa rfl (nt (bC (aF (bV (aa ?_))))))))));exact ah [(0,(.string x0)),(2,(.pointer (some x2))),(4,(.pointer (some x4))),(5,(.int .i64 (IntKind.wrap .i64 (x5+1)))),(6,s24.enc)] ⟨rfl,rfl,rfl,rfl,rfl,tv⟩ ⟨_,_,_,_,_,rfl,H⟩
    ·replace H:=H.2 g18;refine au (aa (aj (sr (qm rfl (tq (bE rfl rfl) (qm rfl (tq (jG Zb rfl) (tq (ct rfl rfl) (nt ?_)))))))));refine am rfl (fun g25=>?_) (fun g25=>?_)
     ·replace H:=H.1 g25;refine sr (tq (bO rfl (lx )) (te (aK (vs:=(⟨0,(⟨#[]⟩:ByteArray),0⟩:ae).cells) ZA rfl rfl ax rfl (by intro v hv;exact bz _ v hv) H) ?_));rintro _ h26 ⟨rfl,H⟩;refine qa rfl (nt (al (aq (aS (aq (aS (aq ?_)))))));obtain ⟨y27,k28,H⟩:=H;exact gG rfl (bY ZB ZA rfl rfl k28) (fm rfl) ⟨_,_,rfl,H⟩
     ·replace H:=H.2 g25;refine au (aa (sr (qm rfl (tq (bE rfl rfl) (qa rfl (nt (aj (sr (qm rfl (qm rfl ?_))))))))));refine tq (cJ rfl rfl) ?_;obtain ⟨b29,e30,H⟩:=H;refine tq (kP Zb rfl rfl e30) (tq (ct rfl rfl) (nt ?_));refine am rfl (fun g31=>?_) (fun g31=>?_)
      ·replace H:=H.1 g31;refine bC (aF (nT rfl (aF (bV (aa (aj (sr (qm rfl (tq (jG Zb rfl) (qm rfl (tq (cJ rfl rfl) (qa rfl ?_))))))))))));refine nt (aB (sr (qm rfl (tq (bN rfl rfl) (qa rfl (nt ?_))))));refine am rfl (fun g32=>?_) (fun g32=>?_)
       ·replace H:=H.1 g32;refine sr (tq (bO rfl (lx )) (te (aK (vs:=(⟨0,(⟨#[]⟩:ByteArray),0⟩:ae).cells) ZA rfl rfl ax rfl (by intro v hv;exact bz _ v hv) H) ?_));rintro _ h33 ⟨rfl,H⟩;refine qa rfl (nt (al (aS (aq ?_))));obtain ⟨y34,k35,H⟩:=H;exact gG rfl (bY ZB ZA rfl rfl k35) (fm rfl) ⟨_,_,rfl,H⟩
       ·replace H:=H.2 g32;refine sr (qm rfl (tq (df rfl rfl) (qa rfl (nt ?_))));refine am rfl (fun g36=>?_) (fun g36=>?_)
        ·replace H:=H.1 g36;refine sr (tq (bO rfl (lx )) (te (aK (vs:=(⟨0,(⟨#[]⟩:ByteArray),0⟩:ae).cells) ZA rfl rfl ax rfl (by intro v hv;exact bz _ v hv) H) ?_));rintro _ h37 ⟨rfl,H⟩;refine qa rfl (nt (al (aS (aq ?_))));obtain ⟨y38,k39,H⟩:=H;exact gG rfl (bY ZB ZA rfl rfl k39) (fm rfl) ⟨_,_,rfl,H⟩
        ·replace H:=H.2 g36;refine au (aI (aa (sr (qa rfl (nt (aj (aB ?_)))))));obtain ⟨m61,H⟩:=H;refine az [(0,(.string x0)),(2,(.pointer (some x2))),(4,(.pointer (some x4))),(5,(.int .i64 (IntKind.wrap .i64 (x5+2)))),(6,x6.enc),(8,(.int .u64 0))] ⟨rfl,rfl,rfl,rfl,rfl,rfl,tv⟩ ?_;refine aY (fun m L' h=>∃ (x0:ByteArray) (x2:Addr) (x4:Addr) (x5:Int) (x6:Sl) (x8:Int),L'=[(0,(.string x0)),(2,(.pointer (some x2))),(4,(.pointer (some x4))),(5,(.int .i64 x5)),(6,x6.enc),(8,(.int .u64 x8))]∧F.xbi.l2 Q m x0 x2 x4 x5 x6 x8 h) ?_ ?_ m61 ⟨_,_,_,_,_,_,rfl,H⟩
         ·rintro L' h ⟨_,_,_,_,_,_,_,H⟩;exact H
         ·rintro q2 L' h ⟨x0,x2,x4,x5,x6,x8,rfl,H⟩;unfold F.xbi.l2 at H;refine aj (sr (qm rfl (qm rfl (tq (jG Zb rfl) (tq (bN rfl rfl) (nt ?_))))));refine am rfl (fun g40=>?_) (fun g40=>?_)
          ·replace H:=H.1 g40;refine au (aa (aj (aB (ai (qm rfl ?_)))));obtain ⟨e41,H⟩:=H;refine tq (Ee rfl rfl e41) (qm rfl (qm rfl ?_));obtain ⟨b42,e43,H⟩:=H;refine tq (kP Zb rfl rfl e43) (tq (fN ZBR Zl rfl) (tq (Ev rfl rfl) (qa rfl (bo (aI (aa (ai (qm rfl (tq (bE rfl rfl) (qa rfl (nt ?_)))))))))));exact ah [(0,(.string x0)),(2,(.pointer (some x2))),(4,(.pointer (some x4))),(5,(.int .i64 (IntKind.wrap .i64 (x5+1)))),(6,x6.enc),(8,(.int .u64 (cj .or .u64 (IntKind.wrap .u64 (x8*(2 ^ (min (8:Int).toNat (IntKind.bits .u64)):Int))) (IntKind.wrap .u64 b42))))] ⟨rfl,rfl,rfl,rfl,rfl,rfl,tv⟩ ⟨_,_,_,_,_,_,rfl,H⟩
          ·replace H:=H.2 g40;refine bC (aF (aF (bV (aa (sr (qm rfl (te (zN rfl H) ?_)))))));rintro _ h44 ⟨s45,rfl,H⟩;refine qm rfl (tq (cJ rfl rfl) (tq (fN Zl ZBA rfl) (tq (ay (off:=1) ZH dS rfl) (te (aK (vs:=[(.string s45)]) Tryz.sizeOf9 rfl rfl rfl rfl (de rfl) H) ?_))));rintro _ h46 ⟨rfl,H⟩;refine tq (ay (off:=2) ZH gA rfl) (te (aK (vs:=[(.int .i64 (IntKind.wrap .i64 (IntKind.wrap .u64 (x8-9223372036854775808))))]) Tryz.sizeOf2 rfl rfl rfl rfl (de rfl) H) ?_);rintro _ h47 ⟨rfl,H⟩;refine nt (aj (sr ?_));obtain ⟨y48,k49,H⟩:=H;refine th (aQ ZB ZA rfl rfl) k49 (te (av Tryz.call109 rfl (F.xbo_ok H)) ?_);rintro _ h50 ⟨r51,rfl,H⟩;refine qa rfl (nt (sr (qm rfl (tq (ey rfl rfl) (nt ?_)))));refine am rfl (fun g52=>?_) (fun g52=>?_)
           ·replace H:=H.1 g52;refine sr (tq (bO rfl (lx )) (qm rfl (te (aK (vs:=(⟨0,(⟨#[]⟩:ByteArray),0⟩:ae).cells) ZA rfl rfl ax rfl (by intro v hv;exact bz _ v hv) H) ?_)));rintro _ h53 ⟨rfl,H⟩;refine qa rfl (nt (al (aq ?_)));obtain ⟨y54,k55,H⟩:=H;exact gG rfl (bY ZB ZA rfl rfl k55) (fm rfl) ⟨_,_,rfl,H⟩
           ·replace H:=H.2 g52;refine au (aa (sr ?_));obtain ⟨y56,k57,H⟩:=H;refine th (aQ ZB ZA rfl rfl) k57 (te (aK (vs:=y56.cells) ZA rfl rfl ax rfl (by intro v hv;exact bz _ v hv) H) ?_);rintro _ h58 ⟨rfl,H⟩;refine qa rfl (nt (al ?_));obtain ⟨y59,k60,H⟩:=H;exact gG rfl (bY ZB ZA rfl rfl k60) (fm rfl) ⟨_,_,rfl,H⟩
      ·replace H:=H.2 g31;refine au (aa (aj (sr (qm rfl (qm rfl (tq (cJ rfl rfl) ?_))))));obtain ⟨b62,e63,H⟩:=H;refine tq (kP Zb rfl rfl e63) (tq (ey rfl rfl) (nt ?_));refine am rfl (fun g64=>?_) (fun g64=>?_)
       ·replace H:=H.1 g64;refine sr (tq (bO rfl (lx )) (te (aK (vs:=(⟨0,(⟨#[]⟩:ByteArray),0⟩:ae).cells) ZA rfl rfl ax rfl (by intro v hv;exact bz _ v hv) H) ?_));rintro _ h65 ⟨rfl,H⟩;refine qa rfl (nt (al (aq (aS (aq (aS (aq ?_)))))));obtain ⟨y66,k67,H⟩:=H;exact gG rfl (bY ZB ZA rfl rfl k67) (fm rfl) ⟨_,_,rfl,H⟩
       ·replace H:=H.2 g64;refine au (aa (ai (qm rfl (te (co (cs:=#[(.int .u8 0)]) rfl rfl (jm 0) H) ?_))));rintro _ h68 ⟨s69,rfl,H⟩;refine te (dV rfl H) ?_;rintro _ h70 ⟨s71,rfl,H⟩;refine qa rfl (bo (aI (aa ?_)));exact ah [(0,(.string x0)),(2,(.pointer (some x2))),(4,(.pointer (some x4))),(5,(.int .i64 (IntKind.wrap .i64 (x5+2)))),(6,s71.enc)] ⟨rfl,rfl,rfl,rfl,rfl,tv⟩ ⟨_,_,_,_,_,rfl,H⟩
def F.xcx.l1 (Q:Int->Bool->H->Prop):Nat->Sl->Int->Value->Int->Int->Int->H->Prop
  | 0,_,_,_,_,_,_,_=>False
  | q1+1,x0,x1,x2,x8,x9,x10,h =>
    ((decide (x9<x10))=true ->
    0<=(1:Int) ∧
    bD x0 (IntKind.wrap .i64 (Int.fdiv (IntKind.wrap .u64 (IntKind.wrap .i64 (x9+x10))) (2 ^ (min (1:Int).toNat (IntKind.bits .u64)):Int))) 6 fun a3 =>
    cr h a3 fun y5 =>
    CV PP x2 [(.agg y5.cells.toArray),(.int .i64 x1)] h fun u h7=>∃ (r8:Int),u=(.int .i64 r8) ∧
    ((decide (r8<0))=true ->
    (F.xcx.l1 Q q1) x0 x1 x2 x8 (IntKind.wrap .i64 ((IntKind.wrap .i64 (Int.fdiv (IntKind.wrap .u64 (IntKind.wrap .i64 (x9+x10))) (2 ^ (min (1:Int).toNat (IntKind.bits .u64)):Int)))+1)) x10 h7) ∧
    ((decide (r8<0))=false ->
    (F.xcx.l1 Q q1) x0 x1 x2 x8 x9 (IntKind.wrap .i64 (Int.fdiv (IntKind.wrap .u64 (IntKind.wrap .i64 (x9+x10))) (2 ^ (min (1:Int).toNat (IntKind.bits .u64)):Int))) h7)) ∧
    ((decide (x9<x10))=false ->
    ((decide (x9<x8))=true ->
    bD x0 x9 6 fun a11 =>
    cr h a11 fun y13 =>
    CV PP x2 [(.agg y13.cells.toArray),(.int .i64 x1)] h fun u h15=>∃ (r16:Int),u=(.int .i64 r16) ∧
    Q x9 ((r16 == 0)) h15) ∧
    ((decide (x9<x8))=false ->
    Q x9 false h))
def F.xcx (p0:Sl) (p1:Int) (p2:Value) (h:H) (Q:Int->Bool->H->Prop):Prop:=
  ∃ m,F.xcx.l1 Q m p0 p1 p2 (p0.len:Int) 0 (p0.len:Int) h
theorem F.xcx_ok {p0:Sl}{p1:Int}{p2:Value}{h:H}{Q:Int->Bool->H->Prop}(H:F.xcx p0 p1 p2 h Q):Fn PP 126 ([p0.enc,(.int .i64 p1),p2]:List Value).toArray h fun r h'=>∃ r0 r1,r=.tuple #[(.int .i64 r0),(.bool r1)]∧Q r0 r1 h':=by
 unfold F.xcx at H;refine aV Tryz.func126 Tryz.ntmps126 rfl rfl fun w0=>(az [(0,p0.enc),(1,(.int .i64 p1)),(2,p2)] ⟨rfl,rfl,rfl,tv⟩ (sr (qa rfl (qa rfl (nt (sr (qm rfl (tq (bB (ts:=#[]) Zc (o:=p0.ptr) (n:=p0.len) (cap:=p0.cap) rfl) (qa rfl (bo ?_))))))))));refine aa (sr (qm rfl (qa rfl (qa rfl (nt (aj (aB ?_)))))));obtain ⟨m17,H⟩:=H;refine az [(0,p0.enc),(1,(.int .i64 p1)),(2,p2),(8,(.int .i64 (p0.len:Int))),(9,(.int .i64 0)),(10,(.int .i64 (p0.len:Int)))] ⟨rfl,rfl,rfl,rfl,rfl,rfl,tv⟩ ?_;refine aY (fun m L' h=>∃ (x0:Sl) (x1:Int) (x2:Value) (x8:Int) (x9:Int) (x10:Int),L'=[(0,x0.enc),(1,(.int .i64 x1)),(2,x2),(8,(.int .i64 x8)),(9,(.int .i64 x9)),(10,(.int .i64 x10))]∧F.xcx.l1 Q m x0 x1 x2 x8 x9 x10 h) ?_ ?_ m17 ⟨_,_,_,_,_,_,rfl,H⟩
 ·rintro L' h ⟨_,_,_,_,_,_,_,H⟩;exact H
 ·rintro q1 L' h ⟨x0,x1,x2,x8,x9,x10,rfl,H⟩;unfold F.xcx.l1 at H;refine aj (sr (qm rfl (qm rfl (tq (bN rfl rfl) (nt ?_)))));refine am rfl (fun g1=>?_) (fun g1=>?_)
  ·replace H:=H.1 g1;refine au (aa (aB (sr (qm rfl (qm rfl (tq (bE rfl rfl) (tq (fN Z7 Tryz.runUnderlying177 rfl) ?_)))))));obtain ⟨e2,H⟩:=H;refine tq (li rfl rfl e2) (tq (fN Tryz.runUnderlying177 Z7 rfl) (qa rfl (nt (sr (qm rfl (qm rfl (qm rfl ?_)))))));obtain ⟨a3,e4,H⟩:=H;refine tq (bf (s:=x0) Zc Zh rfl rfl e4) ?_;obtain ⟨y5,k6,H⟩:=H;refine th (aQ ZBN Zh rfl rfl) k6 (qm rfl (te (nk rfl rfl H) ?_));rintro _ h7 ⟨r8,rfl,H⟩;refine tq (bN rfl rfl) (nt ?_);refine am rfl (fun g9=>?_) (fun g9=>?_)
   ·replace H:=H.1 g9;refine ai (qm rfl (tq (bE rfl rfl) (qa rfl (bo (aI (aa ?_))))));exact ah [(0,x0.enc),(1,(.int .i64 x1)),(2,x2),(8,(.int .i64 x8)),(9,(.int .i64 (IntKind.wrap .i64 ((IntKind.wrap .i64 (Int.fdiv (IntKind.wrap .u64 (IntKind.wrap .i64 (x9+x10))) (2 ^ (min (1:Int).toNat (IntKind.bits .u64)):Int)))+1)))),(10,(.int .i64 x10))] ⟨rfl,rfl,rfl,rfl,rfl,rfl,tv⟩ ⟨_,_,_,_,_,_,rfl,H⟩
   ·replace H:=H.2 g9;refine ai (qm rfl (qa rfl (bo (aI (aa ?_)))));exact ah [(0,x0.enc),(1,(.int .i64 x1)),(2,x2),(8,(.int .i64 x8)),(9,(.int .i64 x9)),(10,(.int .i64 (IntKind.wrap .i64 (Int.fdiv (IntKind.wrap .u64 (IntKind.wrap .i64 (x9+x10))) (2 ^ (min (1:Int).toNat (IntKind.bits .u64)):Int)))))] ⟨rfl,rfl,rfl,rfl,rfl,rfl,tv⟩ ⟨_,_,_,_,_,_,rfl,H⟩
  ·replace H:=H.2 g1;refine bC (aF (aF (bV (aa (sr (qm rfl (qm rfl (qm rfl (tq (bN rfl rfl) (qm rfl ?_))))))))));refine aT (t:=39) rfl (fun g10=>?_) (fun g10=>?_)
   ·replace H:=H.1 g10;refine qm rfl (qm rfl (qm rfl ?_));obtain ⟨a11,e12,H⟩:=H;refine tq (bf (s:=x0) Zc Zh rfl rfl e12) ?_;obtain ⟨y13,k14,H⟩:=H;refine th (aQ ZBN Zh rfl rfl) k14 (qm rfl (te (nk rfl rfl H) ?_));rintro _ h15 ⟨r16,rfl,H⟩;refine tq (ct rfl rfl) (tq (aL rfl rfl) (qa rfl (qa rfl (nt (al ?_)))));exact cw rfl rfl rfl ⟨_,_,rfl,H⟩
   ·replace H:=H.2 g10;refine ts (ts (ts (ts (ts (ts (ts (ts (tq (aH rfl rfl) (qa rfl (qa rfl (nt (al ?_))))))))))));exact cw rfl rfl rfl ⟨_,_,rfl,H⟩
def F.xfl (p0:aM) (p1:Int) (h:H) (Q:Int->H->Prop):Prop:=
  new h p0.cells.toArray mT fun a2 h1 =>
  ldI .i64 h1 (a2.add 0) fun y3 =>
  ((decide (y3<=p1))=true ->
  Q (-1) h1) ∧
  ((decide (y3<=p1))=false ->
  Q 1 h1)
theorem F.xfl_ok {p0:aM}{p1:Int}{h:H}{Q:Int->H->Prop}(H:F.xfl p0 p1 h Q):Fn PP 127 ([(.agg p0.cells.toArray),(.int .i64 p1)]:List Value).toArray h fun r h'=>∃ r0,r=(.int .i64 r0)∧Q r0 h':=by
 unfold F.xfl at H;refine aV Tryz.func127 Tryz.ntmps127 rfl rfl fun w0=>(az [(0,(.agg p0.cells.toArray)),(1,(.int .i64 p1))] ⟨rfl,rfl,tv⟩ (sr (te (cb (cs:=p0.cells.toArray) rfl rfl H) ?_)));rintro _ h1 ⟨a2,rfl,H⟩;refine qa rfl (nt (aj (sr (tq (ay (off:=0) Z8 lC rfl) ?_))));obtain ⟨y3,k4,H⟩:=H;refine th (aD ZC rfl) k4 (qm rfl (tq (lh rfl rfl) (nt ?_)));refine am rfl (fun g5=>?_) (fun g5=>?_)
 ·replace H:=H.1 g5;refine sr (qa rfl (nt (al (aq ?_))));exact an rfl rfl ⟨_,rfl,H⟩
 ·replace H:=H.2 g5;refine au (aa (sr (qa rfl (nt (al ?_)))));exact an rfl rfl ⟨_,rfl,H⟩
def F.xcp (p0:Option Addr) (p1:Int) (h:H) (Q:Int->H->Prop):Prop:=
  nn p0 fun a1 =>
  ldL h (a1.add 0) fun y3 =>
  F.xcx y3 p1 (.func (.func 127) #[] #[]) h fun r6 r7 h5 =>
  Q (IntKind.wrap .i64 (r6-1)) h5
theorem F.xcp_ok {p0:Option Addr}{p1:Int}{h:H}{Q:Int->H->Prop}(H:F.xcp p0 p1 h Q):Fn PP 100 ([(.pointer p0),(.int .i64 p1)]:List Value).toArray h fun r h'=>∃ r0,r=(.int .i64 r0)∧Q r0 h':=by
 unfold F.xcp at H;refine aV Tryz.func100 Tryz.ntmps100 rfl rfl fun w0=>(az [(0,(.pointer p0)),(1,(.int .i64 p1))] ⟨rfl,rfl,tv⟩ (sr (qa rfl (nt (sr (qm rfl ?_))))));obtain ⟨a1,e2,H⟩:=H;refine tq (bG rfl e2) (tq (ay (off:=0) Zp dN rfl) ?_);obtain ⟨y3,k4,H⟩:=H;refine th (aD Zu rfl) k4 (qm rfl (te (av Tryz.call126 rfl (F.xcx_ok H)) ?_));rintro _ h5 ⟨r6,r7,rfl,H⟩;refine qm rfl (tq (bW rfl rfl) (tq (bW rfl rfl) (qa rfl (qa rfl (nt (sr (qm rfl (tq (cJ rfl rfl) (qa rfl (nt ?_))))))))));refine al ?_;exact an rfl rfl ⟨_,rfl,H⟩
def F.xbz.j1 (Q:ag->Bool->H->Prop) (x4:Addr) (h:H):Prop:=
  bh h x4 fun y3 =>
  stH h x4 y3.cells fun h5 =>
  bh h5 x4 fun y6 =>
  Q y6 false h5
def F.xbz.j2 (Q:ag->Bool->H->Prop) (x0:Option Addr) (x4:Addr) (x6:Int) (x22:Bool) (h:H):Prop:=
  (x22=true ->
  nn x0 fun a11 =>
  ldL h (a11.add 0) fun y13 =>
  bD y13 x6 6 fun a15 =>
  bh h (a15.add 1) fun y17 =>
  stH h x4 y17.cells fun h19 =>
  bh h19 x4 fun y20 =>
  Q y20 true h19) ∧
  (x22=false ->
  F.xbz.j1 Q x4 h)
def F.xbz (p0:Option Addr) (p1:Int) (h:H) (Q:ag->Bool->H->Prop):Prop:=
  new h (((⟨0,0,0,0⟩:ag):ag).cells.toArray) gz fun a2 h1 =>
  F.xcp p0 p1 h1 fun r9 h8 =>
  ((decide (r9>=0))=true ->
  nn p0 fun a23 =>
  ldL h8 (a23.add 0) fun y25 =>
  bD y25 r9 6 fun a27 =>
  ldB h8 (a27.add 5) fun y29 =>
  F.xbz.j2 Q p0 a2 r9 (!y29) h8) ∧
  ((decide (r9>=0))=false ->
  F.xbz.j2 Q p0 a2 r9 false h8)
theorem F.xbz_ok {p0:Option Addr}{p1:Int}{h:H}{Q:ag->Bool->H->Prop}(H:F.xbz p0 p1 h Q):Fn PP 108 ([(.pointer p0),(.int .i64 p1)]:List Value).toArray h fun r h'=>∃ r0 r1,r=.tuple #[(.agg r0.cells.toArray),(.bool r1)]∧Q r0 r1 h':=by
 unfold F.xbz at H;refine aV Tryz.func108 Tryz.ntmps108 rfl rfl fun w0=>(az [(0,(.pointer p0)),(1,(.int .i64 p1))] ⟨rfl,rfl,tv⟩ (sr (te (bJ (cs:=((⟨0,0,0,0⟩:ag):ag).cells.toArray) Zo rfl H) ?_)));rintro _ h1 ⟨a2,rfl,H⟩;refine qa rfl (nt ?_);refine aG (fun L' h=>∃ (x4:Addr),L'=[(4,(.pointer (some x4)))]∧F.xbz.j1 Q x4 h) ?_ ?_
 ·rintro L' h ⟨x4,rfl,H⟩;unfold F.xbz.j1 at H;refine sr ?_;obtain ⟨y3,k4,H⟩:=H;refine th (aQ ZK ZD rfl rfl) k4 (te (aK (vs:=y3.cells) ZD rfl rfl ax rfl (by intro v hv;exact bt _ v hv) H) ?_);rintro _ h5 ⟨rfl,H⟩;refine qa rfl (nt (al ?_));obtain ⟨y6,k7,H⟩:=H;exact gG rfl (bY ZK ZD rfl rfl k7) (fm rfl) ⟨_,_,rfl,H⟩
 ·refine sr (qm rfl (qm rfl (te (av Tryz.call100 rfl (F.xcp_ok H)) ?_)));rintro _ h8 ⟨r9,rfl,H⟩;refine qa rfl (nt ?_);refine aG (fun L' h=>∃ (x0:Option Addr) (x4:Addr) (x6:Int) (x22:Bool),L'=[(0,(.pointer x0)),(4,(.pointer (some x4))),(6,(.int .i64 x6)),(22,(.bool x22))]∧F.xbz.j2 Q x0 x4 x6 x22 h) ?_ ?_
  ·rintro L' h ⟨x0,x4,x6,x22,rfl,H⟩;unfold F.xbz.j2 at H;refine am rfl (fun g10=>?_) (fun g10=>?_)
   ·replace H:=H.1 g10;refine sr (qm rfl ?_);obtain ⟨a11,e12,H⟩:=H;refine tq (bG rfl e12) (tq (ay (off:=0) Zp dN rfl) ?_);obtain ⟨y13,k14,H⟩:=H;refine th (aD Zu rfl) k14 (qm rfl ?_);obtain ⟨a15,e16,H⟩:=H;refine tq (bf (s:=y13) Zc Zh rfl rfl e16) (tq (ay (off:=1) Z8 uH rfl) ?_);obtain ⟨y17,k18,H⟩:=H;refine th (aQ ZK ZD rfl rfl) k18 (te (aK (vs:=y17.cells) ZD rfl rfl ax rfl (by intro v hv;exact bt _ v hv) H) ?_);rintro _ h19 ⟨rfl,H⟩;refine qa rfl (nt (al (aq ?_)));obtain ⟨y20,k21,H⟩:=H;exact gG rfl (bY ZK ZD rfl rfl k21) (fm rfl) ⟨_,_,rfl,H⟩
   ·replace H:=H.2 g10;refine au (aa ?_);exact ah [(4,(.pointer (some x4)))] ⟨rfl,tv⟩ ⟨_,rfl,H⟩
  ·refine ai (qm rfl (tq (jT rfl rfl) (qm rfl ?_)));refine aT (t:=12) rfl (fun g22=>?_) (fun g22=>?_)
   ·replace H:=H.1 g22;refine qm rfl ?_;obtain ⟨a23,e24,H⟩:=H;refine tq (bG rfl e24) (tq (ay (off:=0) Zp dN rfl) ?_);obtain ⟨y25,k26,H⟩:=H;refine th (aD Zu rfl) k26 (qm rfl ?_);obtain ⟨a27,e28,H⟩:=H;refine tq (bf (s:=y25) Zc Zh rfl rfl e28) (tq (ay (off:=5) Z8 qC rfl) ?_);obtain ⟨y29,k30,H⟩:=H;refine th (aD Zj rfl) k30 (tq (eI rfl) (tq (aL rfl rfl) (nt ?_)));exact ah [(0,(.pointer p0)),(4,(.pointer (some a2))),(6,(.int .i64 r9)),(22,(.bool (!y29)))] ⟨rfl,rfl,rfl,rfl,tv⟩ ⟨_,_,_,_,rfl,H⟩
   ·replace H:=H.2 g22;refine ts (ts (ts (ts (ts (ts (ts (ts (ts (tq (aH rfl rfl) (nt ?_))))))))));exact ah [(0,(.pointer p0)),(4,(.pointer (some a2))),(6,(.int .i64 r9)),(22,(.bool false))] ⟨rfl,rfl,rfl,rfl,tv⟩ ⟨_,_,_,_,rfl,H⟩
def F.xdq (p0:Option Addr) (p1:Int) (h:H) (Q:ag->Bool->H->Prop):Prop:=
  new h (((⟨0,0,0,0⟩:ag):ag).cells.toArray) gz fun a2 h1 =>
  (p0.isNone=true ->
  stH h1 a2 ((⟨0,0,0,0⟩:ag).cells) fun h4 =>
  bh h4 a2 fun y5 =>
  Q y5 false h4) ∧
  (p0.isNone=false ->
  (((p1 == 0))=true ->
  F.xdc p0 h1 fun r9 r10 r11 h8 =>
  new h8 (((⟨0,0,0,0⟩:ag):ag).cells.toArray) gz fun a13 h12 =>
  stH h12 a13 r9.cells fun h14 =>
  bh h14 a13 fun y15 =>
  stH h14 a2 y15.cells fun h17 =>
  bh h17 a2 fun y18 =>
  Q y18 r11 h17) ∧
  (((p1 == 0))=false ->
  F.xbz p0 p1 h1 fun r21 r22 h20 =>
  stH h20 a2 r21.cells fun h23 =>
  bh h23 a2 fun y24 =>
  Q y24 r22 h23))
theorem F.xdq_ok {p0:Option Addr}{p1:Int}{h:H}{Q:ag->Bool->H->Prop}(H:F.xdq p0 p1 h Q):Fn PP 71 ([(.pointer p0),(.int .i64 p1)]:List Value).toArray h fun r h'=>∃ r0 r1,r=.tuple #[(.agg r0.cells.toArray),(.bool r1)]∧Q r0 r1 h':=by
 unfold F.xdq at H;refine aV Tryz.func71 Tryz.ntmps71 rfl rfl fun w0=>(az [(0,(.pointer p0)),(1,(.int .i64 p1))] ⟨rfl,rfl,tv⟩ (sr (te (bJ (cs:=((⟨0,0,0,0⟩:ag):ag).cells.toArray) Zo rfl H) ?_)));rintro _ h1 ⟨a2,rfl,H⟩;refine qa rfl (nt (aj (sr (qm rfl (tq (iG Tryz.runUnderlying107 rfl rfl) (nt ?_))))));refine am rfl (fun g3=>?_) (fun g3=>?_)
 ·replace H:=H.1 g3;refine sr (tq (bO rfl (od )) (te (aK (vs:=(⟨0,0,0,0⟩:ag).cells) ZD rfl rfl ax rfl (by intro v hv;exact bt _ v hv) H) ?_));rintro _ h4 ⟨rfl,H⟩;refine qa rfl (nt (al (aq ?_)));obtain ⟨y5,k6,H⟩:=H;exact gG rfl (bY ZK ZD rfl rfl k6) (fm rfl) ⟨_,_,rfl,H⟩
 ·replace H:=H.2 g3;refine au (aa (aj (sr (qm rfl (tq (ct rfl rfl) (nt ?_))))));refine am rfl (fun g7=>?_) (fun g7=>?_)
  ·replace H:=H.1 g7;refine sr (qm rfl (te (av Tryz.call65 rfl (F.xdc_ok H)) ?_));rintro _ h8 ⟨r9,r10,r11,rfl,H⟩;refine qm rfl (tq (bW rfl rfl) (tq (bW rfl rfl) (tq (bW rfl rfl) (te (bJ (cs:=((⟨0,0,0,0⟩:ag):ag).cells.toArray) Zo rfl H) ?_))));rintro _ h12 ⟨a13,rfl,H⟩;refine te (aK (vs:=r9.cells) ZD rfl rfl ax rfl (by intro v hv;exact bt _ v hv) H) ?_;rintro _ h14 ⟨rfl,H⟩;refine qa rfl (qa rfl (nt (sr ?_)));obtain ⟨y15,k16,H⟩:=H;refine th (aQ ZK ZD rfl rfl) k16 (qm rfl (te (aK (vs:=y15.cells) ZD rfl rfl ax rfl (by intro v hv;exact bt _ v hv) H) ?_));rintro _ h17 ⟨rfl,H⟩;refine qa rfl (nt (al (aq ?_)));obtain ⟨y18,k19,H⟩:=H;exact gG rfl (bY ZK ZD rfl rfl k19) (fm rfl) ⟨_,_,rfl,H⟩
  ·replace H:=H.2 g7;refine au (aa (sr (qm rfl (qm rfl (te (av Tryz.call108 rfl (F.xbz_ok H)) ?_)))));rintro _ h20 ⟨r21,r22,rfl,H⟩;refine tq (bW rfl rfl) (tq (bW rfl rfl) (te (aK (vs:=r21.cells) ZD rfl rfl ax rfl (by intro v hv;exact bt _ v hv) H) ?_));rintro _ h23 ⟨rfl,H⟩;refine qa rfl (nt (al ?_));obtain ⟨y24,k25,H⟩:=H;exact gG rfl (bY ZK ZD rfl rfl k25) (fm rfl) ⟨_,_,rfl,H⟩
def F.xat.j1 (Q:Sl->H->Prop) (ds:List Nat) (x11:Addr) (h:H):Prop:=
  ldL h x11 fun y14 =>
  lO ds h fun h16 =>
  Q y14 h16
def F.xat.j2 (Q:Sl->H->Prop) (K1:H->Prop) (J1:Nat->H->Prop) (l1:Nat) (x11:Addr) (x15:Addr) (x17:Addr) (x47:Bool) (h:H):Prop:=
  (x47=true ->
  ldL h x11 fun y44 =>
  ak h x15 fun y46 =>
  bh h x17 fun y48 =>
  fv h (((⟨y46,y48⟩:aO).cells).toArray) mx 1 fun s51 h50 =>
  dA PP (Builtin.append_ #[51,51] 51 #[y44.enc,s51.enc]) h50 fun s53 h52 =>
  stH h52 x11 [s53.enc] fun h54 =>
  K1 h54) ∧
  (x47=false ->
  K1 h)
def F.xat (p0:Option Addr) (p1:Int) (p2:ae) (p3:ae) (p4:Int) (h:H) (Q:Sl->H->Prop):Prop:=
  new h #[(.int .i64 p1)] rL fun a2 h1 =>
  new h1 p2.cells.toArray cH fun a4 h3 =>
  new h3 p3.cells.toArray cH fun a6 h5 =>
  new h5 #[(.int .i64 p4)] rL fun a8 h7 =>
  new h7 #[(⟨none,0,0⟩:Sl).enc] AY fun a10 h9 =>
  new h9 #[.nilFunc] Dn fun a12 h11 =>
  stH h11 a12 [(.func (.func 72) #[] #[(.pointer (some a4)),(.pointer (some a6))])] fun h13 =>
  nn p0 fun a17 =>
  ldP h13 (a17.add 3) fun y19 =>
  F.xai y19 h13 fun r22 h21 =>
  rng PP r22 h21 [Code.exit 0] (fun bg1 l1 args h K1 J1=>∃ (y1_25:ByteArray),∃ (y1_26:Option Addr),args=[(.string y1_25),(.pointer y1_26)] ∧
    bg1 h fun h23 =>
    ldL h23 a10 fun y24 =>
    ldI .i64 h23 a8 fun y26 =>
    ((decide ((y24.len:Int)>=y26))=true ->
    J1 0 h23) ∧
    ((decide ((y24.len:Int)>=y26))=false ->
    F.xbi y1_25 h23 fun r30 r31 h29 =>
    new h29 (((⟨0,(⟨#[]⟩:ByteArray),0⟩:ae):ae).cells.toArray) cH fun a33 h32 =>
    stH h32 a33 r30.cells fun h34 =>
    ldI .i64 h34 a2 fun y35 =>
    F.xdq y1_26 y35 h34 fun r38 r39 h37 =>
    new h37 (((⟨0,0,0,0⟩:ag):ag).cells.toArray) gz fun a41 h40 =>
    stH h40 a41 r38.cells fun h42 =>
    (r39=true ->
    ldV h42 a12 fun y56 =>
    ak h42 a33 fun y58 =>
    CV PP y56 [(.agg y58.cells.toArray)] h42 fun u h60=>∃ (r61:Bool),u=(.bool r61) ∧
    F.xat.j2 Q K1 J1 l1 a10 a33 a41 r61 h60) ∧
    (r39=false ->
    F.xat.j2 Q K1 J1 l1 a10 a33 a41 false h42))) (fun h62 =>
    F.xat.j1 Q (h21.size :: ([]:List Nat)) a10 h62) (fun jj h63 =>
    (jj=0 ->
      F.xat.j1 Q (h21.size :: ([]:List Nat)) a10 h63))
theorem F.xat_ok {p0:Option Addr}{p1:Int}{p2:ae}{p3:ae}{p4:Int}{h:H}{Q:Sl->H->Prop}(H:F.xat p0 p1 p2 p3 p4 h Q):Fn PP 39 ([(.pointer p0),(.int .i64 p1),(.agg p2.cells.toArray),(.agg p3.cells.toArray),(.int .i64 p4)]:List Value).toArray h fun r h'=>∃ r0,r=r0.enc∧Q r0 h':=by
  unfold F.xat at H
  refine tH Tryz.func39 Tryz.ntmps39 rfl rfl fun w0=>?_
  refine az [(0,(.pointer p0)),(1,(.int .i64 p1)),(2,(.agg p2.cells.toArray)),(3,(.agg p3.cells.toArray)),(4,(.int .i64 p4))] ⟨rfl,rfl,rfl,rfl,rfl,tv⟩ ?_
  refine aj ?_
  refine ai ?_
  refine te (cb (cs:=#[(.int .i64 p1)]) rfl rfl H) ?_
  rintro _ h1 ⟨a2,rfl,H⟩
  refine te (cb (cs:=p2.cells.toArray) rfl rfl H) ?_
  rintro _ h3 ⟨a4,rfl,H⟩
  refine te (cb (cs:=p3.cells.toArray) rfl rfl H) ?_
  rintro _ h5 ⟨a6,rfl,H⟩
  refine te (cb (cs:=#[(.int .i64 p4)]) rfl rfl H) ?_
  rintro _ h7 ⟨a8,rfl,H⟩
  refine cm (bp rfl) rfl rfl ?_
  refine bo ?_
  refine aa ?_
  refine aj ?_
  refine ai ?_
  refine te (bJ (cs:=#[(⟨none,0,0⟩:Sl).enc]) Tryz.zeroValue51 rfl H) ?_
  rintro _ h9 ⟨a10,rfl,H⟩
  refine bo ?_
  refine aa ?_
  refine aj ?_
  refine ai ?_
  refine cm (Dv rfl rfl) rfl rfl ?_
  refine te (bJ (cs:=#[.nilFunc]) Tryz.zeroValue128 rfl H) ?_
  rintro _ h11 ⟨a12,rfl,H⟩
  refine te (aK (vs:=[(.func (.func 72) #[] #[(.pointer (some a4)),(.pointer (some a6))])]) Tryz.sizeOf128 rfl rfl rfl rfl (de (by rfl)) H) ?_
  rintro _ h13 ⟨rfl,H⟩
  refine bo ?_
  refine aa ?_
  refine yX (fun ds L' h=>∃ (x11:Addr),L'=[(11,(.pointer (some x11)))]∧F.xat.j1 Q ds x11 h) ?_ ?_
  · rintro ds L' h ⟨x11,rfl,H⟩
    unfold F.xat.j1 at H
    refine aj ?_
    refine ai ?_
    obtain ⟨y14,k15,H⟩:=H
    refine th (aD ZBB rfl) k15 ?_
    refine cm (bp rfl) rfl rfl ?_
    refine bo ?_
    refine aa ?_
    refine al ?_
    refine nV ds rfl H fun h16 H=>?_
    exact an rfl rfl ⟨_,rfl,H⟩
  · refine aj ?_
    refine ai ?_
    refine cm (aw rfl) rfl rfl ?_
    obtain ⟨a17,e18,H⟩:=H
    refine cm (bG rfl e18) rfl rfl ?_
    refine cm (ay (off:=3) ZU kR rfl) rfl rfl ?_
    obtain ⟨y19,k20,H⟩:=H
    refine th (aD Tryz.isAgg72 rfl) k20 ?_
    refine te (av Tryz.call59 rfl (F.xai_ok H)) ?_
    rintro r22 h21 ⟨_,rfl,H⟩
    refine bo ?_
    refine aa ?_
    refine aB ?_
    refine nU rfl (by kernel_rfl) H ?_ ?_ ?_
    · intro bg1 l1 args h K1 J1 w1 hbg1 H
      obtain ⟨y1_25,y1_26,rfl,H⟩:=H
      refine ⟨rfl,?_⟩
      refine az [(0,(.pointer p0)),(1,(.int .i64 p1)),(2,(.agg p2.cells.toArray)),(3,(.agg p3.cells.toArray)),(4,(.int .i64 p4)),(6,(.pointer (some a2))),(7,(.pointer (some a4))),(8,(.pointer (some a6))),(9,(.pointer (some a8))),(10,(⟨none,0,0⟩:Sl).enc),(11,(.pointer (some a10))),(19,(.func (.func 72) #[] #[(.pointer (some a4)),(.pointer (some a6))])),(12,(.pointer (some a12))),(20,(.pointer p0)),(21,(.pointer (some a17))),(22,(.pointer (some (a17.add 3)))),(23,(.pointer y19)),(24,r22),(25,(.string y1_25)),(26,(.pointer y1_26))] ⟨rfl,rfl,rfl,rfl,rfl,rfl,rfl,rfl,rfl,rfl,rfl,rfl,rfl,rfl,rfl,rfl,rfl,rfl,rfl,rfl,tv⟩ ?_
      refine aj ?_
      refine ai ?_
      refine cm (bp rfl) rfl rfl ?_
      refine bo ?_
      refine aa ?_
      refine ai ?_
      refine cm (bp rfl) rfl rfl ?_
      refine bo ?_
      refine aa ?_
      refine ui hbg1 H fun h23 H=>?_
      refine aB ?_
      refine aj ?_
      refine aj ?_
      refine ai ?_
      obtain ⟨y24,k25,H⟩:=H
      refine th (aD ZBB rfl) k25 ?_
      refine cm (bB (ts:=#[]) ZW (o:=y24.ptr) (n:=y24.len) (cap:=y24.cap) rfl) rfl rfl ?_
      obtain ⟨y26,k27,H⟩:=H
      refine th (aD ZC rfl) k27 ?_
      refine cm (jT rfl rfl) rfl rfl ?_
      refine bo ?_
      refine aa ?_
      refine am rfl (fun g28=>?_) (fun g28=>?_)
      · replace H:=H.1 g28
        refine bC ?_
        refine aF ?_
        refine nT rfl ?_
        exact D9 0 rfl H
      · replace H:=H.2 g28
        refine au ?_
        refine aa ?_
        refine aj ?_
        refine ai ?_
        refine cm (aw rfl) rfl rfl ?_
        refine te (av Tryz.call73 rfl (F.xbi_ok H)) ?_
        rintro _ h29 ⟨r30,r31,rfl,H⟩
        refine cm (aw rfl) rfl rfl ?_
        refine cm (bW rfl rfl) rfl rfl ?_
        refine cm (bW rfl rfl) rfl rfl ?_
        refine te (bJ (cs:=((⟨0,(⟨#[]⟩:ByteArray),0⟩:ae):ae).cells.toArray) ZBP rfl H) ?_
        rintro _ h32 ⟨a33,rfl,H⟩
        refine te (aK (vs:=r30.cells) ZA rfl rfl ax rfl (by intro v hv;exact bz _ v hv) H) ?_
        rintro _ h34 ⟨rfl,H⟩
        refine cm (bp rfl) rfl rfl ?_
        refine bo ?_
        refine aa ?_
        refine aj ?_
        refine ai ?_
        refine cm (aw rfl) rfl rfl ?_
        obtain ⟨y35,k36,H⟩:=H
        refine th (aD ZC rfl) k36 ?_
        refine te (av Tryz.call71 rfl (F.xdq_ok H)) ?_
        rintro _ h37 ⟨r38,r39,rfl,H⟩
        refine cm (aw rfl) rfl rfl ?_
        refine cm (bW rfl rfl) rfl rfl ?_
        refine cm (bW rfl rfl) rfl rfl ?_
        refine te (bJ (cs:=((⟨0,0,0,0⟩:ag):ag).cells.toArray) Zo rfl H) ?_
        rintro _ h40 ⟨a41,rfl,H⟩
        refine te (aK (vs:=r38.cells) ZD rfl rfl ax rfl (by intro v hv;exact bt _ v hv) H) ?_
        rintro _ h42 ⟨rfl,H⟩
        refine cm (bp rfl) rfl rfl ?_
        refine bo ?_
        refine aa ?_
        refine aG (fun L' h=>∃ (x11:Addr) (x15:Addr) (x17:Addr) (x47:Bool),L'=[(11,(.pointer (some x11))),(15,(.pointer (some x15))),(17,(.pointer (some x17))),(47,(.bool x47))]∧F.xat.j2 Q K1 J1 l1 x11 x15 x17 x47 h) ?_ ?_
        · rintro L' h ⟨x11,x15,x17,x47,rfl,H⟩
          unfold F.xat.j2 at H
          refine am rfl (fun g43=>?_) (fun g43=>?_)
          · replace H:=H.1 g43
            refine ai ?_
            obtain ⟨y44,k45,H⟩:=H
            refine th (aD ZBB rfl) k45 ?_
            obtain ⟨y46,k47,H⟩:=H
            refine th (aQ ZB ZA rfl rfl) k47 ?_
            obtain ⟨y48,k49,H⟩:=H
            refine th (aQ ZK ZD rfl rfl) k49 ?_
            refine cm (bO rfl (j9 y46 y48)) rfl rfl ?_
            refine te (co (cs:=((⟨y46,y48⟩:aO).cells).toArray) rfl rfl (lX (⟨y46,y48⟩:aO)) H) ?_
            rintro _ h50 ⟨s51,rfl,H⟩
            refine te (dV rfl H) ?_
            rintro _ h52 ⟨s53,rfl,H⟩
            refine te (aK (vs:=[s53.enc]) Tryz.sizeOf51 rfl rfl rfl rfl (de rfl) H) ?_
            rintro _ h54 ⟨rfl,H⟩
            refine bo ?_
            refine aI ?_
            exact sX H
          · replace H:=H.2 g43
            refine au ?_
            refine aI ?_
            exact sX H
        · refine ai ?_
          refine cm (aw rfl) rfl rfl ?_
          refine cm (aw rfl) rfl rfl ?_
          refine aT (t:=43) rfl (fun g55=>?_) (fun g55=>?_)
          · replace H:=H.1 g55
            obtain ⟨y56,k57,H⟩:=H
            refine th (aD Tryz.isAgg128 rfl) k57 ?_
            obtain ⟨y58,k59,H⟩:=H
            refine th (aQ ZB ZA rfl rfl) k59 ?_
            refine te (nk rfl rfl H) ?_
            rintro _ h60 ⟨r61,rfl,H⟩
            refine cm (aL rfl rfl) rfl rfl ?_
            refine bo ?_
            refine aa ?_
            exact ah [(11,(.pointer (some a10))),(15,(.pointer (some a33))),(17,(.pointer (some a41))),(47,(.bool r61))] ⟨rfl,rfl,rfl,rfl,tv⟩ ⟨_,_,_,_,rfl,H⟩
          · replace H:=H.2 g55
            refine kE rfl rfl ?_
            refine kE rfl rfl ?_
            refine kE rfl rfl ?_
            refine cm (aH rfl rfl) rfl rfl ?_
            refine bo ?_
            refine aa ?_
            exact ah [(11,(.pointer (some a10))),(15,(.pointer (some a33))),(17,(.pointer (some a41))),(47,(.bool false))] ⟨rfl,rfl,rfl,rfl,tv⟩ ⟨_,_,_,_,rfl,H⟩
    · intro h62 H
      refine aI ?_
      refine aa ?_
      exact rq (h21.size :: ([]:List Nat)) [(11,(.pointer (some a10)))] rfl ⟨rfl,tv⟩ ⟨_,rfl,H⟩
    · intro jj c h63 hjc H
      rcases jj with _ | jj
      · obtain rfl:Code.exit 0=c:=by simpa using hjc
        replace H:=H rfl
        refine bC ?_
        refine bV ?_
        refine aa ?_
        exact rq (h21.size :: ([]:List Nat)) [(11,(.pointer (some a10)))] rfl ⟨rfl,tv⟩ ⟨_,rfl,H⟩
      · simp at hjc
def F.xdg (p0:Sl) (h:H) (Q:Int->H->Prop):Prop:=
  Q (p0.len:Int) h
theorem F.xdg_ok {p0:Sl}{h:H}{Q:Int->H->Prop}(H:F.xdg p0 h Q):Fn PP 204 ([p0.enc]:List Value).toArray h fun r h'=>∃ r0,r=(.int .i64 r0)∧Q r0 h':=by
 unfold F.xdg at H;refine aV Tryz.func204 Tryz.ntmps204 rfl rfl fun w0=>(az [(0,p0.enc)] ⟨rfl,tv⟩ (sr (qa rfl (nt (sr (qm rfl (tq (bB (ts:=#[]) Zs (o:=p0.ptr) (n:=p0.len) (cap:=p0.cap) rfl) (qa rfl (nt ?_)))))))));refine al ?_;exact an rfl rfl ⟨_,rfl,H⟩
def F.xdl (p0:Sl) (p1:Int) (p2:Int) (h:H) (Q:Bool->H->Prop):Prop:=
  bD p0 p1 2 fun a1 =>
  ldL h (a1.add 0) fun y3 =>
  bD y3 0 7 fun a5 =>
  ak h (a5.add 0) fun y7 =>
  bD p0 p2 2 fun a9 =>
  ldL h (a9.add 0) fun y11 =>
  bD y11 0 7 fun a13 =>
  ak h (a13.add 0) fun y15 =>
  bD p0 p1 2 fun a17 =>
  ldI .i64 h (a17.add 1) fun y19 =>
  bD p0 p2 2 fun a21 =>
  ldI .i64 h (a21.add 1) fun y23 =>
  F.xdi y7 y15 h fun r26 h25 =>
  aA h25 (a21.add 1)=some (.int .i64 y23) ∧
  aA h25 (a17.add 1)=some (.int .i64 y19) ∧
  F.xcm y19 y23 h25 fun r30 h29 =>
  fv h29 #[(.int .i64 r26),(.int .i64 r30)] rL 2 fun s32 h31 =>
  F.xbg s32 h31 fun r34 h33 =>
  Q (decide (r34<0)) h33
theorem F.xdl_ok {p0:Sl}{p1:Int}{p2:Int}{h:H}{Q:Bool->H->Prop}(H:F.xdl p0 p1 p2 h Q):Fn PP 205 ([p0.enc,(.int .i64 p1),(.int .i64 p2)]:List Value).toArray h fun r h'=>∃ r0,r=(.bool r0)∧Q r0 h':=by
 unfold F.xdl at H;refine aV Tryz.func205 Tryz.ntmps205 rfl rfl fun w0=>(az [(0,p0.enc),(1,(.int .i64 p1)),(2,(.int .i64 p2))] ⟨rfl,rfl,rfl,tv⟩ (sr (qa rfl (nt (aj (bv mixed [0,0,3,7,15,31,63,127,0,0,768,1792,3840,7936,16128,32512,65535,0,0,393216,917504,1966080,0,0,12582912,29360128,62914560,134217727,268435455,536870911,1073741823,2147483647] (by kernel_rfl) (gq 0 1 rfl (aw rfl) (gq 1 3 rfl (aw rfl) ?_))))))));obtain ⟨a1,e2,H⟩:=H;refine gq 2 7 rfl (bf (s:=p0) Zs Zd rfl rfl e2) (gq 3 15 rfl (ay (off:=0) ZBC kh rfl) ?_);obtain ⟨y3,k4,H⟩:=H;refine gh 4 31 rfl (aD ZBB rfl) k4 ?_;obtain ⟨a5,e6,H⟩:=H;refine gq 5 63 rfl (bf (s:=y3) ZW ZZ rfl rfl e6) (gq 6 127 rfl (ay (off:=0) Zq gZ rfl) ?_);obtain ⟨y7,k8,H⟩:=H;refine gh 7 255 rfl (aQ ZB ZA rfl rfl) k8 (gq 8 511 rfl (aw rfl) (gq 9 1023 rfl (aw rfl) ?_));obtain ⟨a9,e10,H⟩:=H;refine gq 10 2047 rfl (bf (s:=p0) Zs Zd rfl rfl e10) (gq 11 4095 rfl (ay (off:=0) ZBC kh rfl) ?_);obtain ⟨y11,k12,H⟩:=H;refine gh 12 8191 rfl (aD ZBB rfl) k12 ?_;obtain ⟨a13,e14,H⟩:=H;refine gq 13 16383 rfl (bf (s:=y11) ZW ZZ rfl rfl e14) (gq 14 32767 rfl (ay (off:=0) Zq gZ rfl) ?_);obtain ⟨y15,k16,H⟩:=H;refine gh 15 65535 rfl (aQ ZB ZA rfl rfl) k16 (gq 17 196607 rfl (aw rfl) (gq 18 458751 rfl (aw rfl) ?_));obtain ⟨a17,e18,H⟩:=H;refine gq 19 983039 rfl (bf (s:=p0) Zs Zd rfl rfl e18) (gq 20 2031615 rfl (ay (off:=1) ZBC uF rfl) ?_);obtain ⟨y19,k20,H⟩:=H;refine gh 21 4128767 rfl (aD ZC rfl) k20 (gq 22 8323071 rfl (aw rfl) (gq 23 16711679 rfl (aw rfl) ?_));obtain ⟨a21,e22,H⟩:=H;refine gq 24 33488895 rfl (bf (s:=p0) Zs Zd rfl rfl e22) (gq 25 67043327 rfl (ay (off:=1) ZBC uF rfl) ?_);obtain ⟨y23,k24,H⟩:=H;refine gh 26 134152191 rfl (aD ZC rfl) k24 (g_e 16 134217727 [(26,fun h=>aA h (a21.add 1)=some (.int .i64 y23)),(21,fun h=>aA h (a17.add 1)=some (.int .i64 y19))] (by kernel_rfl) rfl (by kernel_rfl) (av Tryz.call17 rfl (F.xdi_ok H)) rfl rfl ?_);rintro _ h25 ⟨r26,rfl,H⟩;obtain ⟨k27,k28,H⟩:=H;refine ⟨And.intro k27 (And.intro k28 trivial),?_⟩;refine g_e 27 268435455 [] (by kernel_rfl) rfl (by kernel_rfl) (av Tryz.call48 rfl (F.xcm_ok H)) rfl rfl ?_;rintro _ h29 ⟨r30,rfl,H⟩;refine ⟨trivial,?_⟩;refine g_e 28 536870911 [] (by kernel_rfl) rfl (by kernel_rfl) (co (cs:=#[(.int .i64 r26),(.int .i64 r30)]) rfl rfl (uw r26 r30) H) rfl rfl ?_;rintro _ h31 ⟨s32,rfl,H⟩;refine ⟨trivial,?_⟩;refine g_e 29 1073741823 [] (by kernel_rfl) rfl (by kernel_rfl) (av Tryz.call47 rfl (F.xbg_ok H)) rfl rfl ?_;rintro _ h33 ⟨r34,rfl,H⟩;refine ⟨trivial,?_⟩;refine gq 30 2147483647 rfl (bN rfl rfl) (gq 31 4294967295 rfl (bp rfl) (g_d (by kernel_rfl) (aa (al ?_))));exact an rfl rfl ⟨_,rfl,H⟩
def F.xdr (p0:Sl) (p1:Int) (p2:Int) (h:H) (Q:H->Prop):Prop:=
  bD p0 p2 2 fun a1 =>
  fX h a1 fun y3 =>
  bD p0 p1 2 fun a5 =>
  fX h a5 fun y7 =>
  bD p0 p1 2 fun a9 =>
  stH h a9 y3.cells fun h11 =>
  bD p0 p2 2 fun a12 =>
  stH h11 a12 y7.cells fun h14 =>
  Q h14
theorem F.xdr_ok {p0:Sl}{p1:Int}{p2:Int}{h:H}{Q:H->Prop}(H:F.xdr p0 p1 p2 h Q):Fn PP 206 ([p0.enc,(.int .i64 p1),(.int .i64 p2)]:List Value).toArray h fun r h'=>r=.tuple #[]∧Q  h':=by
 unfold F.xdr at H;refine aV Tryz.func206 Tryz.ntmps206 rfl rfl fun w0=>(az [(0,p0.enc),(1,(.int .i64 p1)),(2,(.int .i64 p2))] ⟨rfl,rfl,rfl,tv⟩ (bv mixed [0,0,0,0,0,0,48,112,0,0,768,1792,4083,8179,16383,32767] (by kernel_rfl) (gq 0 1 rfl (aw rfl) (gq 1 3 rfl (aw rfl) (gq 2 7 rfl (aw rfl) (gq 3 15 rfl (aw rfl) (gq 4 31 rfl (aw rfl) (gq 5 63 rfl (aw rfl) ?_))))))));obtain ⟨a1,e2,H⟩:=H;refine gq 6 127 rfl (bf (s:=p0) Zs Zd rfl rfl e2) ?_;obtain ⟨y3,k4,H⟩:=H;refine gh 7 255 rfl (aQ Tryz.isAgg101 Zd rfl rfl) k4 (gq 8 511 rfl (aw rfl) (gq 9 1023 rfl (aw rfl) ?_));obtain ⟨a5,e6,H⟩:=H;refine gq 10 2047 rfl (bf (s:=p0) Zs Zd rfl rfl e6) ?_;obtain ⟨y7,k8,H⟩:=H;refine gh 11 4095 rfl (aQ Tryz.isAgg101 Zd rfl rfl) k8 ?_;obtain ⟨a9,e10,H⟩:=H;refine gq 12 8191 rfl (bf (s:=p0) Zs Zd rfl rfl e10) (g_e 13 16383 [] (by kernel_rfl) rfl (by kernel_rfl) (aK (vs:=y3.cells) Zd rfl rfl ax rfl (by intro v hv;exact fl _ v hv) H) rfl rfl ?_);rintro _ h11 ⟨rfl,H⟩;refine ⟨trivial,?_⟩;obtain ⟨a12,e13,H⟩:=H;refine gq 14 32767 rfl (bf (s:=p0) Zs Zd rfl rfl e13) (g_e 15 65535 [] (by kernel_rfl) rfl (by kernel_rfl) (aK (vs:=y7.cells) Zd rfl rfl ax rfl (by intro v hv;exact fl _ v hv) H) rfl rfl ?_);rintro _ h14 ⟨rfl,H⟩;refine ⟨trivial,?_⟩;refine g_d (by kernel_rfl) ?_;exact jk rfl ⟨rfl,H⟩
def F.xad.j1 (Q:Bool->H->Prop) (x1:Int) (x7:Int) (h:H):Prop:=
  Q (decide (x7 > x1)) h
def F.xad.j4 (Q:Bool->H->Prop) (C1:(Option Addr)->Int->Int->Int->H->Prop) (x0:Option Addr) (x1:Int) (x2:Int) (x7:Int) (x9:Int) (h:H):Prop:=
  nn x0 fun a2 =>
  ldL h a2 fun y3 =>
  F.xdl y3 x9 x7 h fun r4 h1 =>
  ((!r4)=true ->
  F.xad.j1 Q x1 x7 h1) ∧
  ((!r4)=false ->
  nn x0 fun a7 =>
  ldL h1 a7 fun y8 =>
  F.xdr y8 x7 x9 h1 fun h6 =>
  C1 x0 x1 x2 x9 h6)
def F.xad.j5 (Q:Bool->H->Prop) (C1:(Option Addr)->Int->Int->Int->H->Prop) (x0:Option Addr) (x1:Int) (x2:Int) (x7:Int) (x9:Int) (x10:Int) (x33:Bool) (h:H):Prop:=
  (x33=true ->
  F.xad.j4 Q C1 x0 x1 x2 x7 x10 h) ∧
  (x33=false ->
  F.xad.j4 Q C1 x0 x1 x2 x7 x9 h)
def F.xad.j3 (Q:Bool->H->Prop) (C1:(Option Addr)->Int->Int->Int->H->Prop) (x0:Option Addr) (x1:Int) (x2:Int) (x7:Int) (x8:Int) (h:H):Prop:=
  ((decide ((IntKind.wrap .i64 (x8+1))<x2))=true ->
  nn x0 fun a12 =>
  ldL h a12 fun y13 =>
  F.xdl y13 (IntKind.wrap .i64 (x8+1)) x8 h fun r14 h11 =>
  F.xad.j5 Q C1 x0 x1 x2 x7 x8 (IntKind.wrap .i64 (x8+1)) r14 h11) ∧
  ((decide ((IntKind.wrap .i64 (x8+1))<x2))=false ->
  F.xad.j5 Q C1 x0 x1 x2 x7 x8 (IntKind.wrap .i64 (x8+1)) false h)
def F.xad.j6 (Q:Bool->H->Prop) (C1:(Option Addr)->Int->Int->Int->H->Prop) (x0:Option Addr) (x1:Int) (x2:Int) (x7:Int) (x8:Int) (x21:Bool) (h:H):Prop:=
  (x21=true ->
  F.xad.j1 Q x1 x7 h) ∧
  (x21=false ->
  F.xad.j3 Q C1 x0 x1 x2 x7 x8 h)
def F.xad.l2 (Q:Bool->H->Prop):Nat->(Option Addr)->Int->Int->Int->H->Prop
  | 0,_,_,_,_,_=>False
  | q2+1,x0,x1,x2,x7,h =>
    ((decide ((IntKind.wrap .i64 ((IntKind.wrap .i64 (2*x7))+1))>=x2))=true ->
    F.xad.j6 Q (F.xad.l2 Q q2) x0 x1 x2 x7 (IntKind.wrap .i64 ((IntKind.wrap .i64 (2*x7))+1)) true h) ∧
    ((decide ((IntKind.wrap .i64 ((IntKind.wrap .i64 (2*x7))+1))>=x2))=false ->
    F.xad.j6 Q (F.xad.l2 Q q2) x0 x1 x2 x7 (IntKind.wrap .i64 ((IntKind.wrap .i64 (2*x7))+1)) (decide ((IntKind.wrap .i64 ((IntKind.wrap .i64 (2*x7))+1))<0)) h)
def F.xad (p0:Option Addr) (p1:Int) (p2:Int) (h:H) (Q:Bool->H->Prop):Prop:=
  ∃ m,F.xad.l2 Q m p0 p1 p2 p1 h
theorem F.xad_ok {p0:Option Addr}{p1:Int}{p2:Int}{h:H}{Q:Bool->H->Prop}(H:F.xad p0 p1 p2 h Q):Fn PP 92 ([(.iface 103 (.pointer p0)),(.int .i64 p1),(.int .i64 p2)]:List Value).toArray h fun r h'=>∃ r0,r=(.bool r0)∧Q r0 h':=by
 unfold F.xad at H;refine aV Tryz.func92 Tryz.ntmps92 rfl rfl fun w0=>(az [(0,(.iface 103 (.pointer p0))),(1,(.int .i64 p1)),(2,(.int .i64 p2))] ⟨rfl,rfl,rfl,tv⟩ (sr (qa rfl (nt (sr (qm rfl (qa rfl (nt ?_))))))));refine aG (fun L' h=>∃ (x1:Int) (x7:Int),L'=[(1,(.int .i64 x1)),(7,(.int .i64 x7))]∧F.xad.j1 Q x1 x7 h) ?_ ?_
 ·rintro L' h ⟨x1,x7,rfl,H⟩;unfold F.xad.j1 at H;refine sr (qm rfl (qm rfl (tq (df rfl rfl) (qa rfl (nt (al ?_))))));exact an rfl rfl ⟨_,rfl,H⟩
 ·refine aB ?_;obtain ⟨m17,H⟩:=H;refine az [(0,(.iface 103 (.pointer p0))),(1,(.int .i64 p1)),(2,(.int .i64 p2)),(7,(.int .i64 p1))] ⟨rfl,rfl,rfl,rfl,tv⟩ ?_;refine aY (fun m L' h=>∃ (x0:Option Addr) (x1:Int) (x2:Int) (x7:Int),L'=[(0,(.iface 103 (.pointer x0))),(1,(.int .i64 x1)),(2,(.int .i64 x2)),(7,(.int .i64 x7))]∧F.xad.l2 Q m x0 x1 x2 x7 h) ?_ ?_ m17 ⟨_,_,_,_,rfl,H⟩
  ·rintro L' h ⟨_,_,_,_,_,H⟩;exact H
  ·rintro q2 L' h ⟨x0,x1,x2,x7,rfl,H⟩;unfold F.xad.l2 at H;refine aB (sr (qm rfl (tq (i8 rfl rfl) (tq (bE rfl rfl) (qa rfl (nt ?_))))));refine aG (fun L' h=>∃ (x0:Option Addr) (x1:Int) (x2:Int) (x7:Int) (x8:Int),L'=[(0,(.iface 103 (.pointer x0))),(1,(.int .i64 x1)),(2,(.int .i64 x2)),(7,(.int .i64 x7)),(8,(.int .i64 x8))]∧F.xad.j3 Q (F.xad.l2 Q q2) x0 x1 x2 x7 x8 h) ?_ ?_
   ·rintro L' h ⟨x0,x1,x2,x7,x8,rfl,H⟩;unfold F.xad.j3 at H;refine sr (qm rfl (qa rfl (nt ?_)));refine aG (fun L' h=>∃ (x0:Option Addr) (x1:Int) (x2:Int) (x7:Int) (x9:Int),L'=[(0,(.iface 103 (.pointer x0))),(1,(.int .i64 x1)),(2,(.int .i64 x2)),(7,(.int .i64 x7)),(9,(.int .i64 x9))]∧F.xad.j4 Q (F.xad.l2 Q q2) x0 x1 x2 x7 x9 h) ?_ ?_
    ·rintro L' h ⟨x0,x1,x2,x7,x9,rfl,H⟩;unfold F.xad.j4 at H;refine aj (sr (qm rfl (qm rfl (qm rfl (te (kM lJ Zv Tryz.call205 rfl rfl (jg (fun y3 H=>(F.xdl_ok H)) H)) ?_)))));rintro _ h1 ⟨r4,rfl,H⟩;refine tq (eI rfl) (nt ?_);refine am rfl (fun g5=>?_) (fun g5=>?_)
     ·replace H:=H.1 g5;refine bC (aF (nT rfl (aF (bV (aa ?_)))));exact ah [(1,(.int .i64 x1)),(7,(.int .i64 x7))] ⟨rfl,rfl,tv⟩ ⟨_,_,rfl,H⟩
     ·replace H:=H.2 g5;refine au (aa (sr (qm rfl (qm rfl (qm rfl (te (kM lK Zv Tryz.call206 rfl rfl (jg (fun y8 H=>(F.xdr_ok H)) H)) ?_))))));rintro _ h6 ⟨rfl,H⟩;refine nt (ai (qm rfl (qa rfl (bo (aI (aa ?_))))));exact ah [(0,(.iface 103 (.pointer x0))),(1,(.int .i64 x1)),(2,(.int .i64 x2)),(7,(.int .i64 x9))] ⟨rfl,rfl,rfl,rfl,tv⟩ ⟨_,_,_,_,rfl,H⟩
    ·refine sr (qm rfl (tq (bE rfl rfl) (qa rfl (nt ?_))));refine aG (fun L' h=>∃ (x0:Option Addr) (x1:Int) (x2:Int) (x7:Int) (x9:Int) (x10:Int) (x33:Bool),L'=[(0,(.iface 103 (.pointer x0))),(1,(.int .i64 x1)),(2,(.int .i64 x2)),(7,(.int .i64 x7)),(9,(.int .i64 x9)),(10,(.int .i64 x10)),(33,(.bool x33))]∧F.xad.j5 Q (F.xad.l2 Q q2) x0 x1 x2 x7 x9 x10 x33 h) ?_ ?_
     ·rintro L' h ⟨x0,x1,x2,x7,x9,x10,x33,rfl,H⟩;unfold F.xad.j5 at H;refine am rfl (fun g9=>?_) (fun g9=>?_)
      ·replace H:=H.1 g9;refine ai (qm rfl (qa rfl (nt ?_)));exact ah [(0,(.iface 103 (.pointer x0))),(1,(.int .i64 x1)),(2,(.int .i64 x2)),(7,(.int .i64 x7)),(9,(.int .i64 x10))] ⟨rfl,rfl,rfl,rfl,rfl,tv⟩ ⟨_,_,_,_,_,rfl,H⟩
      ·replace H:=H.2 g9;refine au (aa ?_);exact ah [(0,(.iface 103 (.pointer x0))),(1,(.int .i64 x1)),(2,(.int .i64 x2)),(7,(.int .i64 x7)),(9,(.int .i64 x9))] ⟨rfl,rfl,rfl,rfl,rfl,tv⟩ ⟨_,_,_,_,_,rfl,H⟩
     ·refine ai (qm rfl (qm rfl (tq (bN rfl rfl) (qm rfl ?_))));refine aT (t:=28) rfl (fun g10=>?_) (fun g10=>?_)
      ·replace H:=H.1 g10;refine qm rfl (qm rfl (qm rfl (te (kM lJ Zv Tryz.call205 rfl rfl (jg (fun y13 H=>(F.xdl_ok H)) H)) ?_)));rintro _ h11 ⟨r14,rfl,H⟩;refine tq (aL rfl rfl) (nt ?_);exact ah [(0,(.iface 103 (.pointer x0))),(1,(.int .i64 x1)),(2,(.int .i64 x2)),(7,(.int .i64 x7)),(9,(.int .i64 x8)),(10,(.int .i64 (IntKind.wrap .i64 (x8+1)))),(33,(.bool r14))] ⟨rfl,rfl,rfl,rfl,rfl,rfl,rfl,tv⟩ ⟨_,_,_,_,_,_,_,rfl,H⟩
      ·replace H:=H.2 g10;refine ts (ts (ts (ts (tq (aH rfl rfl) (nt ?_)))));exact ah [(0,(.iface 103 (.pointer x0))),(1,(.int .i64 x1)),(2,(.int .i64 x2)),(7,(.int .i64 x7)),(9,(.int .i64 x8)),(10,(.int .i64 (IntKind.wrap .i64 (x8+1)))),(33,(.bool false))] ⟨rfl,rfl,rfl,rfl,rfl,rfl,rfl,tv⟩ ⟨_,_,_,_,_,_,_,rfl,H⟩
   ·refine aG (fun L' h=>∃ (x0:Option Addr) (x1:Int) (x2:Int) (x7:Int) (x8:Int) (x21:Bool),L'=[(0,(.iface 103 (.pointer x0))),(1,(.int .i64 x1)),(2,(.int .i64 x2)),(7,(.int .i64 x7)),(8,(.int .i64 x8)),(21,(.bool x21))]∧F.xad.j6 Q (F.xad.l2 Q q2) x0 x1 x2 x7 x8 x21 h) ?_ ?_
    ·rintro L' h ⟨x0,x1,x2,x7,x8,x21,rfl,H⟩;unfold F.xad.j6 at H;refine am rfl (fun g15=>?_) (fun g15=>?_)
     ·replace H:=H.1 g15;refine bC (aF (nT rfl (aF (bV (aa ?_)))));exact ah [(1,(.int .i64 x1)),(7,(.int .i64 x7))] ⟨rfl,rfl,tv⟩ ⟨_,_,rfl,H⟩
     ·replace H:=H.2 g15;refine au (aa ?_);exact ah [(0,(.iface 103 (.pointer x0))),(1,(.int .i64 x1)),(2,(.int .i64 x2)),(7,(.int .i64 x7)),(8,(.int .i64 x8))] ⟨rfl,rfl,rfl,rfl,rfl,tv⟩ ⟨_,_,_,_,_,rfl,H⟩
    ·refine ai (qm rfl (qm rfl (tq (jT rfl rfl) (qm rfl ?_))));refine aT (t:=18) rfl (fun g16=>?_) (fun g16=>?_)
     ·replace H:=H.1 g16;refine ts (ts (tq (aL rfl rfl) (nt ?_)));exact ah [(0,(.iface 103 (.pointer x0))),(1,(.int .i64 x1)),(2,(.int .i64 x2)),(7,(.int .i64 x7)),(8,(.int .i64 (IntKind.wrap .i64 ((IntKind.wrap .i64 (2*x7))+1)))),(21,(.bool true))] ⟨rfl,rfl,rfl,rfl,rfl,rfl,tv⟩ ⟨_,_,_,_,_,_,rfl,H⟩
     ·replace H:=H.2 g16;refine qm rfl (tq (bN rfl rfl) (tq (aH rfl rfl) (nt ?_)));exact ah [(0,(.iface 103 (.pointer x0))),(1,(.int .i64 x1)),(2,(.int .i64 x2)),(7,(.int .i64 x7)),(8,(.int .i64 (IntKind.wrap .i64 ((IntKind.wrap .i64 (2*x7))+1)))),(21,(.bool (decide ((IntKind.wrap .i64 ((IntKind.wrap .i64 (2*x7))+1))<0))))] ⟨rfl,rfl,rfl,rfl,rfl,rfl,tv⟩ ⟨_,_,_,_,_,_,rfl,H⟩
def F.xcy.l1 (Q:H->Prop):Nat->(Option Addr)->Int->Int->H->Prop
  | 0,_,_,_,_=>False
  | q1+1,x0,x2,x3,h =>
    ((decide (x3>=0))=true ->
    F.xad x0 x3 x2 h fun r8 h7 =>
    (F.xcy.l1 Q q1) x0 x2 (IntKind.wrap .i64 (x3-1)) h7) ∧
    ((decide (x3>=0))=false ->
    Q h)
def F.xcy (p0:Option Addr) (h:H) (Q:H->Prop):Prop:=
  nn p0 fun a2 =>
  ldL h a2 fun y3 =>
  F.xdg y3 h fun r4 h1 =>
  (2:Int)≠0 ∧
  ∃ m,F.xcy.l1 Q m p0 r4 (IntKind.wrap .i64 ((IntKind.wrap .i64 (Int.tdiv r4 2))-1)) h1
theorem F.xcy_ok {p0:Option Addr}{h:H}{Q:H->Prop}(H:F.xcy p0 h Q):Fn PP 52 ([(.iface 103 (.pointer p0))]:List Value).toArray h fun r h'=>r=.tuple #[]∧Q  h':=by
 unfold F.xcy at H;refine aV Tryz.func52 Tryz.ntmps52 rfl rfl fun w0=>(az [(0,(.iface 103 (.pointer p0)))] ⟨rfl,tv⟩ (sr (qm rfl (te (kM mH Zv Tryz.call204 rfl rfl (jg (fun y3 H=>(F.xdg_ok H)) H)) ?_))));rintro _ h1 ⟨r4,rfl,H⟩;refine qa rfl (nt (sr (qm rfl ?_)));obtain ⟨e5,H⟩:=H;refine tq (Cv rfl rfl e5) (tq (cJ rfl rfl) (qa rfl (nt (aB ?_))));obtain ⟨m9,H⟩:=H;refine az [(0,(.iface 103 (.pointer p0))),(2,(.int .i64 r4)),(3,(.int .i64 (IntKind.wrap .i64 ((IntKind.wrap .i64 (Int.tdiv r4 2))-1))))] ⟨rfl,rfl,rfl,tv⟩ ?_;refine aY (fun m L' h=>∃ (x0:Option Addr) (x2:Int) (x3:Int),L'=[(0,(.iface 103 (.pointer x0))),(2,(.int .i64 x2)),(3,(.int .i64 x3))]∧F.xcy.l1 Q m x0 x2 x3 h) ?_ ?_ m9 ⟨_,_,_,rfl,H⟩
 ·rintro L' h ⟨_,_,_,_,H⟩;exact H
 ·rintro q1 L' h ⟨x0,x2,x3,rfl,H⟩;unfold F.xcy.l1 at H;refine aj (sr (qm rfl (tq (jT rfl rfl) (nt ?_))));refine am rfl (fun g6=>?_) (fun g6=>?_)
  ·replace H:=H.1 g6;refine au (aa (aj (aB (ai (qm rfl (qm rfl (qm rfl (te (av Tryz.call92 rfl (F.xad_ok H)) ?_))))))));rintro _ h7 ⟨r8,rfl,H⟩;refine bo (aI (aa (ai (qm rfl (tq (cJ rfl rfl) (qa rfl (nt ?_)))))));exact ah [(0,(.iface 103 (.pointer x0))),(2,(.int .i64 x2)),(3,(.int .i64 (IntKind.wrap .i64 (x3-1))))] ⟨rfl,rfl,rfl,tv⟩ ⟨_,_,_,rfl,H⟩
  ·replace H:=H.2 g6;refine bC (aF (aF (bV ?_)));exact jk rfl ⟨rfl,H⟩
def F.xex (p0:Option Addr) (h:H) (Q:Value->H->Prop):Prop:=
  nn p0 fun a1 =>
  ldL h a1 fun y3 =>
  bD y3 (IntKind.wrap .i64 ((y3.len:Int)-1)) 2 fun a5 =>
  fX h a5 fun y7 =>
  new h (((⟨(⟨none,0,0⟩:Sl),0⟩:bK):bK).cells.toArray) wK fun a10 h9 =>
  stH h9 a10 y7.cells fun h11 =>
  ly y3 0 (IntKind.wrap .i64 ((y3.len:Int)-1)) 2 fun s13 =>
  nn p0 fun a14 =>
  stH h11 a14 [s13.enc] fun h16 =>
  fX h16 a10 fun y17 =>
  Q (.iface 101 (.agg y17.cells.toArray)) h16
theorem F.xex_ok {p0:Option Addr}{h:H}{Q:Value->H->Prop}(H:F.xex p0 h Q):Fn PP 207 ([(.pointer p0)]:List Value).toArray h fun r h'=>∃ r0,r=r0∧Q r0 h':=by
 unfold F.xex at H;refine aV Tryz.func207 Tryz.ntmps207 rfl rfl fun w0=>(az [(0,(.pointer p0))] ⟨rfl,tv⟩ (sr (qa rfl (nt (sr (qm rfl ?_))))));obtain ⟨a1,e2,H⟩:=H;refine tq (bG rfl e2) ?_;obtain ⟨y3,k4,H⟩:=H;refine th (aD Zv rfl) k4 (qa rfl (nt (sr (qm rfl (qm rfl (tq (bB (ts:=#[]) Zs (o:=y3.ptr) (n:=y3.len) (cap:=y3.cap) rfl) (tq (cJ rfl rfl) ?_)))))));obtain ⟨a5,e6,H⟩:=H;refine tq (bf (s:=y3) Zs Zd rfl rfl e6) ?_;obtain ⟨y7,k8,H⟩:=H;refine th (aQ Tryz.isAgg101 Zd rfl rfl) k8 (te (bJ (cs:=((⟨(⟨none,0,0⟩:Sl),0⟩:bK):bK).cells.toArray) Tryz.zeroValue101 rfl H) ?_);rintro _ h9 ⟨a10,rfl,H⟩;refine te (aK (vs:=y7.cells) Zd rfl rfl ax rfl (by intro v hv;exact fl _ v hv) H) ?_;rintro _ h11 ⟨rfl,H⟩;refine nt (sr (qm rfl (qm rfl (qm rfl (tq (bB (ts:=#[]) Zs (o:=y3.ptr) (n:=y3.len) (cap:=y3.cap) rfl) (tq (cJ rfl rfl) ?_))))));obtain ⟨s13,e12,H⟩:=H;refine tq (gU (s:=y3) none (some (.i64,(IntKind.wrap .i64 ((y3.len:Int)-1)))) Zs Zd rfl rfl rfl e12) ?_;obtain ⟨a14,e15,H⟩:=H;refine tq (bG rfl e15) (te (aK (vs:=[s13.enc]) Tryz.sizeOf99 rfl rfl rfl rfl (de rfl) H) ?_);rintro _ h16 ⟨rfl,H⟩;refine nt (sr ?_);obtain ⟨y17,k18,H⟩:=H;refine th (aQ Tryz.isAgg101 Zd rfl rfl) k18 (tq (ry ZBC rfl rfl) (qa rfl (nt (al ?_))));exact an rfl rfl ⟨_,rfl,H⟩
def F.xek (p0:Option Addr) (h:H) (Q:Value->H->Prop):Prop:=
  nn p0 fun a2 =>
  ldL h a2 fun y3 =>
  F.xdg y3 h fun r4 h1 =>
  nn p0 fun a6 =>
  ldL h1 a6 fun y7 =>
  F.xdr y7 0 (IntKind.wrap .i64 (r4-1)) h1 fun h5 =>
  F.xad p0 0 (IntKind.wrap .i64 (r4-1)) h5 fun r9 h8 =>
  F.xex p0 h8 fun r11 h10 =>
  Q r11 h10
theorem F.xek_ok {p0:Option Addr}{h:H}{Q:Value->H->Prop}(H:F.xek p0 h Q):Fn PP 53 ([(.iface 103 (.pointer p0))]:List Value).toArray h fun r h'=>∃ r0,r=r0∧Q r0 h':=by
 unfold F.xek at H;refine aV Tryz.func53 Tryz.ntmps53 rfl rfl fun w0=>(az [(0,(.iface 103 (.pointer p0)))] ⟨rfl,tv⟩ (sr (qa rfl (nt (sr (qm rfl (te (kM mH Zv Tryz.call204 rfl rfl (jg (fun y3 H=>(F.xdg_ok H)) H)) ?_)))))));rintro _ h1 ⟨r4,rfl,H⟩;refine tq (cJ rfl rfl) (qa rfl (nt (sr (qm rfl (qm rfl (te (kM lK Zv Tryz.call206 rfl rfl (jg (fun y7 H=>(F.xdr_ok H)) H)) ?_))))));rintro _ h5 ⟨rfl,H⟩;refine nt (sr (qm rfl (qm rfl (te (av Tryz.call92 rfl (F.xad_ok H)) ?_))));rintro _ h8 ⟨r9,rfl,H⟩;refine nt (sr (qm rfl (te (CR wj Tryz.call207 rfl rfl (F.xex_ok H)) ?_)));rintro r11 h10 ⟨_,rfl,H⟩;refine qa rfl (nt (al ?_));exact an rfl rfl ⟨_,rfl,H⟩
def F.xbc.j2 (Q:H->Prop) (C1:(Option Addr)->Int->H->Prop) (x0:Option Addr) (x1:Int) (x4:Int) (h:H):Prop:=
  nn x0 fun a3 =>
  ldL h a3 fun y4 =>
  F.xdr y4 x4 x1 h fun h2 =>
  C1 x0 x4 h2
def F.xbc.j3 (Q:H->Prop) (C1:(Option Addr)->Int->H->Prop) (x0:Option Addr) (x1:Int) (x4:Int) (x17:Bool) (h:H):Prop:=
  (x17=true ->
  Q h) ∧
  (x17=false ->
  F.xbc.j2 Q C1 x0 x1 x4 h)
def F.xbc.l1 (Q:H->Prop):Nat->(Option Addr)->Int->H->Prop
  | 0,_,_,_=>False
  | q1+1,x0,x1,h =>
    (2:Int)≠0 ∧
    ((((IntKind.wrap .i64 (Int.tdiv (IntKind.wrap .i64 (x1-1)) 2)) == x1))=true ->
    F.xbc.j3 Q (F.xbc.l1 Q q1) x0 x1 (IntKind.wrap .i64 (Int.tdiv (IntKind.wrap .i64 (x1-1)) 2)) true h) ∧
    ((((IntKind.wrap .i64 (Int.tdiv (IntKind.wrap .i64 (x1-1)) 2)) == x1))=false ->
    nn x0 fun a8 =>
    ldL h a8 fun y9 =>
    F.xdl y9 x1 (IntKind.wrap .i64 (Int.tdiv (IntKind.wrap .i64 (x1-1)) 2)) h fun r10 h7 =>
    F.xbc.j3 Q (F.xbc.l1 Q q1) x0 x1 (IntKind.wrap .i64 (Int.tdiv (IntKind.wrap .i64 (x1-1)) 2)) (!r10) h7)
def F.xbc (p0:Option Addr) (p1:Int) (h:H) (Q:H->Prop):Prop:=
  ∃ m,F.xbc.l1 Q m p0 p1 h
theorem F.xbc_ok {p0:Option Addr}{p1:Int}{h:H}{Q:H->Prop}(H:F.xbc p0 p1 h Q):Fn PP 93 ([(.iface 103 (.pointer p0)),(.int .i64 p1)]:List Value).toArray h fun r h'=>r=.tuple #[]∧Q  h':=by
 unfold F.xbc at H;refine aV Tryz.func93 Tryz.ntmps93 rfl rfl fun w0=>(az [(0,(.iface 103 (.pointer p0))),(1,(.int .i64 p1))] ⟨rfl,rfl,tv⟩ (aB ?_));obtain ⟨m11,H⟩:=H;refine az [(0,(.iface 103 (.pointer p0))),(1,(.int .i64 p1))] ⟨rfl,rfl,tv⟩ ?_;refine aY (fun m L' h=>∃ (x0:Option Addr) (x1:Int),L'=[(0,(.iface 103 (.pointer x0))),(1,(.int .i64 x1))]∧F.xbc.l1 Q m x0 x1 h) ?_ ?_ m11 ⟨_,_,rfl,H⟩
 ·rintro L' h ⟨_,_,_,H⟩;exact H
 ·rintro q1 L' h ⟨x0,x1,rfl,H⟩;unfold F.xbc.l1 at H;refine aB (sr (qm rfl (tq (cJ rfl rfl) ?_)));obtain ⟨e1,H⟩:=H;refine tq (Cv rfl rfl e1) (qa rfl (nt ?_));refine aG (fun L' h=>∃ (x0:Option Addr) (x1:Int) (x4:Int),L'=[(0,(.iface 103 (.pointer x0))),(1,(.int .i64 x1)),(4,(.int .i64 x4))]∧F.xbc.j2 Q (F.xbc.l1 Q q1) x0 x1 x4 h) ?_ ?_
  ·rintro L' h ⟨x0,x1,x4,rfl,H⟩;unfold F.xbc.j2 at H;refine sr (qm rfl (qm rfl (qm rfl (te (kM lK Zv Tryz.call206 rfl rfl (jg (fun y4 H=>(F.xdr_ok H)) H)) ?_))));rintro _ h2 ⟨rfl,H⟩;refine nt (ai (qm rfl (qa rfl (bo (aI (aa ?_))))));exact ah [(0,(.iface 103 (.pointer x0))),(1,(.int .i64 x4))] ⟨rfl,rfl,tv⟩ ⟨_,_,rfl,H⟩
  ·refine aG (fun L' h=>∃ (x0:Option Addr) (x1:Int) (x4:Int) (x17:Bool),L'=[(0,(.iface 103 (.pointer x0))),(1,(.int .i64 x1)),(4,(.int .i64 x4)),(17,(.bool x17))]∧F.xbc.j3 Q (F.xbc.l1 Q q1) x0 x1 x4 x17 h) ?_ ?_
   ·rintro L' h ⟨x0,x1,x4,x17,rfl,H⟩;unfold F.xbc.j3 at H;refine am rfl (fun g5=>?_) (fun g5=>?_)
    ·replace H:=H.1 g5;refine bC (aF (nT rfl (aF (bV ?_))));exact jk rfl ⟨rfl,H⟩
    ·replace H:=H.2 g5;refine au (aa ?_);exact ah [(0,(.iface 103 (.pointer x0))),(1,(.int .i64 x1)),(4,(.int .i64 x4))] ⟨rfl,rfl,rfl,tv⟩ ⟨_,_,_,rfl,H⟩
   ·refine ai (qm rfl (qm rfl (tq (ct rfl rfl) (qm rfl ?_))));refine aT (t:=11) rfl (fun g6=>?_) (fun g6=>?_)
    ·replace H:=H.1 g6;refine ts (ts (ts (ts (ts (tq (aL rfl rfl) (nt ?_))))));exact ah [(0,(.iface 103 (.pointer x0))),(1,(.int .i64 x1)),(4,(.int .i64 (IntKind.wrap .i64 (Int.tdiv (IntKind.wrap .i64 (x1-1)) 2)))),(17,(.bool true))] ⟨rfl,rfl,rfl,rfl,tv⟩ ⟨_,_,_,_,rfl,H⟩
    ·replace H:=H.2 g6;refine qm rfl (qm rfl (qm rfl (te (kM lJ Zv Tryz.call205 rfl rfl (jg (fun y9 H=>(F.xdl_ok H)) H)) ?_)));rintro _ h7 ⟨r10,rfl,H⟩;refine tq (eI rfl) (tq (aH rfl rfl) (nt ?_));exact ah [(0,(.iface 103 (.pointer x0))),(1,(.int .i64 x1)),(4,(.int .i64 (IntKind.wrap .i64 (Int.tdiv (IntKind.wrap .i64 (x1-1)) 2)))),(17,(.bool (!r10)))] ⟨rfl,rfl,rfl,rfl,tv⟩ ⟨_,_,_,_,rfl,H⟩
def F.xey (p0:Option Addr) (p1:Int) (h:H) (Q:H->Prop):Prop:=
  nn p0 fun a2 =>
  ldL h a2 fun y3 =>
  F.xdg y3 h fun r4 h1 =>
  F.xad p0 p1 r4 h1 fun r6 h5 =>
  ((!r6)=true ->
  F.xbc p0 p1 h5 fun h8 =>
  Q h8) ∧
  ((!r6)=false ->
  Q h5)
theorem F.xey_ok {p0:Option Addr}{p1:Int}{h:H}{Q:H->Prop}(H:F.xey p0 p1 h Q):Fn PP 54 ([(.iface 103 (.pointer p0)),(.int .i64 p1)]:List Value).toArray h fun r h'=>r=.tuple #[]∧Q  h':=by
 unfold F.xey at H;refine aV Tryz.func54 Tryz.ntmps54 rfl rfl fun w0=>(az [(0,(.iface 103 (.pointer p0))),(1,(.int .i64 p1))] ⟨rfl,rfl,tv⟩ (sr (qm rfl (qm rfl (qm rfl (te (kM mH Zv Tryz.call204 rfl rfl (jg (fun y3 H=>(F.xdg_ok H)) H)) ?_))))));rintro _ h1 ⟨r4,rfl,H⟩;refine te (av Tryz.call92 rfl (F.xad_ok H)) ?_;rintro _ h5 ⟨r6,rfl,H⟩;refine tq (eI rfl) (nt ?_);refine am rfl (fun g7=>?_) (fun g7=>?_)
 ·replace H:=H.1 g7;refine ai (qm rfl (qm rfl (te (av Tryz.call93 rfl (F.xbc_ok H)) ?_)));rintro _ h8 ⟨rfl,H⟩;refine bo ?_;exact jk rfl ⟨rfl,H⟩
 ·replace H:=H.2 g7;refine au ?_;exact jk rfl ⟨rfl,H⟩
def F.xan.j3 (Q:Sl->H->Prop) (C1:Int->Addr->Sl->H->Prop) (x0:Int) (x5:Addr) (x8:Sl) (h:H):Prop:=
  ldL h x5 fun y17 =>
  bD y17 0 2 fun a19 =>
  ldL h (a19.add 0) fun y21 =>
  bD y21 0 7 fun a23 =>
  ec h a23 fun y25 =>
  fv h ((y25.cells).toArray) mx 1 fun s28 h27 =>
  dA PP (Builtin.append_ #[51,51] 51 #[x8.enc,s28.enc]) h27 fun s30 h29 =>
  ldL h29 x5 fun y31 =>
  ldL h29 x5 fun y33 =>
  bD y33 0 2 fun a35 =>
  ldL h29 (a35.add 0) fun y37 =>
  ly y37 1 (y37.len:Int) 7 fun s40 =>
  bD y31 0 2 fun a41 =>
  stH h29 (a41.add 0) [s40.enc] fun h43 =>
  ldL h43 x5 fun y44 =>
  bD y44 0 2 fun a46 =>
  ldL h43 (a46.add 0) fun y48 =>
  ((((y48.len:Int) == 0))=true ->
  F.xek (some x5) h43 fun r52 h51 =>
  C1 x0 x5 s30 h51) ∧
  ((((y48.len:Int) == 0))=false ->
  F.xey (some x5) 0 h43 fun h53 =>
  C1 x0 x5 s30 h53)
def F.xan.j4 (Q:Sl->H->Prop) (C1:Int->Addr->Sl->H->Prop) (x0:Int) (x5:Addr) (x8:Sl) (x36:Bool) (h:H):Prop:=
  (x36=true ->
  F.xan.j3 Q C1 x0 x5 x8 h) ∧
  (x36=false ->
  Q x8 h)
def F.xan.l2 (Q:Sl->H->Prop):Nat->Int->Addr->Sl->H->Prop
  | 0,_,_,_,_=>False
  | q2+1,x0,x5,x8,h =>
    ldL h x5 fun y55 =>
    ((decide ((y55.len:Int) > 0))=true ->
    F.xan.j4 Q (F.xan.l2 Q q2) x0 x5 x8 (decide ((x8.len:Int)<x0)) h) ∧
    ((decide ((y55.len:Int) > 0))=false ->
    F.xan.j4 Q (F.xan.l2 Q q2) x0 x5 x8 false h)
def F.xan.l1 (Q:Sl->H->Prop):Nat->Int->Addr->Sl->Int->Int->H->Prop
  | 0,_,_,_,_,_,_=>False
  | q1+1,x0,x5,x9,x10,x11,h =>
    ((decide (x11<x10))=true ->
    bD x9 x11 1 fun a4 =>
    ldL h a4 fun y6 =>
    ((decide ((y6.len:Int) > 0))=true ->
    ldL h x5 fun y9 =>
    fv h (((⟨y6,x11⟩:bK).cells).toArray) wK 1 fun s12 h11 =>
    dA PP (Builtin.append_ #[99,99] 99 #[y9.enc,s12.enc]) h11 fun s14 h13 =>
    stH h13 x5 [s14.enc] fun h15 =>
    (F.xan.l1 Q q1) x0 x5 x9 x10 (IntKind.wrap .i64 (x11+1)) h15) ∧
    ((decide ((y6.len:Int) > 0))=false ->
    (F.xan.l1 Q q1) x0 x5 x9 x10 (IntKind.wrap .i64 (x11+1)) h)) ∧
    ((decide (x11<x10))=false ->
    F.xcy (some x5) h fun h16 =>
    ∃ m,F.xan.l2 Q m x0 x5 (⟨none,0,0⟩:Sl) h16)
def F.xan (p0:Int) (p1:Sl) (h:H) (Q:Sl->H->Prop):Prop:=
  new h #[(⟨none,0,0⟩:Sl).enc] Ed fun a2 h1 =>
  ∃ m,F.xan.l1 Q m p0 a2 p1 (p1.len:Int) 0 h1
theorem F.xan_ok {p0:Int}{p1:Sl}{h:H}{Q:Sl->H->Prop}(H:F.xan p0 p1 h Q):Fn PP 22 ([(.int .i64 p0),p1.enc]:List Value).toArray h fun r h'=>∃ r0,r=r0.enc∧Q r0 h':=by
 unfold F.xan at H;refine aV Tryz.func22 Tryz.ntmps22 rfl rfl fun w0=>(az [(0,(.int .i64 p0)),(1,p1.enc)] ⟨rfl,rfl,tv⟩ (sr (qa rfl (nt (sr (te (bJ (cs:=#[(⟨none,0,0⟩:Sl).enc]) Tryz.zeroValue99 rfl H) ?_))))));rintro _ h1 ⟨a2,rfl,H⟩;refine nt (aj (sr (qm rfl (tq (bB (ts:=#[]) Tryz.runUnderlying55 (o:=p1.ptr) (n:=p1.len) (cap:=p1.cap) rfl) (qm rfl (nt (aB ?_)))))));obtain ⟨m59,H⟩:=H;refine az [(0,(.int .i64 p0)),(5,(.pointer (some a2))),(9,p1.enc),(10,(.int .i64 (p1.len:Int))),(11,(.int .i64 0))] ⟨rfl,rfl,rfl,rfl,rfl,tv⟩ ?_;refine aY (fun m L' h=>∃ (x0:Int) (x5:Addr) (x9:Sl) (x10:Int) (x11:Int),L'=[(0,(.int .i64 x0)),(5,(.pointer (some x5))),(9,x9.enc),(10,(.int .i64 x10)),(11,(.int .i64 x11))]∧F.xan.l1 Q m x0 x5 x9 x10 x11 h) ?_ ?_ m59 ⟨_,_,_,_,_,rfl,H⟩
 ·rintro L' h ⟨_,_,_,_,_,_,H⟩;exact H
 ·rintro q1 L' h ⟨x0,x5,x9,x10,x11,rfl,H⟩;unfold F.xan.l1 at H;refine sr (tq (bN rfl rfl) (nt (aj ?_)));refine am rfl (fun g3=>?_) (fun g3=>?_)
  ·replace H:=H.1 g3;refine au (aa (aj (aB (sr (qm rfl ?_)))));obtain ⟨a4,e5,H⟩:=H;refine tq (bf (s:=x9) Tryz.runUnderlying55 Tryz.sizeOf51 rfl rfl e5) ?_;obtain ⟨y6,k7,H⟩:=H;refine th (aD ZBB rfl) k7 (qa rfl (qa rfl (nt (sr (qm rfl (tq (bB (ts:=#[]) ZW (o:=y6.ptr) (n:=y6.len) (cap:=y6.cap) rfl) (tq (df rfl rfl) (nt ?_))))))));refine am rfl (fun g8=>?_) (fun g8=>?_)
   ·replace H:=H.1 g8;refine ai ?_;obtain ⟨y9,k10,H⟩:=H;refine th (aD Zv rfl) k10 (qm rfl (qm rfl (tq (bO rfl (vN y6 x11)) (te (co (cs:=((⟨y6,x11⟩:bK).cells).toArray) rfl rfl (yd (⟨y6,x11⟩:bK)) H) ?_))));rintro _ h11 ⟨s12,rfl,H⟩;refine te (dV rfl H) ?_;rintro _ h13 ⟨s14,rfl,H⟩;refine te (aK (vs:=[s14.enc]) Tryz.sizeOf99 rfl rfl rfl rfl (de rfl) H) ?_;rintro _ h15 ⟨rfl,H⟩;refine bo (aI (aa (ai (tq (bE rfl rfl) (qm rfl (nt ?_))))));exact ah [(0,(.int .i64 x0)),(5,(.pointer (some x5))),(9,x9.enc),(10,(.int .i64 x10)),(11,(.int .i64 (IntKind.wrap .i64 (x11+1))))] ⟨rfl,rfl,rfl,rfl,rfl,tv⟩ ⟨_,_,_,_,_,rfl,H⟩
   ·replace H:=H.2 g8;refine au (aI (aa (ai (tq (bE rfl rfl) (qm rfl (nt ?_))))));exact ah [(0,(.int .i64 x0)),(5,(.pointer (some x5))),(9,x9.enc),(10,(.int .i64 x10)),(11,(.int .i64 (IntKind.wrap .i64 (x11+1))))] ⟨rfl,rfl,rfl,rfl,rfl,tv⟩ ⟨_,_,_,_,_,rfl,H⟩
  ·replace H:=H.2 g3;refine bC (aF (aF (bV (aa (sr (tq (ry Tryz.runUnderlying103 rfl rfl) (te (av Tryz.call52 rfl (F.xcy_ok H)) ?_)))))));rintro _ h16 ⟨rfl,H⟩;refine nt (sr (qa rfl (nt (aj (aB ?_)))));obtain ⟨m58,H⟩:=H;refine az [(0,(.int .i64 x0)),(5,(.pointer (some x5))),(8,(⟨none,0,0⟩:Sl).enc)] ⟨rfl,rfl,rfl,tv⟩ ?_;refine aY (fun m L' h=>∃ (x0:Int) (x5:Addr) (x8:Sl),L'=[(0,(.int .i64 x0)),(5,(.pointer (some x5))),(8,x8.enc)]∧F.xan.l2 Q m x0 x5 x8 h) ?_ ?_ m58 ⟨_,_,_,rfl,H⟩
   ·rintro L' h ⟨_,_,_,_,H⟩;exact H
   ·rintro q2 L' h ⟨x0,x5,x8,rfl,H⟩;unfold F.xan.l2 at H;refine aG (fun L' h=>∃ (x0:Int) (x5:Addr) (x8:Sl),L'=[(0,(.int .i64 x0)),(5,(.pointer (some x5))),(8,x8.enc)]∧F.xan.j3 Q (F.xan.l2 Q q2) x0 x5 x8 h) ?_ ?_
    ·rintro L' h ⟨x0,x5,x8,rfl,H⟩;unfold F.xan.j3 at H;refine aB (sr (qm rfl ?_));obtain ⟨y17,k18,H⟩:=H;refine th (aD Zv rfl) k18 ?_;obtain ⟨a19,e20,H⟩:=H;refine tq (bf (s:=y17) Zs Zd rfl rfl e20) (tq (ay (off:=0) ZBC kh rfl) ?_);obtain ⟨y21,k22,H⟩:=H;refine th (aD ZBB rfl) k22 ?_;obtain ⟨a23,e24,H⟩:=H;refine tq (bf (s:=y21) ZW ZZ rfl rfl e24) ?_;obtain ⟨y25,k26,H⟩:=H;refine th (aQ ZBJ ZZ rfl rfl) k26 (te (co (cs:=(y25.cells).toArray) rfl rfl (lX y25) H) ?_);rintro _ h27 ⟨s28,rfl,H⟩;refine te (dV rfl H) ?_;rintro _ h29 ⟨s30,rfl,H⟩;refine qa rfl (nt (aj (bv mixed [0,0,2,6,14,30,63,127,255] (by kernel_rfl) ?_)));obtain ⟨y31,k32,H⟩:=H;refine gh 0 1 rfl (aD Zv rfl) k32 ?_;obtain ⟨y33,k34,H⟩:=H;refine gh 1 3 rfl (aD Zv rfl) k34 ?_;obtain ⟨a35,e36,H⟩:=H;refine gq 2 7 rfl (bf (s:=y33) Zs Zd rfl rfl e36) (gq 3 15 rfl (ay (off:=0) ZBC kh rfl) ?_);obtain ⟨y37,k38,H⟩:=H;refine gh 4 31 rfl (aD ZBB rfl) k38 ?_;obtain ⟨s40,e39,H⟩:=H;refine gq 5 63 rfl (gU (s:=y37) (some (.i64,1)) none ZW ZZ rfl rfl rfl e39) ?_;obtain ⟨a41,e42,H⟩:=H;refine gq 6 127 rfl (bf (s:=y31) Zs Zd rfl rfl e42) (gq 7 255 rfl (ay (off:=0) ZBC kh rfl) (g_e 8 511 [] (by kernel_rfl) rfl (by kernel_rfl) (aK (vs:=[s40.enc]) Tryz.sizeOf51 rfl rfl rfl rfl (de rfl) H) rfl rfl ?_));rintro _ h43 ⟨rfl,H⟩;refine ⟨trivial,?_⟩;refine g_d (by kernel_rfl) (aa (sr ?_));obtain ⟨y44,k45,H⟩:=H;refine th (aD Zv rfl) k45 ?_;obtain ⟨a46,e47,H⟩:=H;refine tq (bf (s:=y44) Zs Zd rfl rfl e47) (tq (ay (off:=0) ZBC kh rfl) ?_);obtain ⟨y48,k49,H⟩:=H;refine th (aD ZBB rfl) k49 (tq (bB (ts:=#[]) ZW (o:=y48.ptr) (n:=y48.len) (cap:=y48.cap) rfl) (tq (ct rfl rfl) (nt ?_)));refine am rfl (fun g50=>?_) (fun g50=>?_)
     ·replace H:=H.1 g50;refine ai (tq (ry Tryz.runUnderlying103 rfl rfl) (te (av Tryz.call53 rfl (F.xek_ok H)) ?_));rintro r52 h51 ⟨_,rfl,H⟩;refine bo (aI (aa ?_));exact ah [(0,(.int .i64 x0)),(5,(.pointer (some x5))),(8,s30.enc)] ⟨rfl,rfl,rfl,tv⟩ ⟨_,_,_,rfl,H⟩
     ·replace H:=H.2 g50;refine ai (tq (ry Tryz.runUnderlying103 rfl rfl) (te (av Tryz.call54 rfl (F.xey_ok H)) ?_));rintro _ h53 ⟨rfl,H⟩;refine bo (aI (aa ?_));exact ah [(0,(.int .i64 x0)),(5,(.pointer (some x5))),(8,s30.enc)] ⟨rfl,rfl,rfl,tv⟩ ⟨_,_,_,rfl,H⟩
    ·refine aG (fun L' h=>∃ (x0:Int) (x5:Addr) (x8:Sl) (x36:Bool),L'=[(0,(.int .i64 x0)),(5,(.pointer (some x5))),(8,x8.enc),(36,(.bool x36))]∧F.xan.j4 Q (F.xan.l2 Q q2) x0 x5 x8 x36 h) ?_ ?_
     ·rintro L' h ⟨x0,x5,x8,x36,rfl,H⟩;unfold F.xan.j4 at H;refine am rfl (fun g54=>?_) (fun g54=>?_)
      ·replace H:=H.1 g54;refine au (aa ?_);exact ah [(0,(.int .i64 x0)),(5,(.pointer (some x5))),(8,x8.enc)] ⟨rfl,rfl,rfl,tv⟩ ⟨_,_,_,rfl,H⟩
      ·replace H:=H.2 g54;refine bC (aF (aF (bV (aa (sr (qm rfl (qa rfl (nt (al ?_)))))))));exact an rfl rfl ⟨_,rfl,H⟩
     ·refine ai ?_;obtain ⟨y55,k56,H⟩:=H;refine th (aD Zv rfl) k56 (tq (bB (ts:=#[]) Zs (o:=y55.ptr) (n:=y55.len) (cap:=y55.cap) rfl) (tq (df rfl rfl) (qm rfl ?_)));refine aT (t:=31) rfl (fun g57=>?_) (fun g57=>?_)
      ·replace H:=H.1 g57;refine qm rfl (tq (bB (ts:=#[]) ZW (o:=x8.ptr) (n:=x8.len) (cap:=x8.cap) rfl) (qm rfl (tq (bN rfl rfl) (tq (aL rfl rfl) (nt ?_)))));exact ah [(0,(.int .i64 x0)),(5,(.pointer (some x5))),(8,x8.enc),(36,(.bool (decide ((x8.len:Int)<x0))))] ⟨rfl,rfl,rfl,rfl,tv⟩ ⟨_,_,_,_,rfl,H⟩
      ·replace H:=H.2 g57;refine ts (ts (ts (ts (tq (aH rfl rfl) (nt ?_)))));exact ah [(0,(.int .i64 x0)),(5,(.pointer (some x5))),(8,x8.enc),(36,(.bool false))] ⟨rfl,rfl,rfl,rfl,tv⟩ ⟨_,_,_,_,rfl,H⟩
def F.xcl.l1 (Q:Sl->H->Prop):Nat->Int->Int->Addr->Addr->Sl->Sl->Int->Int->H->Prop
  | 0,_,_,_,_,_,_,_,_,_=>False
  | q1+1,x1,x4,x7,x8,x11,x17,x18,x19,h =>
    ((decide (x19<x18))=true ->
    bD x17 x19 1 fun a10 =>
    ldP h a10 fun y12 =>
    ak h x7 fun y14 =>
    ak h x8 fun y16 =>
    F.xat y12 x1 y14 y16 x4 h fun r19 h18 =>
    fv h18 #[r19.enc] AY 1 fun s21 h20 =>
    dA PP (Builtin.append_ #[55,55] 55 #[x11.enc,s21.enc]) h20 fun s23 h22 =>
    (F.xcl.l1 Q q1) x1 x4 x7 x8 s23 x17 x18 (IntKind.wrap .i64 (x19+1)) h22) ∧
    ((decide (x19<x18))=false ->
    F.xan x4 x11 h fun r25 h24 =>
    Q r25 h24)
def F.xcl (p0:Option Addr) (p1:Int) (p2:ae) (p3:ae) (p4:Int) (h:H) (Q:Sl->H->Prop):Prop:=
  new h p2.cells.toArray cH fun a2 h1 =>
  new h1 p3.cells.toArray cH fun a4 h3 =>
  nn p0 fun a5 =>
  ldL h3 (a5.add 0) fun y7 =>
  ∃ m,F.xcl.l1 Q m p1 p4 a2 a4 (⟨none,0,0⟩:Sl) y7 (y7.len:Int) 0 h3
theorem F.xcl_ok {p0:Option Addr}{p1:Int}{p2:ae}{p3:ae}{p4:Int}{h:H}{Q:Sl->H->Prop}(H:F.xcl p0 p1 p2 p3 p4 h Q):Fn PP 18 ([(.pointer p0),(.int .i64 p1),(.agg p2.cells.toArray),(.agg p3.cells.toArray),(.int .i64 p4)]:List Value).toArray h fun r h'=>∃ r0,r=r0.enc∧Q r0 h':=by
 unfold F.xcl at H;refine aV Tryz.func18 Tryz.ntmps18 rfl rfl fun w0=>(az [(0,(.pointer p0)),(1,(.int .i64 p1)),(2,(.agg p2.cells.toArray)),(3,(.agg p3.cells.toArray)),(4,(.int .i64 p4))] ⟨rfl,rfl,rfl,rfl,rfl,tv⟩ (sr (te (cb (cs:=p2.cells.toArray) rfl rfl H) ?_)));rintro _ h1 ⟨a2,rfl,H⟩;refine te (cb (cs:=p3.cells.toArray) rfl rfl H) ?_;rintro _ h3 ⟨a4,rfl,H⟩;refine qa rfl (nt (sr (qa rfl (nt (aj (sr (qm rfl ?_)))))));obtain ⟨a5,e6,H⟩:=H;refine tq (bG rfl e6) (tq (ay (off:=0) Z0 fU rfl) ?_);obtain ⟨y7,k8,H⟩:=H;refine th (aD Z3 rfl) k8 (tq (bB (ts:=#[]) Zw (o:=y7.ptr) (n:=y7.len) (cap:=y7.cap) rfl) (qm rfl (nt (aB ?_))));obtain ⟨m26,H⟩:=H;refine az [(1,(.int .i64 p1)),(4,(.int .i64 p4)),(7,(.pointer (some a2))),(8,(.pointer (some a4))),(11,(⟨none,0,0⟩:Sl).enc),(17,y7.enc),(18,(.int .i64 (y7.len:Int))),(19,(.int .i64 0))] ⟨rfl,rfl,rfl,rfl,rfl,rfl,rfl,rfl,tv⟩ ?_;refine aY (fun m L' h=>∃ (x1:Int) (x4:Int) (x7:Addr) (x8:Addr) (x11:Sl) (x17:Sl) (x18:Int) (x19:Int),L'=[(1,(.int .i64 x1)),(4,(.int .i64 x4)),(7,(.pointer (some x7))),(8,(.pointer (some x8))),(11,x11.enc),(17,x17.enc),(18,(.int .i64 x18)),(19,(.int .i64 x19))]∧F.xcl.l1 Q m x1 x4 x7 x8 x11 x17 x18 x19 h) ?_ ?_ m26 ⟨_,_,_,_,_,_,_,_,rfl,H⟩
 ·rintro L' h ⟨_,_,_,_,_,_,_,_,_,H⟩;exact H
 ·rintro q1 L' h ⟨x1,x4,x7,x8,x11,x17,x18,x19,rfl,H⟩;unfold F.xcl.l1 at H;refine sr (tq (bN rfl rfl) (nt (aj ?_)));refine am rfl (fun g9=>?_) (fun g9=>?_)
  ·replace H:=H.1 g9;refine au (aa (aj (aB (sr ?_))));obtain ⟨a10,e11,H⟩:=H;refine tq (bf (s:=x17) Zw ZBG rfl rfl e11) ?_;obtain ⟨y12,k13,H⟩:=H;refine th (aD ZBH rfl) k13 (qa rfl (nt (ai (qm rfl (qm rfl (qm rfl ?_))))));obtain ⟨y14,k15,H⟩:=H;refine th (aQ ZB ZA rfl rfl) k15 ?_;obtain ⟨y16,k17,H⟩:=H;refine th (aQ ZB ZA rfl rfl) k17 (qm rfl (te (av Tryz.call39 rfl (F.xat_ok H)) ?_));rintro _ h18 ⟨r19,rfl,H⟩;refine te (co (cs:=#[r19.enc]) rfl rfl (ya r19) H) ?_;rintro _ h20 ⟨s21,rfl,H⟩;refine te (dV rfl H) ?_;rintro _ h22 ⟨s23,rfl,H⟩;refine qa rfl (bo (aI (aa (ai (tq (bE rfl rfl) (qm rfl (nt ?_)))))));exact ah [(1,(.int .i64 x1)),(4,(.int .i64 x4)),(7,(.pointer (some x7))),(8,(.pointer (some x8))),(11,s23.enc),(17,x17.enc),(18,(.int .i64 x18)),(19,(.int .i64 (IntKind.wrap .i64 (x19+1))))] ⟨rfl,rfl,rfl,rfl,rfl,rfl,rfl,rfl,tv⟩ ⟨_,_,_,_,_,_,_,_,rfl,H⟩
  ·replace H:=H.2 g9;refine bC (aF (aF (bV (aa (sr (qm rfl (qm rfl (te (av Tryz.call22 rfl (F.xan_ok H)) ?_))))))));rintro _ h24 ⟨r25,rfl,H⟩;refine qa rfl (nt (al ?_));exact an rfl rfl ⟨_,rfl,H⟩
def F.xdm (p0:Option Addr) (p1:Int) (h:H) (Q:Bool->H->Prop):Prop:=
  ((decide (p1>=0))=true ->
  nn p0 fun a2 =>
  ldL h (a2.add 0) fun y4 =>
  Q (decide (p1<(y4.len:Int))) h) ∧
  ((decide (p1>=0))=false ->
  Q false h)
theorem F.xdm_ok {p0:Option Addr}{p1:Int}{h:H}{Q:Bool->H->Prop}(H:F.xdm p0 p1 h Q):Fn PP 51 ([(.pointer p0),(.int .i64 p1)]:List Value).toArray h fun r h'=>∃ r0,r=(.bool r0)∧Q r0 h':=by
 unfold F.xdm at H;refine aV Tryz.func51 Tryz.ntmps51 rfl rfl fun w0=>(az [(0,(.pointer p0)),(1,(.int .i64 p1))] ⟨rfl,rfl,tv⟩ (sr (qa rfl (nt (sr (qm rfl (tq (jT rfl rfl) (qm rfl ?_))))))));refine aT (t:=7) rfl (fun g1=>?_) (fun g1=>?_)
 ·replace H:=H.1 g1;refine qm rfl (qm rfl ?_);obtain ⟨a2,e3,H⟩:=H;refine tq (bG rfl e3) (tq (ay (off:=0) Z0 fU rfl) ?_);obtain ⟨y4,k5,H⟩:=H;refine th (aD Z3 rfl) k5 (tq (bB (ts:=#[]) Zw (o:=y4.ptr) (n:=y4.len) (cap:=y4.cap) rfl) (tq (bN rfl rfl) (tq (aL rfl rfl) (qa rfl (nt (al ?_))))));exact an rfl rfl ⟨_,rfl,H⟩
 ·replace H:=H.2 g1;refine ts (ts (ts (ts (ts (ts (ts (tq (aH rfl rfl) (qa rfl (nt (al ?_))))))))));exact an rfl rfl ⟨_,rfl,H⟩
def F.xfb (p0:Option Addr) (h:H) (Q:Int->H->Prop):Prop:=
  nn p0 fun a1 =>
  ldI .i64 h (a1.add 0) fun y3 =>
  Q y3 h
theorem F.xfb_ok {p0:Option Addr}{h:H}{Q:Int->H->Prop}(H:F.xfb p0 h Q):Fn PP 31 ([(.pointer p0)]:List Value).toArray h fun r h'=>∃ r0,r=(.int .i64 r0)∧Q r0 h':=by
 unfold F.xfb at H;refine aV Tryz.func31 Tryz.ntmps31 rfl rfl fun w0=>(az [(0,(.pointer p0))] ⟨rfl,tv⟩ (sr (qa rfl (nt (sr (qm rfl ?_))))));obtain ⟨a1,e2,H⟩:=H;refine tq (bG rfl e2) (tq (ay (off:=0) Zr hC rfl) ?_);obtain ⟨y3,k4,H⟩:=H;refine th (aD ZC rfl) k4 (qa rfl (nt (al ?_)));exact an rfl rfl ⟨_,rfl,H⟩
def F.xdf (p0:Option Addr) (p1:Int) (h:H) (Q:Int->H->Prop):Prop:=
  F.xdm p0 p1 h fun r2 h1 =>
  ((!r2)=true ->
  Q 0 h1) ∧
  ((!r2)=false ->
  nn p0 fun a4 =>
  ldL h1 (a4.add 0) fun y6 =>
  bD y6 p1 1 fun a8 =>
  ldP h1 a8 fun y10 =>
  nn y10 fun a12 =>
  F.xfb (some (a12.add 0)) h1 fun r15 h14 =>
  Q r15 h14)
theorem F.xdf_ok {p0:Option Addr}{p1:Int}{h:H}{Q:Int->H->Prop}(H:F.xdf p0 p1 h Q):Fn PP 24 ([(.pointer p0),(.int .i64 p1)]:List Value).toArray h fun r h'=>∃ r0,r=(.int .i64 r0)∧Q r0 h':=by
 unfold F.xdf at H;refine aV Tryz.func24 Tryz.ntmps24 rfl rfl fun w0=>(az [(0,(.pointer p0)),(1,(.int .i64 p1))] ⟨rfl,rfl,tv⟩ (sr (qa rfl (nt (aj (sr (qm rfl (qm rfl (te (av Tryz.call51 rfl (F.xdm_ok H)) ?_)))))))));rintro _ h1 ⟨r2,rfl,H⟩;refine tq (eI rfl) (nt ?_);refine am rfl (fun g3=>?_) (fun g3=>?_)
 ·replace H:=H.1 g3;refine sr (qa rfl (nt (al (aq ?_))));exact an rfl rfl ⟨_,rfl,H⟩
 ·replace H:=H.2 g3;refine au (aa (sr (qm rfl ?_)));obtain ⟨a4,e5,H⟩:=H;refine tq (bG rfl e5) (tq (ay (off:=0) Z0 fU rfl) ?_);obtain ⟨y6,k7,H⟩:=H;refine th (aD Z3 rfl) k7 (qm rfl ?_);obtain ⟨a8,e9,H⟩:=H;refine tq (bf (s:=y6) Zw ZBG rfl rfl e9) ?_;obtain ⟨y10,k11,H⟩:=H;refine th (aD ZBH rfl) k11 ?_;obtain ⟨a12,e13,H⟩:=H;refine tq (bG rfl e13) (tq (ay (off:=0) ZU er rfl) (te (av Tryz.call31 rfl (F.xfb_ok H)) ?_));rintro _ h14 ⟨r15,rfl,H⟩;refine qa rfl (nt (al ?_));exact an rfl rfl ⟨_,rfl,H⟩
def F.xcc.j1 (Q:Bool->H->Prop) (x1:Option Addr) (h:H):Prop:=
  F.xeb 1 h fun r5 h4 =>
  F.xdh x1 1 (⟨(⟨0,(⟨#[97]⟩:ByteArray),0⟩:ae),r5⟩:aO) h4 fun r7 h6 =>
  F.xeb 2 h6 fun r9 h8 =>
  F.xdh x1 1 (⟨(⟨0,(⟨#[98]⟩:ByteArray),0⟩:ae),r9⟩:aO) h8 fun r11 h10 =>
  F.xcl x1 0 (⟨0,(⟨#[]⟩:ByteArray),0⟩:ae) (⟨1,(⟨#[]⟩:ByteArray),0⟩:ae) 9 h10 fun r13 h12 =>
  (((r7 == 0))=true ->
  (((r11 == 0))=true ->
  F.xco x1 (⟨#[97]⟩:ByteArray) h12 fun r17 h16 =>
  (((r17 == 0))=true ->
  F.xco x1 (⟨#[98]⟩:ByteArray) h16 fun r20 h19 =>
  (((r20 == 1))=true ->
  ((((r13.len:Int) == 2))=true ->
  bD r13 1 7 fun a23 =>
  ldI .i64 h19 ((a23.add 3).add 1) fun y25 =>
  (((y25 == 2))=true ->
  F.xdf x1 1 h19 fun r29 h28 =>
  (((r29 == 2))=true ->
  F.xdf x1 2 h28 fun r32 h31 =>
  Q ((r32 == 0)) h31) ∧
  (((r29 == 2))=false ->
  Q false h28)) ∧
  (((y25 == 2))=false ->
  Q false h19)) ∧
  ((((r13.len:Int) == 2))=false ->
  Q false h19)) ∧
  (((r20 == 1))=false ->
  Q false h19)) ∧
  (((r17 == 0))=false ->
  Q false h16)) ∧
  (((r11 == 0))=false ->
  Q false h12)) ∧
  (((r7 == 0))=false ->
  Q false h12)
def F.xcc.j2 (Q:Bool->H->Prop) (x1:Option Addr) (x15:Bool) (h:H):Prop:=
  (x15=true ->
  Q false h) ∧
  (x15=false ->
  F.xcc.j1 Q x1 h)
def F.xcc  (h:H) (Q:Bool->H->Prop):Prop:=
  F.xaw 2 9 h fun r2 r3 h1 =>
  (((r3 != 0))=true ->
  F.xcc.j2 Q r2 true h1) ∧
  (((r3 != 0))=false ->
  F.xcc.j2 Q r2 r2.isNone h1)
theorem F.xcc_ok  {h:H}{Q:Bool->H->Prop}(H:F.xcc  h Q):Fn PP 12 ([]:List Value).toArray h fun r h'=>∃ r0,r=(.bool r0)∧Q r0 h':=by
 unfold F.xcc at H;refine aV Tryz.func12 Tryz.ntmps12 rfl rfl fun w0=>(az [] trivial (sr (qa rfl (nt (sr (te (av Tryz.call8 rfl (F.xaw_ok H)) ?_))))));rintro _ h1 ⟨r2,r3,rfl,H⟩;refine qm rfl (tq (bW rfl rfl) (tq (bW rfl rfl) (qa rfl (qa rfl (nt ?_)))));refine aG (fun L' h=>∃ (x1:Option Addr),L'=[(1,(.pointer x1))]∧F.xcc.j1 Q x1 h) ?_ ?_
 ·rintro L' h ⟨x1,rfl,H⟩;unfold F.xcc.j1 at H;refine sr (qm rfl (tq (bO rfl (tk (⟨#[97]⟩:ByteArray))) (te (av Tryz.call16 rfl (F.xeb_ok H)) ?_)));rintro _ h4 ⟨r5,rfl,H⟩;refine tq (bO rfl (j9 (⟨0,(⟨#[97]⟩:ByteArray),0⟩:ae) r5)) (te (av Tryz.call14 rfl (F.xdh_ok H)) ?_);rintro _ h6 ⟨r7,rfl,H⟩;refine qa rfl (nt (sr (qm rfl (tq (bO rfl (tk (⟨#[98]⟩:ByteArray))) (te (av Tryz.call16 rfl (F.xeb_ok H)) ?_)))));rintro _ h8 ⟨r9,rfl,H⟩;refine tq (bO rfl (j9 (⟨0,(⟨#[98]⟩:ByteArray),0⟩:ae) r9)) (te (av Tryz.call14 rfl (F.xdh_ok H)) ?_);rintro _ h10 ⟨r11,rfl,H⟩;refine qa rfl (nt (sr (qm rfl (tq (bO rfl (lx )) (tq (bO rfl (pK 1)) (te (av Tryz.call18 rfl (F.xcl_ok H)) ?_))))));rintro _ h12 ⟨r13,rfl,H⟩;refine qa rfl (nt (sr (qm rfl (tq (ct rfl rfl) (qm rfl ?_)))));refine aT (t:=32) rfl (fun g14=>?_) (fun g14=>?_)
  ·replace H:=H.1 g14;refine qm rfl (tq (ct rfl rfl) (tq (aL rfl rfl) (qm rfl ?_)));refine aT (t:=36) rfl (fun g15=>?_) (fun g15=>?_)
   ·replace H:=H.1 g15;refine qm rfl (te (av Tryz.call10 rfl (F.xco_ok H)) ?_);rintro _ h16 ⟨r17,rfl,H⟩;refine tq (ct rfl rfl) (tq (aL rfl rfl) (qm rfl ?_));refine aT (t:=41) rfl (fun g18=>?_) (fun g18=>?_)
    ·replace H:=H.1 g18;refine qm rfl (te (av Tryz.call10 rfl (F.xco_ok H)) ?_);rintro _ h19 ⟨r20,rfl,H⟩;refine tq (ct rfl rfl) (tq (aL rfl rfl) (qm rfl ?_));refine aT (t:=46) rfl (fun g21=>?_) (fun g21=>?_)
     ·replace H:=H.1 g21;refine qm rfl (tq (bB (ts:=#[]) ZW (o:=r13.ptr) (n:=r13.len) (cap:=r13.cap) rfl) (tq (ct rfl rfl) (tq (aL rfl rfl) (qm rfl ?_))));refine aT (t:=51) rfl (fun g22=>?_) (fun g22=>?_)
      ·replace H:=H.1 g22;refine qm rfl ?_;obtain ⟨a23,e24,H⟩:=H;refine tq (bf (s:=r13) ZW ZZ rfl rfl e24) (tq (ay (off:=3) Zq kQ rfl) (tq (ay (off:=1) ZM jL rfl) ?_));obtain ⟨y25,k26,H⟩:=H;refine th (aD ZE rfl) k26 (tq (ct rfl rfl) (tq (aL rfl rfl) (qm rfl ?_)));refine aT (t:=59) rfl (fun g27=>?_) (fun g27=>?_)
       ·replace H:=H.1 g27;refine qm rfl (te (av Tryz.call24 rfl (F.xdf_ok H)) ?_);rintro _ h28 ⟨r29,rfl,H⟩;refine tq (ct rfl rfl) (tq (aL rfl rfl) (qm rfl ?_));refine aT (t:=64) rfl (fun g30=>?_) (fun g30=>?_)
        ·replace H:=H.1 g30;refine qm rfl (te (av Tryz.call24 rfl (F.xdf_ok H)) ?_);rintro _ h31 ⟨r32,rfl,H⟩;refine tq (ct rfl rfl) (tq (aL rfl rfl) (qa rfl (nt (al ?_))));exact an rfl rfl ⟨_,rfl,H⟩
        ·replace H:=H.2 g30;refine ts (ts (ts (tq (aH rfl rfl) (qa rfl (nt (al ?_))))));exact an rfl rfl ⟨_,rfl,H⟩
       ·replace H:=H.2 g27;refine ts (ts (ts (tq (aH rfl rfl) (qm rfl (ts (ts (ts (tq (aH rfl rfl) (qa rfl (nt (al ?_)))))))))));exact an rfl rfl ⟨_,rfl,H⟩
      ·replace H:=H.2 g22;refine ts (ts (ts (ts (ts (ts (tq (aH rfl rfl) (qm rfl (ts (ts (ts (tq (aH rfl rfl) (qm rfl (ts ?_)))))))))))));refine ts (ts (tq (aH rfl rfl) (qa rfl (nt (al ?_)))));exact an rfl rfl ⟨_,rfl,H⟩
     ·replace H:=H.2 g21;refine ts (ts (ts (tq (aH rfl rfl) (qm rfl (ts (ts (ts (ts (ts (ts (tq (aH rfl rfl) (qm rfl (ts ?_)))))))))))));refine ts (ts (tq (aH rfl rfl) (qm rfl (ts (ts (ts (tq (aH rfl rfl) (qa rfl (nt (al ?_))))))))));exact an rfl rfl ⟨_,rfl,H⟩
    ·replace H:=H.2 g18;refine ts (ts (ts (tq (aH rfl rfl) (qm rfl (ts (ts (ts (tq (aH rfl rfl) (qm rfl (ts (ts (ts (ts ?_)))))))))))));refine ts (ts (tq (aH rfl rfl) (qm rfl (ts (ts (ts (tq (aH rfl rfl) (qm rfl (ts (ts (ts (tq (aH rfl rfl) (qa rfl ?_)))))))))))));refine nt (al ?_);exact an rfl rfl ⟨_,rfl,H⟩
   ·replace H:=H.2 g15;refine ts (ts (ts (tq (aH rfl rfl) (qm rfl (ts (ts (ts (tq (aH rfl rfl) (qm rfl (ts (ts (ts (tq (aH rfl rfl) ?_)))))))))))));refine qm rfl (ts (ts (ts (ts (ts (ts (tq (aH rfl rfl) (qm rfl (ts (ts (ts (tq (aH rfl rfl) (qm rfl ?_)))))))))))));refine ts (ts (ts (tq (aH rfl rfl) (qa rfl (nt (al ?_))))));exact an rfl rfl ⟨_,rfl,H⟩
  ·replace H:=H.2 g14;refine ts (ts (tq (aH rfl rfl) (qm rfl (ts (ts (ts (tq (aH rfl rfl) (qm rfl (ts (ts (ts (tq (aH rfl rfl) (qm rfl ?_)))))))))))));refine ts (ts (ts (tq (aH rfl rfl) (qm rfl (ts (ts (ts (ts (ts (ts (tq (aH rfl rfl) (qm rfl (ts ?_)))))))))))));refine ts (ts (tq (aH rfl rfl) (qm rfl (ts (ts (ts (tq (aH rfl rfl) (qa rfl (nt (al ?_))))))))));exact an rfl rfl ⟨_,rfl,H⟩
 ·refine aG (fun L' h=>∃ (x1:Option Addr) (x15:Bool),L'=[(1,(.pointer x1)),(15,(.bool x15))]∧F.xcc.j2 Q x1 x15 h) ?_ ?_
  ·rintro L' h ⟨x1,x15,rfl,H⟩;unfold F.xcc.j2 at H;refine am rfl (fun g33=>?_) (fun g33=>?_)
   ·replace H:=H.1 g33;refine sr (qa rfl (nt (al (aq ?_))));exact an rfl rfl ⟨_,rfl,H⟩
   ·replace H:=H.2 g33;refine au (aa ?_);exact ah [(1,(.pointer x1))] ⟨rfl,tv⟩ ⟨_,rfl,H⟩
  ·refine ai (qm rfl (tq (ey rfl rfl) (qm rfl ?_)));refine aT (t:=12) rfl (fun g34=>?_) (fun g34=>?_)
   ·replace H:=H.1 g34;refine ts (ts (tq (aL rfl rfl) (nt ?_)));exact ah [(1,(.pointer r2)),(15,(.bool true))] ⟨rfl,rfl,tv⟩ ⟨_,_,rfl,H⟩
   ·replace H:=H.2 g34;refine qm rfl (tq (iG Tryz.runUnderlying23 rfl rfl) (tq (aH rfl rfl) (nt ?_)));exact ah [(1,(.pointer r2)),(15,(.bool r2.isNone))] ⟨rfl,rfl,tv⟩ ⟨_,_,rfl,H⟩
def F.xcn.l1 (Q:Bool->H->Prop):Nat->Sl->Sl->Int->H->Prop
  | 0,_,_,_,_=>False
  | q1+1,x0,x1,x5,h =>
    ((decide (x5<(x0.len:Int)))=true ->
    bD x0 x5 7 fun a3 =>
    ec h a3 fun y5 =>
    bD x1 x5 7 fun a7 =>
    ec h a7 fun y9 =>
    ((!((((y5.Cell.View == y9.Cell.View) && ((y5.Cell.Key.toList == y9.Cell.Key.toList) && ((y5.Cell.Start == y9.Cell.Start) && true)))) && ((((y5.Agg.Count == y9.Agg.Count) && ((y5.Agg.Sum == y9.Agg.Sum) && ((y5.Agg.Min == y9.Agg.Min) && ((y5.Agg.Max == y9.Agg.Max) && true))))) && true)))=true ->
    Q false h) ∧
    ((!((((y5.Cell.View == y9.Cell.View) && ((y5.Cell.Key.toList == y9.Cell.Key.toList) && ((y5.Cell.Start == y9.Cell.Start) && true)))) && ((((y5.Agg.Count == y9.Agg.Count) && ((y5.Agg.Sum == y9.Agg.Sum) && ((y5.Agg.Min == y9.Agg.Min) && ((y5.Agg.Max == y9.Agg.Max) && true))))) && true)))=false ->
    (F.xcn.l1 Q q1) x0 x1 (IntKind.wrap .i64 (x5+1)) h)) ∧
    ((decide (x5<(x0.len:Int)))=false ->
    Q true h)
def F.xcn (p0:Sl) (p1:Sl) (h:H) (Q:Bool->H->Prop):Prop:=
  ((((p0.len:Int) != (p1.len:Int)))=true ->
  Q false h) ∧
  ((((p0.len:Int) != (p1.len:Int)))=false ->
  ∃ m,F.xcn.l1 Q m p0 p1 0 h)
theorem F.xcn_ok {p0:Sl}{p1:Sl}{h:H}{Q:Bool->H->Prop}(H:F.xcn p0 p1 h Q):Fn PP 19 ([p0.enc,p1.enc]:List Value).toArray h fun r h'=>∃ r0,r=(.bool r0)∧Q r0 h':=by
 unfold F.xcn at H;refine aV Tryz.func19 Tryz.ntmps19 rfl rfl fun w0=>(az [(0,p0.enc),(1,p1.enc)] ⟨rfl,rfl,tv⟩ (sr (qa rfl (nt (aj (sr (qm rfl (tq (bB (ts:=#[]) ZW (o:=p0.ptr) (n:=p0.len) (cap:=p0.cap) rfl) (qm rfl (tq (bB (ts:=#[]) ZW (o:=p1.ptr) (n:=p1.len) (cap:=p1.cap) rfl) ?_))))))))));refine tq (ey rfl rfl) (nt ?_);refine am rfl (fun g1=>?_) (fun g1=>?_)
 ·replace H:=H.1 g1;refine sr (qa rfl (nt (al (aq ?_))));exact an rfl rfl ⟨_,rfl,H⟩
 ·replace H:=H.2 g1;refine au (aa (aj (sr (qa rfl (nt (aB ?_))))));obtain ⟨m12,H⟩:=H;refine az [(0,p0.enc),(1,p1.enc),(5,(.int .i64 0))] ⟨rfl,rfl,rfl,tv⟩ ?_;refine aY (fun m L' h=>∃ (x0:Sl) (x1:Sl) (x5:Int),L'=[(0,x0.enc),(1,x1.enc),(5,(.int .i64 x5))]∧F.xcn.l1 Q m x0 x1 x5 h) ?_ ?_ m12 ⟨_,_,_,rfl,H⟩
  ·rintro L' h ⟨_,_,_,_,H⟩;exact H
  ·rintro q1 L' h ⟨x0,x1,x5,rfl,H⟩;unfold F.xcn.l1 at H;refine aj (sr (qm rfl (qm rfl (tq (bB (ts:=#[]) ZW (o:=x0.ptr) (n:=x0.len) (cap:=x0.cap) rfl) (tq (bN rfl rfl) (nt ?_))))));refine am rfl (fun g2=>?_) (fun g2=>?_)
   ·replace H:=H.1 g2;refine au (aa (aj (aB (aj (bv mixed [0,0,3,7,0,0,48,112,255] (by kernel_rfl) (gq 0 1 rfl (aw rfl) (gq 1 3 rfl (aw rfl) ?_)))))));obtain ⟨a3,e4,H⟩:=H;refine gq 2 7 rfl (bf (s:=x0) ZW ZZ rfl rfl e4) ?_;obtain ⟨y5,k6,H⟩:=H;refine gh 3 15 rfl (aQ ZBJ ZZ rfl rfl) k6 (gq 4 31 rfl (aw rfl) (gq 5 63 rfl (aw rfl) ?_));obtain ⟨a7,e8,H⟩:=H;refine gq 6 127 rfl (bf (s:=x1) ZW ZZ rfl rfl e8) ?_;obtain ⟨y9,k10,H⟩:=H;refine gh 7 255 rfl (aQ ZBJ ZZ rfl rfl) k10 (gq 8 511 rfl (AK (b:=((((y5.Cell.View == y9.Cell.View) && ((y5.Cell.Key.toList == y9.Cell.Key.toList) && ((y5.Cell.Start == y9.Cell.Start) && true)))) && ((((y5.Agg.Count == y9.Agg.Count) && ((y5.Agg.Sum == y9.Agg.Sum) && ((y5.Agg.Min == y9.Agg.Min) && ((y5.Agg.Max == y9.Agg.Max) && true))))) && true))) CT (fun w=>Bo y5 y9 9997 w) rfl rfl) (g_d (by kernel_rfl) (aa ?_)));refine am rfl (fun g11=>?_) (fun g11=>?_)
    ·replace H:=H.1 g11;refine sr (qa rfl (nt (al (aS (aq (aq (aS (aq ?_))))))));exact an rfl rfl ⟨_,rfl,H⟩
    ·replace H:=H.2 g11;refine au (aI (aa (ai (qm rfl (tq (bE rfl rfl) (qa rfl (nt ?_)))))));exact ah [(0,x0.enc),(1,x1.enc),(5,(.int .i64 (IntKind.wrap .i64 (x5+1))))] ⟨rfl,rfl,rfl,tv⟩ ⟨_,_,_,rfl,H⟩
   ·replace H:=H.2 g2;refine bC (aF (aF (bV (aa (sr (qa rfl (nt (al ?_))))))));exact an rfl rfl ⟨_,rfl,H⟩
def F.xdv (p0:Option Addr) (p1:ae) (p2:Int) (h:H) (Q:ag->H->Prop):Prop:=
  new h p1.cells.toArray cH fun a2 h1 =>
  new h1 (((⟨0,0,0,0⟩:ag):ag).cells.toArray) gz fun a4 h3 =>
  ak h3 a2 fun y5 =>
  F.xdj p0 y5 h3 fun r8 h7 =>
  F.xdq r8 p2 h7 fun r10 r11 h9 =>
  new h9 (((⟨0,0,0,0⟩:ag):ag).cells.toArray) gz fun a13 h12 =>
  stH h12 a13 r10.cells fun h14 =>
  bh h14 a13 fun y15 =>
  stH h14 a4 y15.cells fun h17 =>
  bh h17 a4 fun y18 =>
  Q y18 h17
theorem F.xdv_ok {p0:Option Addr}{p1:ae}{p2:Int}{h:H}{Q:ag->H->Prop}(H:F.xdv p0 p1 p2 h Q):Fn PP 38 ([(.pointer p0),(.agg p1.cells.toArray),(.int .i64 p2)]:List Value).toArray h fun r h'=>∃ r0,r=(.agg r0.cells.toArray)∧Q r0 h':=by
 unfold F.xdv at H;refine aV Tryz.func38 Tryz.ntmps38 rfl rfl fun w0=>(az [(0,(.pointer p0)),(1,(.agg p1.cells.toArray)),(2,(.int .i64 p2))] ⟨rfl,rfl,rfl,tv⟩ (sr (te (cb (cs:=p1.cells.toArray) rfl rfl H) ?_)));rintro _ h1 ⟨a2,rfl,H⟩;refine te (bJ (cs:=((⟨0,0,0,0⟩:ag):ag).cells.toArray) Zo rfl H) ?_;rintro _ h3 ⟨a4,rfl,H⟩;refine nt (sr (qm rfl ?_));obtain ⟨y5,k6,H⟩:=H;refine th (aQ ZB ZA rfl rfl) k6 (te (av Tryz.call57 rfl (F.xdj_ok H)) ?_);rintro _ h7 ⟨r8,rfl,H⟩;refine qm rfl (te (av Tryz.call71 rfl (F.xdq_ok H)) ?_);rintro _ h9 ⟨r10,r11,rfl,H⟩;refine qm rfl (tq (bW rfl rfl) (tq (bW rfl rfl) (te (bJ (cs:=((⟨0,0,0,0⟩:ag):ag).cells.toArray) Zo rfl H) ?_)));rintro _ h12 ⟨a13,rfl,H⟩;refine te (aK (vs:=r10.cells) ZD rfl rfl ax rfl (by intro v hv;exact bt _ v hv) H) ?_;rintro _ h14 ⟨rfl,H⟩;refine qa rfl (nt (sr ?_));obtain ⟨y15,k16,H⟩:=H;refine th (aQ ZK ZD rfl rfl) k16 (te (aK (vs:=y15.cells) ZD rfl rfl ax rfl (by intro v hv;exact bt _ v hv) H) ?_);rintro _ h17 ⟨rfl,H⟩;refine nt (al ?_);obtain ⟨y18,k19,H⟩:=H;exact eY rfl (bY ZK ZD rfl rfl k19) ⟨_,rfl,H⟩
def F.xez (p0:Option Addr) (p1:ae) (h:H) (Q:ag->H->Prop):Prop:=
  new h p1.cells.toArray cH fun a2 h1 =>
  new h1 (((⟨0,0,0,0⟩:ag):ag).cells.toArray) gz fun a4 h3 =>
  ak h3 a2 fun y5 =>
  F.xdv p0 y5 0 h3 fun r8 h7 =>
  stH h7 a4 r8.cells fun h9 =>
  bh h9 a4 fun y10 =>
  Q y10 h9
theorem F.xez_ok {p0:Option Addr}{p1:ae}{h:H}{Q:ag->H->Prop}(H:F.xez p0 p1 h Q):Fn PP 36 ([(.pointer p0),(.agg p1.cells.toArray)]:List Value).toArray h fun r h'=>∃ r0,r=(.agg r0.cells.toArray)∧Q r0 h':=by
 unfold F.xez at H;refine aV Tryz.func36 Tryz.ntmps36 rfl rfl fun w0=>(az [(0,(.pointer p0)),(1,(.agg p1.cells.toArray))] ⟨rfl,rfl,tv⟩ (sr (te (cb (cs:=p1.cells.toArray) rfl rfl H) ?_)));rintro _ h1 ⟨a2,rfl,H⟩;refine te (bJ (cs:=((⟨0,0,0,0⟩:ag):ag).cells.toArray) Zo rfl H) ?_;rintro _ h3 ⟨a4,rfl,H⟩;refine nt (sr (qm rfl ?_));obtain ⟨y5,k6,H⟩:=H;refine th (aQ ZB ZA rfl rfl) k6 (te (av Tryz.call38 rfl (F.xdv_ok H)) ?_);rintro _ h7 ⟨r8,rfl,H⟩;refine te (aK (vs:=r8.cells) ZD rfl rfl ax rfl (by intro v hv;exact bt _ v hv) H) ?_;rintro _ h9 ⟨rfl,H⟩;refine nt (al ?_);obtain ⟨y10,k11,H⟩:=H;exact eY rfl (bY ZK ZD rfl rfl k11) ⟨_,rfl,H⟩
def F.xeg (p0:Option Addr) (p1:ae) (h:H) (Q:ag->H->Prop):Prop:=
  new h p1.cells.toArray cH fun a2 h1 =>
  new h1 (((⟨0,0,0,0⟩:ag):ag).cells.toArray) gz fun a4 h3 =>
  ak h3 a2 fun y5 =>
  ak h3 a2 fun y7 =>
  F.xda p0 y5 h3 fun r10 h9 =>
  Cells h9 a2 y7.cells ∧
  F.xez r10 y7 h9 fun r13 h12 =>
  stH h12 a4 r13.cells fun h14 =>
  bh h14 a4 fun y15 =>
  Q y15 h14
theorem F.xeg_ok {p0:Option Addr}{p1:ae}{h:H}{Q:ag->H->Prop}(H:F.xeg p0 p1 h Q):Fn PP 20 ([(.pointer p0),(.agg p1.cells.toArray)]:List Value).toArray h fun r h'=>∃ r0,r=(.agg r0.cells.toArray)∧Q r0 h':=by
 unfold F.xeg at H;refine aV Tryz.func20 Tryz.ntmps20 rfl rfl fun w0=>(az [(0,(.pointer p0)),(1,(.agg p1.cells.toArray))] ⟨rfl,rfl,tv⟩ (sr (te (cb (cs:=p1.cells.toArray) rfl rfl H) ?_)));rintro _ h1 ⟨a2,rfl,H⟩;refine te (bJ (cs:=((⟨0,0,0,0⟩:ag):ag).cells.toArray) Zo rfl H) ?_;rintro _ h3 ⟨a4,rfl,H⟩;refine nt (aj (bv mixed [0,0,3,0,15,31] (by kernel_rfl) (gq 0 1 rfl (aw rfl) ?_)));obtain ⟨y5,k6,H⟩:=H;refine gh 1 3 rfl (aQ ZB ZA rfl rfl) k6 ?_;obtain ⟨y7,k8,H⟩:=H;refine gh 3 11 rfl (aQ ZB ZA rfl rfl) k8 (g_e 2 15 [(3,fun h=>Cells h a2 y7.cells)] (by kernel_rfl) rfl (by kernel_rfl) (av Tryz.call46 rfl (F.xda_ok H)) rfl rfl ?_);rintro _ h9 ⟨r10,rfl,H⟩;obtain ⟨k11,H⟩:=H;refine ⟨And.intro k11 trivial,?_⟩;refine g_e 4 31 [] (by kernel_rfl) rfl (by kernel_rfl) (av Tryz.call36 rfl (F.xez_ok H)) rfl rfl ?_;rintro _ h12 ⟨r13,rfl,H⟩;refine ⟨trivial,?_⟩;refine g_e 5 63 [] (by kernel_rfl) rfl (by kernel_rfl) (aK (vs:=r13.cells) ZD rfl rfl ax rfl (by intro v hv;exact bt _ v hv) H) rfl rfl ?_;rintro _ h14 ⟨rfl,H⟩;refine ⟨trivial,?_⟩;refine g_d (by kernel_rfl) (aa (al ?_));obtain ⟨y15,k16,H⟩:=H;exact eY rfl (bY ZK ZD rfl rfl k16) ⟨_,rfl,H⟩
def F.xei (p0:Option Addr) (p1:Int) (p2:Int) (p3:ae) (p4:ae) (p5:Int) (h:H) (Q:Sl->H->Prop):Prop:=
  new h p3.cells.toArray cH fun a2 h1 =>
  new h1 p4.cells.toArray cH fun a4 h3 =>
  F.xdm p0 p1 h3 fun r6 h5 =>
  ((!r6)=true ->
  Q (⟨none,0,0⟩:Sl) h5) ∧
  ((!r6)=false ->
  nn p0 fun a8 =>
  ldL h5 (a8.add 0) fun y10 =>
  bD y10 p1 1 fun a12 =>
  ldP h5 a12 fun y14 =>
  ak h5 a2 fun y16 =>
  ak h5 a4 fun y18 =>
  F.xat y14 p2 y16 y18 p5 h5 fun r21 h20 =>
  Q r21 h20)
theorem F.xei_ok {p0:Option Addr}{p1:Int}{p2:Int}{p3:ae}{p4:ae}{p5:Int}{h:H}{Q:Sl->H->Prop}(H:F.xei p0 p1 p2 p3 p4 p5 h Q):Fn PP 21 ([(.pointer p0),(.int .i64 p1),(.int .i64 p2),(.agg p3.cells.toArray),(.agg p4.cells.toArray),(.int .i64 p5)]:List Value).toArray h fun r h'=>∃ r0,r=r0.enc∧Q r0 h':=by
 unfold F.xei at H;refine aV Tryz.func21 Tryz.ntmps21 rfl rfl fun w0=>(az [(0,(.pointer p0)),(1,(.int .i64 p1)),(2,(.int .i64 p2)),(3,(.agg p3.cells.toArray)),(4,(.agg p4.cells.toArray)),(5,(.int .i64 p5))] ⟨rfl,rfl,rfl,rfl,rfl,rfl,tv⟩ (sr (te (cb (cs:=p3.cells.toArray) rfl rfl H) ?_)));rintro _ h1 ⟨a2,rfl,H⟩;refine te (cb (cs:=p4.cells.toArray) rfl rfl H) ?_;rintro _ h3 ⟨a4,rfl,H⟩;refine qa rfl (nt (aj (sr (qm rfl (qm rfl (te (av Tryz.call51 rfl (F.xdm_ok H)) ?_))))));rintro _ h5 ⟨r6,rfl,H⟩;refine tq (eI rfl) (nt ?_);refine am rfl (fun g7=>?_) (fun g7=>?_)
 ·replace H:=H.1 g7;refine sr (qa rfl (nt (al (aq ?_))));exact an rfl rfl ⟨_,rfl,H⟩
 ·replace H:=H.2 g7;refine au (aa (aj (bv mixed [0,1,3,7,0,31,63,0,0,0,0,2047,4095] (by kernel_rfl) (gq 0 1 rfl (aw rfl) ?_))));obtain ⟨a8,e9,H⟩:=H;refine gq 1 3 rfl (bG rfl e9) (gq 2 7 rfl (ay (off:=0) Z0 fU rfl) ?_);obtain ⟨y10,k11,H⟩:=H;refine gh 3 15 rfl (aD Z3 rfl) k11 (gq 4 31 rfl (aw rfl) ?_);obtain ⟨a12,e13,H⟩:=H;refine gq 5 63 rfl (bf (s:=y10) Zw ZBG rfl rfl e13) ?_;obtain ⟨y14,k15,H⟩:=H;refine gh 6 127 rfl (aD ZBH rfl) k15 (gq 7 255 rfl (aw rfl) ?_);obtain ⟨y16,k17,H⟩:=H;refine gh 8 511 rfl (aQ ZB ZA rfl rfl) k17 ?_;obtain ⟨y18,k19,H⟩:=H;refine gh 9 1023 rfl (aQ ZB ZA rfl rfl) k19 (gq 10 2047 rfl (aw rfl) (g_e 11 4095 [] (by kernel_rfl) rfl (by kernel_rfl) (av Tryz.call39 rfl (F.xat_ok H)) rfl rfl ?_));rintro _ h20 ⟨r21,rfl,H⟩;refine ⟨trivial,?_⟩;refine gq 12 8191 rfl (bp rfl) (g_d (by kernel_rfl) (aa (al ?_)));exact an rfl rfl ⟨_,rfl,H⟩
def F.xeu (p0:Option Addr) (p1:Int) (h:H) (Q:Int->Int->H->Prop):Prop:=
  F.xbr p0 p1 h fun r2 h1 =>
  (((r2 != 0))=true ->
  Q 0 r2 h1) ∧
  (((r2 != 0))=false ->
  F.xdc p0 h1 fun r5 r6 r7 h4 =>
  new h4 (((⟨0,0,0,0⟩:ag):ag).cells.toArray) gz fun a9 h8 =>
  stH h8 a9 r5.cells fun h10 =>
  ((!r7)=true ->
  Q 0 44 h10) ∧
  ((!r7)=false ->
  F.xbn p0 (⟨p1,(⟨0,0,0,0⟩:ag),true⟩:aM) h10 fun r13 h12 =>
  Q r13 0 h12))
theorem F.xeu_ok {p0:Option Addr}{p1:Int}{h:H}{Q:Int->Int->H->Prop}(H:F.xeu p0 p1 h Q):Fn PP 58 ([(.pointer p0),(.int .i64 p1)]:List Value).toArray h fun r h'=>∃ r0 r1,r=.tuple #[(.int .i64 r0),(.int .i64 r1)]∧Q r0 r1 h':=by
 unfold F.xeu at H;refine aV Tryz.func58 Tryz.ntmps58 rfl rfl fun w0=>(az [(0,(.pointer p0)),(1,(.int .i64 p1))] ⟨rfl,rfl,tv⟩ (sr (qa rfl (qa rfl (nt (aj (sr (qm rfl (qm rfl (te (av Tryz.call95 rfl (F.xbr_ok H)) ?_))))))))));rintro _ h1 ⟨r2,rfl,H⟩;refine qa rfl (nt (sr (qm rfl (tq (ey rfl rfl) (nt ?_)))));refine am rfl (fun g3=>?_) (fun g3=>?_)
 ·replace H:=H.1 g3;refine sr (qm rfl (qa rfl (qa rfl (nt (al (aq ?_))))));exact cw rfl rfl rfl ⟨_,_,rfl,H⟩
 ·replace H:=H.2 g3;refine au (aa (aj (sr (qm rfl (te (av Tryz.call65 rfl (F.xdc_ok H)) ?_)))));rintro _ h4 ⟨r5,r6,r7,rfl,H⟩;refine qm rfl (tq (bW rfl rfl) (tq (bW rfl rfl) (tq (bW rfl rfl) (te (bJ (cs:=((⟨0,0,0,0⟩:ag):ag).cells.toArray) Zo rfl H) ?_))));rintro _ h8 ⟨a9,rfl,H⟩;refine te (aK (vs:=r5.cells) ZD rfl rfl ax rfl (by intro v hv;exact bt _ v hv) H) ?_;rintro _ h10 ⟨rfl,H⟩;refine qa rfl (qa rfl (nt (sr (qm rfl (tq (eI rfl) (nt ?_))))));refine am rfl (fun g11=>?_) (fun g11=>?_)
  ·replace H:=H.1 g11;refine sr (qa rfl (qa rfl (nt (al (aq ?_)))));exact cw rfl rfl rfl ⟨_,_,rfl,H⟩
  ·replace H:=H.2 g11;refine au (aa (sr (qm rfl (qm rfl (tq (bO rfl (vP p1 true)) (te (av Tryz.call96 rfl (F.xbn_ok H)) ?_))))));rintro _ h12 ⟨r13,rfl,H⟩;refine qa rfl (qa rfl (nt (al ?_)));exact cw rfl rfl rfl ⟨_,_,rfl,H⟩
def F.xbt.j1 (Q:Int->H->Prop) (x0:Option Addr) (x1:Int) (x5:Addr) (h:H):Prop:=
  ak h x5 fun y9 =>
  F.xdj x0 y9 h fun r12 h11 =>
  (r12.isNone=true ->
  Q 44 h11) ∧
  (r12.isNone=false ->
  F.xeu r12 x1 h11 fun r15 r16 h14 =>
  (((r16 != 0))=true ->
  Q r16 h14) ∧
  (((r16 != 0))=false ->
  nn x0 fun a18 =>
  ldI .i64 h14 ((a18.add 0).add 0) fun y20 =>
  nn x0 fun a22 =>
  stH h14 ((a22.add 0).add 0) [(.int .i64 (IntKind.wrap .i64 (y20+(IntKind.wrap .i64 (r15-1)))))] fun h24 =>
  nn x0 fun a25 =>
  ldI .i64 h24 ((a25.add 0).add 1) fun y27 =>
  nn x0 fun a29 =>
  stH h24 ((a29.add 0).add 1) [(.int .i64 (IntKind.wrap .i64 (y27-1)))] fun h31 =>
  Q 0 h31))
def F.xbt.j2 (Q:Int->H->Prop) (x0:Option Addr) (x1:Int) (x5:Addr) (x25:Bool) (h:H):Prop:=
  (x25=true ->
  Q 1 h) ∧
  (x25=false ->
  F.xbt.j1 Q x0 x1 x5 h)
def F.xbt (p0:Option Addr) (p1:Int) (p2:ae) (h:H) (Q:Int->H->Prop):Prop:=
  new h p2.cells.toArray cH fun a2 h1 =>
  ak h1 a2 fun y3 =>
  F.xak y3 h1 fun r6 r7 h5 =>
  (((r7 != 0))=true ->
  Q r7 h5) ∧
  (((r7 != 0))=false ->
  ((decide (p1<1))=true ->
  F.xbt.j2 Q p0 p1 a2 true h5) ∧
  ((decide (p1<1))=false ->
  F.xbt.j2 Q p0 p1 a2 (decide (p1 > 1099511627776)) h5))
theorem F.xbt_ok {p0:Option Addr}{p1:Int}{p2:ae}{h:H}{Q:Int->H->Prop}(H:F.xbt p0 p1 p2 h Q):Fn PP 27 ([(.pointer p0),(.int .i64 p1),(.agg p2.cells.toArray)]:List Value).toArray h fun r h'=>∃ r0,r=(.int .i64 r0)∧Q r0 h':=by
 unfold F.xbt at H;refine aV Tryz.func27 Tryz.ntmps27 rfl rfl fun w0=>(az [(0,(.pointer p0)),(1,(.int .i64 p1)),(2,(.agg p2.cells.toArray))] ⟨rfl,rfl,rfl,tv⟩ (sr (te (cb (cs:=p2.cells.toArray) rfl rfl H) ?_)));rintro _ h1 ⟨a2,rfl,H⟩;refine qa rfl (nt (aj (sr ?_)));obtain ⟨y3,k4,H⟩:=H;refine th (aQ ZB ZA rfl rfl) k4 (te (av Tryz.call56 rfl (F.xak_ok H)) ?_);rintro _ h5 ⟨r6,r7,rfl,H⟩;refine qm rfl (tq (bW rfl rfl) (tq (bW rfl rfl) (qa rfl (qa rfl (nt (sr (qm rfl (tq (ey rfl rfl) (nt ?_)))))))));refine am rfl (fun g8=>?_) (fun g8=>?_)
 ·replace H:=H.1 g8;refine sr (qm rfl (qa rfl (nt (al (aq ?_)))));exact an rfl rfl ⟨_,rfl,H⟩
 ·replace H:=H.2 g8;refine au (aa ?_);refine aG (fun L' h=>∃ (x0:Option Addr) (x1:Int) (x5:Addr),L'=[(0,(.pointer x0)),(1,(.int .i64 x1)),(5,(.pointer (some x5)))]∧F.xbt.j1 Q x0 x1 x5 h) ?_ ?_
  ·rintro L' h ⟨x0,x1,x5,rfl,H⟩;unfold F.xbt.j1 at H;refine sr (qm rfl ?_);obtain ⟨y9,k10,H⟩:=H;refine th (aQ ZB ZA rfl rfl) k10 (te (av Tryz.call57 rfl (F.xdj_ok H)) ?_);rintro _ h11 ⟨r12,rfl,H⟩;refine qa rfl (nt (aj (sr (qm rfl (tq (iG Tryz.runUnderlying107 rfl rfl) (nt ?_))))));refine am rfl (fun g13=>?_) (fun g13=>?_)
   ·replace H:=H.1 g13;refine sr (qa rfl (nt (al (aq ?_))));exact an rfl rfl ⟨_,rfl,H⟩
   ·replace H:=H.2 g13;refine au (aa (sr (qm rfl (qm rfl (te (av Tryz.call58 rfl (F.xeu_ok H)) ?_)))));rintro _ h14 ⟨r15,r16,rfl,H⟩;refine qm rfl (tq (bW rfl rfl) (tq (bW rfl rfl) (qa rfl (qa rfl (nt (aj (sr (qm rfl (tq (ey rfl rfl) (nt ?_))))))))));refine am rfl (fun g17=>?_) (fun g17=>?_)
    ·replace H:=H.1 g17;refine sr (qm rfl (qa rfl (nt (al (aq ?_)))));exact an rfl rfl ⟨_,rfl,H⟩
    ·replace H:=H.2 g17;refine au (aa (sr (qm rfl ?_)));obtain ⟨a18,e19,H⟩:=H;refine tq (bG rfl e19) (tq (ay (off:=0) ZU er rfl) (tq (ay (off:=0) Zr hC rfl) ?_));obtain ⟨y20,k21,H⟩:=H;refine th (aD ZC rfl) k21 (qm rfl (tq (cJ rfl rfl) (tq (bE rfl rfl) ?_)));obtain ⟨a22,e23,H⟩:=H;refine tq (bG rfl e23) (tq (ay (off:=0) ZU er rfl) (tq (ay (off:=0) Zr hC rfl) (te (aK (vs:=[(.int .i64 (IntKind.wrap .i64 (y20+(IntKind.wrap .i64 (r15-1)))))]) ZQ rfl rfl rfl rfl (de rfl) H) ?_)));rintro _ h24 ⟨rfl,H⟩;refine nt (sr (qm rfl ?_));obtain ⟨a25,e26,H⟩:=H;refine tq (bG rfl e26) (tq (ay (off:=0) ZU er rfl) (tq (ay (off:=1) Zr nz rfl) ?_));obtain ⟨y27,k28,H⟩:=H;refine th (aD ZC rfl) k28 (tq (cJ rfl rfl) ?_);obtain ⟨a29,e30,H⟩:=H;refine tq (bG rfl e30) (tq (ay (off:=0) ZU er rfl) (tq (ay (off:=1) Zr nz rfl) (te (aK (vs:=[(.int .i64 (IntKind.wrap .i64 (y27-1)))]) ZQ rfl rfl rfl rfl (de rfl) H) ?_)));rintro _ h31 ⟨rfl,H⟩;refine nt (sr (qa rfl (nt (al ?_))));exact an rfl rfl ⟨_,rfl,H⟩
  ·refine aG (fun L' h=>∃ (x0:Option Addr) (x1:Int) (x5:Addr) (x25:Bool),L'=[(0,(.pointer x0)),(1,(.int .i64 x1)),(5,(.pointer (some x5))),(25,(.bool x25))]∧F.xbt.j2 Q x0 x1 x5 x25 h) ?_ ?_
   ·rintro L' h ⟨x0,x1,x5,x25,rfl,H⟩;unfold F.xbt.j2 at H;refine am rfl (fun g32=>?_) (fun g32=>?_)
    ·replace H:=H.1 g32;refine sr (qa rfl (nt (al (aq ?_))));exact an rfl rfl ⟨_,rfl,H⟩
    ·replace H:=H.2 g32;refine au (aa ?_);exact ah [(0,(.pointer x0)),(1,(.int .i64 x1)),(5,(.pointer (some x5)))] ⟨rfl,rfl,rfl,tv⟩ ⟨_,_,_,rfl,H⟩
   ·refine ai (qm rfl (tq (bN rfl rfl) (qm rfl ?_)));refine aT (t:=22) rfl (fun g33=>?_) (fun g33=>?_)
    ·replace H:=H.1 g33;refine ts (ts (tq (aL rfl rfl) (nt ?_)));exact ah [(0,(.pointer p0)),(1,(.int .i64 p1)),(5,(.pointer (some a2))),(25,(.bool true))] ⟨rfl,rfl,rfl,rfl,tv⟩ ⟨_,_,_,_,rfl,H⟩
    ·replace H:=H.2 g33;refine qm rfl (tq (df rfl rfl) (tq (aH rfl rfl) (nt ?_)));exact ah [(0,(.pointer p0)),(1,(.int .i64 p1)),(5,(.pointer (some a2))),(25,(.bool (decide (p1 > 1099511627776))))] ⟨rfl,rfl,rfl,rfl,tv⟩ ⟨_,_,_,_,rfl,H⟩
def F.xej (p0:Option Addr) (p1:Int) (p2:ae) (h:H) (Q:Int->H->Prop):Prop:=
  new h p2.cells.toArray cH fun a2 h1 =>
  ak h1 a2 fun y3 =>
  ak h1 a2 fun y5 =>
  F.xda p0 y3 h1 fun r8 h7 =>
  Cells h7 a2 y5.cells ∧
  F.xbt r8 p1 y5 h7 fun r11 h10 =>
  Q r11 h10
theorem F.xej_ok {p0:Option Addr}{p1:Int}{p2:ae}{h:H}{Q:Int->H->Prop}(H:F.xej p0 p1 p2 h Q):Fn PP 25 ([(.pointer p0),(.int .i64 p1),(.agg p2.cells.toArray)]:List Value).toArray h fun r h'=>∃ r0,r=(.int .i64 r0)∧Q r0 h':=by
 unfold F.xej at H;refine aV Tryz.func25 Tryz.ntmps25 rfl rfl fun w0=>(az [(0,(.pointer p0)),(1,(.int .i64 p1)),(2,(.agg p2.cells.toArray))] ⟨rfl,rfl,rfl,tv⟩ (sr (te (cb (cs:=p2.cells.toArray) rfl rfl H) ?_)));rintro _ h1 ⟨a2,rfl,H⟩;refine qa rfl (nt (aj (bv mixed [0,0,3,0,0,31,63] (by kernel_rfl) (gq 0 1 rfl (aw rfl) ?_))));obtain ⟨y3,k4,H⟩:=H;refine gh 1 3 rfl (aQ ZB ZA rfl rfl) k4 (gq 3 11 rfl (aw rfl) ?_);obtain ⟨y5,k6,H⟩:=H;refine gh 4 27 rfl (aQ ZB ZA rfl rfl) k6 (g_e 2 31 [(4,fun h=>Cells h a2 y5.cells)] (by kernel_rfl) rfl (by kernel_rfl) (av Tryz.call46 rfl (F.xda_ok H)) rfl rfl ?_);rintro _ h7 ⟨r8,rfl,H⟩;obtain ⟨k9,H⟩:=H;refine ⟨And.intro k9 trivial,?_⟩;refine g_e 5 63 [] (by kernel_rfl) rfl (by kernel_rfl) (av Tryz.call27 rfl (F.xbt_ok H)) rfl rfl ?_;rintro _ h10 ⟨r11,rfl,H⟩;refine ⟨trivial,?_⟩;refine gq 6 127 rfl (bp rfl) (g_d (by kernel_rfl) (aa (al ?_)));exact an rfl rfl ⟨_,rfl,H⟩
def F.xao.j3 (Q:Int->H->Prop) (x0:Option Addr) (x5:Int) (x10:Sl) (h:H):Prop:=
  nn x0 fun a45 =>
  stH h (a45.add 0) [x10.enc] fun h47 =>
  Q (IntKind.wrap .i64 (x5-(x10.len:Int))) h47
def F.xao.j4 (Q:Int->H->Prop) (x0:Option Addr) (x5:Int) (x10:Sl) (x68:Bool) (h:H):Prop:=
  (x68=true ->
  F.xao.j3 Q x0 x5 (⟨none,0,0⟩:Sl) h) ∧
  (x68=false ->
  F.xao.j3 Q x0 x5 x10 h)
def F.xao.l2 (Q:Int->H->Prop):Nat->(Option Addr)->Int->Sl->Sl->Sl->Int->Int->H->Prop
  | 0,_,_,_,_,_,_,_,_=>False
  | q2+1,x0,x5,x6,x10,x44,x45,x46,h =>
    ((decide (x46<x45))=true ->
    bD x44 x46 6 fun a27 =>
    cr h a27 fun y29 =>
    new h (((⟨0,(⟨0,0,0,0⟩:ag),false⟩:aM):aM).cells.toArray) mT fun a32 h31 =>
    stH h31 a32 y29.cells fun h33 =>
    bD x6 x46 1 fun a34 =>
    ldB h33 a34 fun y36 =>
    (y36=true ->
    cr h33 a32 fun y39 =>
    fv h33 ((y39.cells).toArray) mT 1 fun s42 h41 =>
    dA PP (Builtin.append_ #[162,162] 162 #[x10.enc,s42.enc]) h41 fun s44 h43 =>
    (F.xao.l2 Q q2) x0 x5 x6 s44 x44 x45 (IntKind.wrap .i64 (x46+1)) h43) ∧
    (y36=false ->
    (F.xao.l2 Q q2) x0 x5 x6 x10 x44 x45 (IntKind.wrap .i64 (x46+1)) h33)) ∧
    ((decide (x46<x45))=false ->
    ((((x10.len:Int) == 1))=true ->
    bD x10 0 6 fun a50 =>
    ldB h (a50.add 5) fun y52 =>
    F.xao.j4 Q x0 x5 x10 y52 h) ∧
    ((((x10.len:Int) == 1))=false ->
    F.xao.j4 Q x0 x5 x10 false h))
def F.xao.l1 (Q:Int->H->Prop):Nat->(Option Addr)->Int->Sl->Sl->Int->Int->H->Prop
  | 0,_,_,_,_,_,_,_=>False
  | q1+1,x0,x5,x6,x26,x27,x28,h =>
    ((decide (x28<x27))=true ->
    bD x26 x28 1 fun a12 =>
    ldI .i64 h a12 fun y14 =>
    F.xcp x0 y14 h fun r17 h16 =>
    ((decide (r17>=0))=true ->
    bD x6 r17 1 fun a19 =>
    stH h16 a19 [(.bool true)] fun h21 =>
    (F.xao.l1 Q q1) x0 x5 x6 x26 x27 (IntKind.wrap .i64 (x28+1)) h21) ∧
    ((decide (r17>=0))=false ->
    (F.xao.l1 Q q1) x0 x5 x6 x26 x27 (IntKind.wrap .i64 (x28+1)) h16)) ∧
    ((decide (x28<x27))=false ->
    nn x0 fun a22 =>
    ldL h (a22.add 0) fun y24 =>
    ∃ m,F.xao.l2 Q m x0 x5 x6 (⟨none,0,0⟩:Sl) y24 (y24.len:Int) 0 h)
def F.xao (p0:Option Addr) (p1:Sl) (h:H) (Q:Int->H->Prop):Prop:=
  nn p0 fun a1 =>
  ldL h (a1.add 0) fun y3 =>
  ((((y3.len:Int) == 0))=true ->
  Q 0 h) ∧
  ((((y3.len:Int) == 0))=false ->
  dA PP (Instr.makeSlice 165 (.int .i64 (y3.len:Int)) (.int .i64 (y3.len:Int))) h fun s7 h6 =>
  bD s7 (IntKind.wrap .i64 ((y3.len:Int)-1)) 1 fun a8 =>
  stH h6 a8 [(.bool true)] fun h10 =>
  ∃ m,F.xao.l1 Q m p0 (y3.len:Int) s7 p1 (p1.len:Int) 0 h10)
theorem F.xao_ok {p0:Option Addr}{p1:Sl}{h:H}{Q:Int->H->Prop}(H:F.xao p0 p1 h Q):Fn PP 60 ([(.pointer p0),p1.enc]:List Value).toArray h fun r h'=>∃ r0,r=(.int .i64 r0)∧Q r0 h':=by
 unfold F.xao at H;refine aV Tryz.func60 Tryz.ntmps60 rfl rfl fun w0=>(az [(0,(.pointer p0)),(1,p1.enc)] ⟨rfl,rfl,tv⟩ (sr (qa rfl (nt (sr (qm rfl ?_))))));obtain ⟨a1,e2,H⟩:=H;refine tq (bG rfl e2) (tq (ay (off:=0) Zp dN rfl) ?_);obtain ⟨y3,k4,H⟩:=H;refine th (aD Zu rfl) k4 (tq (bB (ts:=#[]) Zc (o:=y3.ptr) (n:=y3.len) (cap:=y3.cap) rfl) (qa rfl (nt (aj (sr (qm rfl (tq (ct rfl rfl) (nt ?_))))))));refine am rfl (fun g5=>?_) (fun g5=>?_)
 ·replace H:=H.1 g5;refine sr (qa rfl (nt (al (aq ?_))));exact an rfl rfl ⟨_,rfl,H⟩
 ·replace H:=H.2 g5;refine au (aa (sr (qm rfl (te (mD rfl rfl H) ?_))));rintro _ h6 ⟨s7,rfl,H⟩;refine qa rfl (nt (sr (qm rfl (qm rfl (tq (cJ rfl rfl) ?_)))));obtain ⟨a8,e9,H⟩:=H;refine tq (bf (s:=s7) ZBS Z2 rfl rfl e9) (te (aK (vs:=[(.bool true)]) Z2 rfl rfl rfl rfl (de rfl) H) ?_);rintro _ h10 ⟨rfl,H⟩;refine nt (aj (sr (qm rfl (tq (bB (ts:=#[]) ZY (o:=p1.ptr) (n:=p1.len) (cap:=p1.cap) rfl) (qm rfl (nt (aB ?_)))))));obtain ⟨m55,H⟩:=H;refine az [(0,(.pointer p0)),(5,(.int .i64 (y3.len:Int))),(6,s7.enc),(26,p1.enc),(27,(.int .i64 (p1.len:Int))),(28,(.int .i64 0))] ⟨rfl,rfl,rfl,rfl,rfl,rfl,tv⟩ ?_;refine aY (fun m L' h=>∃ (x0:Option Addr) (x5:Int) (x6:Sl) (x26:Sl) (x27:Int) (x28:Int),L'=[(0,(.pointer x0)),(5,(.int .i64 x5)),(6,x6.enc),(26,x26.enc),(27,(.int .i64 x27)),(28,(.int .i64 x28))]∧F.xao.l1 Q m x0 x5 x6 x26 x27 x28 h) ?_ ?_ m55 ⟨_,_,_,_,_,_,rfl,H⟩
  ·rintro L' h ⟨_,_,_,_,_,_,_,H⟩;exact H
  ·rintro q1 L' h ⟨x0,x5,x6,x26,x27,x28,rfl,H⟩;unfold F.xao.l1 at H;refine sr (tq (bN rfl rfl) (nt (aj ?_)));refine am rfl (fun g11=>?_) (fun g11=>?_)
   ·replace H:=H.1 g11;refine au (aa (aj (aB (sr ?_))));obtain ⟨a12,e13,H⟩:=H;refine tq (bf (s:=x26) ZY ZQ rfl rfl e13) ?_;obtain ⟨y14,k15,H⟩:=H;refine th (aD ZC rfl) k15 (qa rfl (nt (sr (qm rfl (qm rfl (te (av Tryz.call100 rfl (F.xcp_ok H)) ?_))))));rintro _ h16 ⟨r17,rfl,H⟩;refine qa rfl (nt (sr (qm rfl (tq (jT rfl rfl) (nt ?_)))));refine am rfl (fun g18=>?_) (fun g18=>?_)
    ·replace H:=H.1 g18;refine ai (qm rfl (qm rfl ?_));obtain ⟨a19,e20,H⟩:=H;refine tq (bf (s:=x6) ZBS Z2 rfl rfl e20) (te (aK (vs:=[(.bool true)]) Z2 rfl rfl rfl rfl (de rfl) H) ?_);rintro _ h21 ⟨rfl,H⟩;refine bo (aI (aa (ai (tq (bE rfl rfl) (qm rfl (nt ?_))))));exact ah [(0,(.pointer x0)),(5,(.int .i64 x5)),(6,x6.enc),(26,x26.enc),(27,(.int .i64 x27)),(28,(.int .i64 (IntKind.wrap .i64 (x28+1))))] ⟨rfl,rfl,rfl,rfl,rfl,rfl,tv⟩ ⟨_,_,_,_,_,_,rfl,H⟩
    ·replace H:=H.2 g18;refine au (aI (aa (ai (tq (bE rfl rfl) (qm rfl (nt ?_))))));exact ah [(0,(.pointer x0)),(5,(.int .i64 x5)),(6,x6.enc),(26,x26.enc),(27,(.int .i64 x27)),(28,(.int .i64 (IntKind.wrap .i64 (x28+1))))] ⟨rfl,rfl,rfl,rfl,rfl,rfl,tv⟩ ⟨_,_,_,_,_,_,rfl,H⟩
   ·replace H:=H.2 g11;refine bC (aF (aF (bV (aa (sr (qa rfl (nt (aj (sr (qm rfl ?_))))))))));obtain ⟨a22,e23,H⟩:=H;refine tq (bG rfl e23) (tq (ay (off:=0) Zp dN rfl) ?_);obtain ⟨y24,k25,H⟩:=H;refine th (aD Zu rfl) k25 (tq (bB (ts:=#[]) Zc (o:=y24.ptr) (n:=y24.len) (cap:=y24.cap) rfl) (qm rfl (nt (aB ?_))));obtain ⟨m54,H⟩:=H;refine az [(0,(.pointer x0)),(5,(.int .i64 x5)),(6,x6.enc),(10,(⟨none,0,0⟩:Sl).enc),(44,y24.enc),(45,(.int .i64 (y24.len:Int))),(46,(.int .i64 0))] ⟨rfl,rfl,rfl,rfl,rfl,rfl,rfl,tv⟩ ?_;refine aY (fun m L' h=>∃ (x0:Option Addr) (x5:Int) (x6:Sl) (x10:Sl) (x44:Sl) (x45:Int) (x46:Int),L'=[(0,(.pointer x0)),(5,(.int .i64 x5)),(6,x6.enc),(10,x10.enc),(44,x44.enc),(45,(.int .i64 x45)),(46,(.int .i64 x46))]∧F.xao.l2 Q m x0 x5 x6 x10 x44 x45 x46 h) ?_ ?_ m54 ⟨_,_,_,_,_,_,_,rfl,H⟩
    ·rintro L' h ⟨_,_,_,_,_,_,_,_,H⟩;exact H
    ·rintro q2 L' h ⟨x0,x5,x6,x10,x44,x45,x46,rfl,H⟩;unfold F.xao.l2 at H;refine sr (tq (bN rfl rfl) (nt (aj ?_)));refine am rfl (fun g26=>?_) (fun g26=>?_)
     ·replace H:=H.1 g26;refine au (aa (aj (aB (sr (qm rfl ?_)))));obtain ⟨a27,e28,H⟩:=H;refine tq (bf (s:=x44) Zc Zh rfl rfl e28) ?_;obtain ⟨y29,k30,H⟩:=H;refine th (aQ ZBN Zh rfl rfl) k30 (te (bJ (cs:=((⟨0,(⟨0,0,0,0⟩:ag),false⟩:aM):aM).cells.toArray) Tryz.zeroValue152 rfl H) ?_);rintro _ h31 ⟨a32,rfl,H⟩;refine qa rfl (te (aK (vs:=y29.cells) Zh rfl rfl ax rfl (by intro v hv;exact cG _ v hv) H) ?_);rintro _ h33 ⟨rfl,H⟩;refine nt (sr (qm rfl (qm rfl ?_)));obtain ⟨a34,e35,H⟩:=H;refine tq (bf (s:=x6) ZBS Z2 rfl rfl e35) ?_;obtain ⟨y36,k37,H⟩:=H;refine th (aD Zj rfl) k37 (nt ?_);refine am rfl (fun g38=>?_) (fun g38=>?_)
      ·replace H:=H.1 g38;refine ai (qm rfl ?_);obtain ⟨y39,k40,H⟩:=H;refine th (aQ ZBN Zh rfl rfl) k40 (te (co (cs:=(y39.cells).toArray) rfl rfl (qq y39) H) ?_);rintro _ h41 ⟨s42,rfl,H⟩;refine te (dV rfl H) ?_;rintro _ h43 ⟨s44,rfl,H⟩;refine qa rfl (bo (aI (aa (ai (tq (bE rfl rfl) (qm rfl (nt ?_)))))));exact ah [(0,(.pointer x0)),(5,(.int .i64 x5)),(6,x6.enc),(10,s44.enc),(44,x44.enc),(45,(.int .i64 x45)),(46,(.int .i64 (IntKind.wrap .i64 (x46+1))))] ⟨rfl,rfl,rfl,rfl,rfl,rfl,rfl,tv⟩ ⟨_,_,_,_,_,_,_,rfl,H⟩
      ·replace H:=H.2 g38;refine au (aI (aa (ai (tq (bE rfl rfl) (qm rfl (nt ?_))))));exact ah [(0,(.pointer x0)),(5,(.int .i64 x5)),(6,x6.enc),(10,x10.enc),(44,x44.enc),(45,(.int .i64 x45)),(46,(.int .i64 (IntKind.wrap .i64 (x46+1))))] ⟨rfl,rfl,rfl,rfl,rfl,rfl,rfl,tv⟩ ⟨_,_,_,_,_,_,_,rfl,H⟩
     ·replace H:=H.2 g26;refine bC (aF (aF (bV (aa ?_))));refine aG (fun L' h=>∃ (x0:Option Addr) (x5:Int) (x10:Sl),L'=[(0,(.pointer x0)),(5,(.int .i64 x5)),(10,x10.enc)]∧F.xao.j3 Q x0 x5 x10 h) ?_ ?_
      ·rintro L' h ⟨x0,x5,x10,rfl,H⟩;unfold F.xao.j3 at H;refine sr (qm rfl (qm rfl ?_));obtain ⟨a45,e46,H⟩:=H;refine tq (bG rfl e46) (tq (ay (off:=0) Zp dN rfl) (te (aK (vs:=[x10.enc]) Tryz.sizeOf162 rfl rfl rfl rfl (de rfl) H) ?_));rintro _ h47 ⟨rfl,H⟩;refine nt (sr (qm rfl (qm rfl (tq (bB (ts:=#[]) Zc (o:=x10.ptr) (n:=x10.len) (cap:=x10.cap) rfl) (tq (cJ rfl rfl) (qa rfl (nt (al ?_))))))));exact an rfl rfl ⟨_,rfl,H⟩
      ·refine aG (fun L' h=>∃ (x0:Option Addr) (x5:Int) (x10:Sl) (x68:Bool),L'=[(0,(.pointer x0)),(5,(.int .i64 x5)),(10,x10.enc),(68,(.bool x68))]∧F.xao.j4 Q x0 x5 x10 x68 h) ?_ ?_
       ·rintro L' h ⟨x0,x5,x10,x68,rfl,H⟩;unfold F.xao.j4 at H;refine am rfl (fun g48=>?_) (fun g48=>?_)
        ·replace H:=H.1 g48;refine ai (qa rfl (nt ?_));exact ah [(0,(.pointer x0)),(5,(.int .i64 x5)),(10,(⟨none,0,0⟩:Sl).enc)] ⟨rfl,rfl,rfl,tv⟩ ⟨_,_,_,rfl,H⟩
        ·replace H:=H.2 g48;refine au (aa ?_);exact ah [(0,(.pointer x0)),(5,(.int .i64 x5)),(10,x10.enc)] ⟨rfl,rfl,rfl,tv⟩ ⟨_,_,_,rfl,H⟩
       ·refine ai (qm rfl (tq (bB (ts:=#[]) Zc (o:=x10.ptr) (n:=x10.len) (cap:=x10.cap) rfl) (tq (ct rfl rfl) (qm rfl ?_))));refine aT (t:=63) rfl (fun g49=>?_) (fun g49=>?_)
        ·replace H:=H.1 g49;refine qm rfl ?_;obtain ⟨a50,e51,H⟩:=H;refine tq (bf (s:=x10) Zc Zh rfl rfl e51) (tq (ay (off:=5) Z8 qC rfl) ?_);obtain ⟨y52,k53,H⟩:=H;refine th (aD Zj rfl) k53 (tq (aL rfl rfl) (nt ?_));exact ah [(0,(.pointer x0)),(5,(.int .i64 x5)),(10,x10.enc),(68,(.bool y52))] ⟨rfl,rfl,rfl,rfl,tv⟩ ⟨_,_,_,_,rfl,H⟩
        ·replace H:=H.2 g49;refine ts (ts (ts (ts (tq (aH rfl rfl) (nt ?_)))));exact ah [(0,(.pointer x0)),(5,(.int .i64 x5)),(10,x10.enc),(68,(.bool false))] ⟨rfl,rfl,rfl,rfl,tv⟩ ⟨_,_,_,_,rfl,H⟩
def F.xdx (p0:Option Addr) (h:H) (Q:Int->H->Prop):Prop:=
  nn p0 fun a1 =>
  ldL h (a1.add 0) fun y3 =>
  Q (y3.len:Int) h
theorem F.xdx_ok {p0:Option Addr}{h:H}{Q:Int->H->Prop}(H:F.xdx p0 h Q):Fn PP 61 ([(.pointer p0)]:List Value).toArray h fun r h'=>∃ r0,r=(.int .i64 r0)∧Q r0 h':=by
 unfold F.xdx at H;refine aV Tryz.func61 Tryz.ntmps61 rfl rfl fun w0=>(az [(0,(.pointer p0))] ⟨rfl,tv⟩ (sr (qa rfl (nt (sr (qm rfl ?_))))));obtain ⟨a1,e2,H⟩:=H;refine tq (bG rfl e2) (tq (ay (off:=0) Zp dN rfl) ?_);obtain ⟨y3,k4,H⟩:=H;refine th (aD Zu rfl) k4 (tq (bB (ts:=#[]) Zc (o:=y3.ptr) (n:=y3.len) (cap:=y3.cap) rfl) (qa rfl (nt (al ?_))));exact an rfl rfl ⟨_,rfl,H⟩
def F.xbf.j2 (Q:(Option Addr)->Bool->H->Prop) (C1:(Option Addr)->(Option Addr)->Int->Int->Int->H->Prop) (x0:Option Addr) (x4:Option Addr) (x8:Int) (x10:Int) (x11:Int) (h:H):Prop:=
  (x10:Int)≠0 ∧
  C1 x0 x4 x8 x10 (Int.tmod (IntKind.wrap .i64 (x11+1)) x10) h
def F.xbf.l1 (Q:(Option Addr)->Bool->H->Prop):Nat->(Option Addr)->(Option Addr)->Int->Int->Int->H->Prop
  | 0,_,_,_,_,_,_=>False
  | q1+1,x0,x4,x8,x10,x11,h =>
    nn x0 fun a61 =>
    ldL h (a61.add 0) fun y63 =>
    bD y63 x11 3 fun a65 =>
    ldI .u8 h (a65.add 0) fun y67 =>
    (((y67 != 0))=true ->
    nn x0 fun a71 =>
    ldL h (a71.add 0) fun y73 =>
    nn x0 fun a75 =>
    ldL h (a75.add 0) fun y77 =>
    bD y77 x11 3 fun a79 =>
    ldS h (a79.add 1) fun y81 =>
    F.xdz y73 y81 h fun r84 h83 =>
    (x10:Int)≠0 ∧
    (x10:Int)≠0 ∧
    ((decide ((Int.tmod (IntKind.wrap .i64 ((IntKind.wrap .i64 (x11-r84))+x10)) x10)>=(Int.tmod (IntKind.wrap .i64 ((IntKind.wrap .i64 (x11-x8))+x10)) x10)))=true ->
    nn x0 fun a88 =>
    ldL h83 (a88.add 0) fun y90 =>
    nn x0 fun a92 =>
    ldL h83 (a92.add 0) fun y94 =>
    bD y94 x11 3 fun a96 =>
    dj h83 a96 fun y98 =>
    bD y90 x8 3 fun a100 =>
    stH h83 a100 y98.cells fun h102 =>
    F.xbf.j2 Q (F.xbf.l1 Q q1) x0 x4 x11 x10 x11 h102) ∧
    ((decide ((Int.tmod (IntKind.wrap .i64 ((IntKind.wrap .i64 (x11-r84))+x10)) x10)>=(Int.tmod (IntKind.wrap .i64 ((IntKind.wrap .i64 (x11-x8))+x10)) x10)))=false ->
    F.xbf.j2 Q (F.xbf.l1 Q q1) x0 x4 x8 x10 x11 h83)) ∧
    (((y67 != 0))=false ->
    nn x0 fun a103 =>
    ldL h (a103.add 0) fun y105 =>
    bD y105 x8 3 fun a107 =>
    stH h a107 ((⟨0,(⟨#[]⟩:ByteArray),none⟩:aE).cells) fun h109 =>
    Q x4 true h109)
def F.xbf (p0:Option Addr) (p1:ByteArray) (h:H) (Q:(Option Addr)->Bool->H->Prop):Prop:=
  F.xag p0 4 h fun r2 h1 =>
  nn p0 fun a3 =>
  ldL h1 (a3.add 1) fun y5 =>
  F.xaj y5 p1 h1 fun r8 r9 h7 =>
  (r9=true ->
  nn p0 fun a11 =>
  ldL h7 (a11.add 1) fun y13 =>
  bD y13 r8 3 fun a15 =>
  ldP h7 (a15.add 2) fun y17 =>
  nn p0 fun a19 =>
  ldL h7 (a19.add 1) fun y21 =>
  bD y21 r8 3 fun a23 =>
  stH h7 a23 ((⟨2,(⟨#[]⟩:ByteArray),none⟩:aE).cells) fun h25 =>
  nn p0 fun a26 =>
  ldI .i64 h25 (a26.add 3) fun y28 =>
  nn p0 fun a30 =>
  stH h25 (a30.add 3) [(.int .i64 (IntKind.wrap .i64 (y28-1)))] fun h32 =>
  Q y17 true h32) ∧
  (r9=false ->
  nn p0 fun a33 =>
  ldL h7 (a33.add 0) fun y35 =>
  F.xaj y35 p1 h7 fun r38 r39 h37 =>
  ((!r39)=true ->
  Q none false h37) ∧
  ((!r39)=false ->
  nn p0 fun a41 =>
  ldL h37 (a41.add 0) fun y43 =>
  bD y43 r38 3 fun a45 =>
  ldP h37 (a45.add 2) fun y47 =>
  nn p0 fun a49 =>
  ldI .i64 h37 (a49.add 3) fun y51 =>
  nn p0 fun a53 =>
  stH h37 (a53.add 3) [(.int .i64 (IntKind.wrap .i64 (y51-1)))] fun h55 =>
  nn p0 fun a56 =>
  ldL h55 (a56.add 0) fun y58 =>
  ((y58.len:Int):Int)≠0 ∧
  ∃ m,F.xbf.l1 Q m p0 y47 r38 (y58.len:Int) (Int.tmod (IntKind.wrap .i64 (r38+1)) (y58.len:Int)) h55))
theorem F.xbf_ok {p0:Option Addr}{p1:ByteArray}{h:H}{Q:(Option Addr)->Bool->H->Prop}(H:F.xbf p0 p1 h Q):Fn PP 62 ([(.pointer p0),(.string p1)]:List Value).toArray h fun r h'=>∃ r0 r1,r=.tuple #[(.pointer r0),(.bool r1)]∧Q r0 r1 h':=by
 unfold F.xbf at H;refine aV Tryz.func62 Tryz.ntmps62 rfl rfl fun w0=>(az [(0,(.pointer p0)),(1,(.string p1))] ⟨rfl,rfl,tv⟩ (sr (qa rfl (qa rfl (nt (sr (qm rfl (te (av Tryz.call101 rfl (F.xag_ok H)) ?_))))))));rintro _ h1 ⟨r2,rfl,H⟩;refine nt (aj (sr (qm rfl ?_)));obtain ⟨a3,e4,H⟩:=H;refine tq (bG rfl e4) (tq (ay (off:=1) ZF eT rfl) ?_);obtain ⟨y5,k6,H⟩:=H;refine th (aD ZN rfl) k6 (qm rfl (te (av Tryz.call102 rfl (F.xaj_ok H)) ?_));rintro _ h7 ⟨r8,r9,rfl,H⟩;refine qm rfl (tq (bW rfl rfl) (tq (bW rfl rfl) (qa rfl (qa rfl (nt (sr (qm rfl (nt ?_))))))));refine am rfl (fun g10=>?_) (fun g10=>?_)
 ·replace H:=H.1 g10;refine sr (qm rfl ?_);obtain ⟨a11,e12,H⟩:=H;refine tq (bG rfl e12) (tq (ay (off:=1) ZF eT rfl) ?_);obtain ⟨y13,k14,H⟩:=H;refine th (aD ZN rfl) k14 (qm rfl ?_);obtain ⟨a15,e16,H⟩:=H;refine tq (bf (s:=y13) ZR ZT rfl rfl e16) (tq (ay (off:=2) Zx lE rfl) ?_);obtain ⟨y17,k18,H⟩:=H;refine th (aD Tryz.isAgg107 rfl) k18 (qa rfl (nt (sr (qm rfl ?_))));obtain ⟨a19,e20,H⟩:=H;refine tq (bG rfl e20) (tq (ay (off:=1) ZF eT rfl) ?_);obtain ⟨y21,k22,H⟩:=H;refine th (aD ZN rfl) k22 (qm rfl (tq (bO rfl (uv 2)) ?_));obtain ⟨a23,e24,H⟩:=H;refine tq (bf (s:=y21) ZR ZT rfl rfl e24) (te (aK (vs:=(⟨2,(⟨#[]⟩:ByteArray),none⟩:aE).cells) ZT rfl rfl ax rfl (by intro v hv;exact bM _ v hv) H) ?_);rintro _ h25 ⟨rfl,H⟩;refine nt (sr (qm rfl ?_));obtain ⟨a26,e27,H⟩:=H;refine tq (bG rfl e27) (tq (ay (off:=3) ZF iN rfl) ?_);obtain ⟨y28,k29,H⟩:=H;refine th (aD ZC rfl) k29 (tq (cJ rfl rfl) ?_);obtain ⟨a30,e31,H⟩:=H;refine tq (bG rfl e31) (tq (ay (off:=3) ZF iN rfl) (te (aK (vs:=[(.int .i64 (IntKind.wrap .i64 (y28-1)))]) ZQ rfl rfl rfl rfl (de rfl) H) ?_));rintro _ h32 ⟨rfl,H⟩;refine nt (sr (qm rfl (qa rfl (qa rfl (nt (al (aq ?_)))))));exact cw rfl rfl rfl ⟨_,_,rfl,H⟩
 ·replace H:=H.2 g10;refine au (aa (sr (qm rfl ?_)));obtain ⟨a33,e34,H⟩:=H;refine tq (bG rfl e34) (tq (ay (off:=0) ZF dt rfl) ?_);obtain ⟨y35,k36,H⟩:=H;refine th (aD ZN rfl) k36 (qm rfl (te (av Tryz.call102 rfl (F.xaj_ok H)) ?_));rintro _ h37 ⟨r38,r39,rfl,H⟩;refine qm rfl (tq (bW rfl rfl) (tq (bW rfl rfl) (qa rfl (qa rfl (nt (aj (sr (qm rfl (tq (eI rfl) (nt ?_))))))))));refine am rfl (fun g40=>?_) (fun g40=>?_)
  ·replace H:=H.1 g40;refine sr (qm rfl (qa rfl (qa rfl (nt (al (aq ?_))))));exact cw rfl rfl rfl ⟨_,_,rfl,H⟩
  ·replace H:=H.2 g40;refine au (aa (sr (qm rfl ?_)));obtain ⟨a41,e42,H⟩:=H;refine tq (bG rfl e42) (tq (ay (off:=0) ZF dt rfl) ?_);obtain ⟨y43,k44,H⟩:=H;refine th (aD ZN rfl) k44 (qm rfl ?_);obtain ⟨a45,e46,H⟩:=H;refine tq (bf (s:=y43) ZR ZT rfl rfl e46) (tq (ay (off:=2) Zx lE rfl) ?_);obtain ⟨y47,k48,H⟩:=H;refine th (aD Tryz.isAgg107 rfl) k48 (qa rfl (nt (sr (qm rfl ?_))));obtain ⟨a49,e50,H⟩:=H;refine tq (bG rfl e50) (tq (ay (off:=3) ZF iN rfl) ?_);obtain ⟨y51,k52,H⟩:=H;refine th (aD ZC rfl) k52 (tq (cJ rfl rfl) ?_);obtain ⟨a53,e54,H⟩:=H;refine tq (bG rfl e54) (tq (ay (off:=3) ZF iN rfl) (te (aK (vs:=[(.int .i64 (IntKind.wrap .i64 (y51-1)))]) ZQ rfl rfl rfl rfl (de rfl) H) ?_));rintro _ h55 ⟨rfl,H⟩;refine nt (sr (qm rfl ?_));obtain ⟨a56,e57,H⟩:=H;refine tq (bG rfl e57) (tq (ay (off:=0) ZF dt rfl) ?_);obtain ⟨y58,k59,H⟩:=H;refine th (aD ZN rfl) k59 (tq (bB (ts:=#[]) ZR (o:=y58.ptr) (n:=y58.len) (cap:=y58.cap) rfl) (qa rfl (nt (aj (sr (qm rfl (tq (bE rfl rfl) (qm rfl ?_))))))));obtain ⟨e60,H⟩:=H;refine tq (pz rfl rfl e60) (qa rfl (nt (aB ?_)));obtain ⟨m110,H⟩:=H;refine az [(0,(.pointer p0)),(4,(.pointer y47)),(8,(.int .i64 r38)),(10,(.int .i64 (y58.len:Int))),(11,(.int .i64 (Int.tmod (IntKind.wrap .i64 (r38+1)) (y58.len:Int))))] ⟨rfl,rfl,rfl,rfl,rfl,tv⟩ ?_;refine aY (fun m L' h=>∃ (x0:Option Addr) (x4:Option Addr) (x8:Int) (x10:Int) (x11:Int),L'=[(0,(.pointer x0)),(4,(.pointer x4)),(8,(.int .i64 x8)),(10,(.int .i64 x10)),(11,(.int .i64 x11))]∧F.xbf.l1 Q m x0 x4 x8 x10 x11 h) ?_ ?_ m110 ⟨_,_,_,_,_,rfl,H⟩
   ·rintro L' h ⟨_,_,_,_,_,_,H⟩;exact H
   ·rintro q1 L' h ⟨x0,x4,x8,x10,x11,rfl,H⟩;unfold F.xbf.l1 at H;refine aj (sr (qm rfl ?_));obtain ⟨a61,e62,H⟩:=H;refine tq (bG rfl e62) (tq (ay (off:=0) ZF dt rfl) ?_);obtain ⟨y63,k64,H⟩:=H;refine th (aD ZN rfl) k64 (qm rfl ?_);obtain ⟨a65,e66,H⟩:=H;refine tq (bf (s:=y63) ZR ZT rfl rfl e66) (tq (ay (off:=0) Zx lD rfl) ?_);obtain ⟨y67,k68,H⟩:=H;refine th (aD Tryz.isAgg5 rfl) k68 (tq (ey rfl rfl) (nt ?_));refine am rfl (fun g69=>?_) (fun g69=>?_)
    ·replace H:=H.1 g69;refine au (aa ?_);refine aG (fun L' h=>∃ (x0:Option Addr) (x4:Option Addr) (x8:Int) (x10:Int) (x11:Int),L'=[(0,(.pointer x0)),(4,(.pointer x4)),(8,(.int .i64 x8)),(10,(.int .i64 x10)),(11,(.int .i64 x11))]∧F.xbf.j2 Q (F.xbf.l1 Q q1) x0 x4 x8 x10 x11 h) ?_ ?_
     ·rintro L' h ⟨x0,x4,x8,x10,x11,rfl,H⟩;unfold F.xbf.j2 at H;refine ai (qm rfl (tq (bE rfl rfl) (qm rfl ?_)));obtain ⟨e70,H⟩:=H;refine tq (pz rfl rfl e70) (qa rfl (nt ?_));exact ah [(0,(.pointer x0)),(4,(.pointer x4)),(8,(.int .i64 x8)),(10,(.int .i64 x10)),(11,(.int .i64 (Int.tmod (IntKind.wrap .i64 (x11+1)) x10)))] ⟨rfl,rfl,rfl,rfl,rfl,tv⟩ ⟨_,_,_,_,_,rfl,H⟩
     ·refine aB (aj (bv mixed [0,1,3,7,0,16,48,112,0,496,1008,2032,4095,8191] (by kernel_rfl) (gq 0 1 rfl (aw rfl) ?_)));obtain ⟨a71,e72,H⟩:=H;refine gq 1 3 rfl (bG rfl e72) (gq 2 7 rfl (ay (off:=0) ZF dt rfl) ?_);obtain ⟨y73,k74,H⟩:=H;refine gh 3 15 rfl (aD ZN rfl) k74 (gq 4 31 rfl (aw rfl) ?_);obtain ⟨a75,e76,H⟩:=H;refine gq 5 63 rfl (bG rfl e76) (gq 6 127 rfl (ay (off:=0) ZF dt rfl) ?_);obtain ⟨y77,k78,H⟩:=H;refine gh 7 255 rfl (aD ZN rfl) k78 (gq 8 511 rfl (aw rfl) ?_);obtain ⟨a79,e80,H⟩:=H;refine gq 9 1023 rfl (bf (s:=y77) ZR ZT rfl rfl e80) (gq 10 2047 rfl (ay (off:=1) Zx nv rfl) ?_);obtain ⟨y81,k82,H⟩:=H;refine gh 11 4095 rfl (aD ZP rfl) k82 (g_e 12 8191 [] (by kernel_rfl) rfl (by kernel_rfl) (av Tryz.call103 rfl (F.xdz_ok H)) rfl rfl ?_);rintro _ h83 ⟨r84,rfl,H⟩;refine ⟨trivial,?_⟩;refine gq 13 16383 rfl (bp rfl) (g_d (by kernel_rfl) (aa (aj (bv mixed [0,0,3,0,15,0,63,0,0,384,0,1920,0,8064,16383] (by kernel_rfl) (gq 0 1 rfl (aw rfl) (gq 1 3 rfl (aw rfl) (gq 2 7 rfl (cJ rfl rfl) (gq 3 15 rfl (aw rfl) (gq 4 31 rfl (bE rfl rfl) (gq 5 63 rfl (aw rfl) ?_))))))))));obtain ⟨e85,H⟩:=H;refine gq 6 127 rfl (pz rfl rfl e85) (gq 7 255 rfl (aw rfl) (gq 8 511 rfl (aw rfl) (gq 9 1023 rfl (cJ rfl rfl) (gq 10 2047 rfl (aw rfl) (gq 11 4095 rfl (bE rfl rfl) (gq 12 8191 rfl (aw rfl) ?_))))));obtain ⟨e86,H⟩:=H;refine gq 13 16383 rfl (pz rfl rfl e86) (gq 14 32767 rfl (jT rfl rfl) (g_d (by kernel_rfl) (aa ?_)));refine am rfl (fun g87=>?_) (fun g87=>?_)
      ·replace H:=H.1 g87;refine bv mixed [0,1,3,7,0,0,32,96,224,0,992,2016,0,4095,12287,32767] (by kernel_rfl) (gq 0 1 rfl (aw rfl) ?_);obtain ⟨a88,e89,H⟩:=H;refine gq 1 3 rfl (bG rfl e89) (gq 2 7 rfl (ay (off:=0) ZF dt rfl) ?_);obtain ⟨y90,k91,H⟩:=H;refine gh 3 15 rfl (aD ZN rfl) k91 (gq 4 31 rfl (aw rfl) (gq 5 63 rfl (aw rfl) ?_));obtain ⟨a92,e93,H⟩:=H;refine gq 6 127 rfl (bG rfl e93) (gq 7 255 rfl (ay (off:=0) ZF dt rfl) ?_);obtain ⟨y94,k95,H⟩:=H;refine gh 8 511 rfl (aD ZN rfl) k95 (gq 9 1023 rfl (aw rfl) ?_);obtain ⟨a96,e97,H⟩:=H;refine gq 10 2047 rfl (bf (s:=y94) ZR ZT rfl rfl e97) ?_;obtain ⟨y98,k99,H⟩:=H;refine gh 11 4095 rfl (aQ Tryz.isAgg156 ZT rfl rfl) k99 (gq 12 8191 rfl (aw rfl) ?_);obtain ⟨a100,e101,H⟩:=H;refine gq 13 16383 rfl (bf (s:=y90) ZR ZT rfl rfl e101) (g_e 14 32767 [] (by kernel_rfl) rfl (by kernel_rfl) (aK (vs:=y98.cells) ZT rfl rfl ax rfl (by intro v hv;exact bM _ v hv) H) rfl rfl ?_);rintro _ h102 ⟨rfl,H⟩;refine ⟨trivial,?_⟩;refine g_e 15 65535 [] (by kernel_rfl) rfl (by kernel_rfl) (rz (bp rfl)) rfl rfl ?_;rintro _ _ ⟨rfl,rfl⟩;refine ⟨trivial,?_⟩;refine g_d (by kernel_rfl) (aI (aa ?_));exact ah [(0,(.pointer x0)),(4,(.pointer x4)),(8,(.int .i64 x11)),(10,(.int .i64 x10)),(11,(.int .i64 x11))] ⟨rfl,rfl,rfl,rfl,rfl,tv⟩ ⟨_,_,_,_,_,rfl,H⟩
      ·replace H:=H.2 g87;refine au (aI (aa ?_));exact ah [(0,(.pointer x0)),(4,(.pointer x4)),(8,(.int .i64 x8)),(10,(.int .i64 x10)),(11,(.int .i64 x11))] ⟨rfl,rfl,rfl,rfl,rfl,tv⟩ ⟨_,_,_,_,_,rfl,H⟩
    ·replace H:=H.2 g69;refine bC (aF (aF (bV (aa (sr (qm rfl ?_))))));obtain ⟨a103,e104,H⟩:=H;refine tq (bG rfl e104) (tq (ay (off:=0) ZF dt rfl) ?_);obtain ⟨y105,k106,H⟩:=H;refine th (aD ZN rfl) k106 (qm rfl (tq (bO rfl (A9 )) ?_));obtain ⟨a107,e108,H⟩:=H;refine tq (bf (s:=y105) ZR ZT rfl rfl e108) (te (aK (vs:=(⟨0,(⟨#[]⟩:ByteArray),none⟩:aE).cells) ZT rfl rfl ax rfl (by intro v hv;exact bM _ v hv) H) ?_);rintro _ h109 ⟨rfl,H⟩;refine nt (sr (qm rfl (qa rfl (qa rfl (nt (al ?_))))));exact cw rfl rfl rfl ⟨_,_,rfl,H⟩
def F.xcj.l1 (Q:Int->H->Prop):Nat->List Nat->(Option Addr)->Addr->Sl->Int->Int->H->Prop
  | 0,_,_,_,_,_,_,_=>False
  | q1+1,ds,x0,x5,x30,x31,x32,h =>
    ((decide (x32<x31))=true ->
    bD x30 x32 1 fun a37 =>
    ldS h a37 fun y39 =>
    nn x0 fun a41 =>
    ldP h (a41.add 3) fun y43 =>
    F.xbf y43 y39 h fun r46 r47 h45 =>
    (F.xcj.l1 Q q1) ds x0 x5 x30 x31 (IntKind.wrap .i64 (x32+1)) h45) ∧
    ((decide (x32<x31))=false ->
    nn x0 fun a48 =>
    ldI .i64 h ((a48.add 0).add 0) fun y50 =>
    ldI .i64 h x5 fun y52 =>
    nn x0 fun a54 =>
    stH h ((a54.add 0).add 0) [(.int .i64 (IntKind.wrap .i64 (y50-y52)))] fun h56 =>
    ldI .i64 h56 x5 fun y57 =>
    lO ds h56 fun h59 =>
    Q y57 h59)
def F.xcj (p0:Option Addr) (p1:Sl) (h:H) (Q:Int->H->Prop):Prop:=
  new h #[p1.enc] Cp fun a2 h1 =>
  new h1 #[(.int .i64 0)] rL fun a4 h3 =>
  stH h3 a4 [(.int .i64 0)] fun h5 =>
  new h5 #[(⟨none,0,0⟩:Sl).enc] AX fun a7 h6 =>
  nn p0 fun a8 =>
  ldP h6 (a8.add 3) fun y10 =>
  F.xai y10 h6 fun r13 h12 =>
  rng PP r13 h12 [] (fun bg1 l1 args h K1 J1=>∃ (y1_16:ByteArray),∃ (y1_17:Option Addr),args=[(.string y1_16),(.pointer y1_17)] ∧
    bg1 h fun h14 =>
    ldI .i64 h14 a4 fun y15 =>
    ldL h14 a2 fun y17 =>
    F.xao y1_17 y17 h14 fun r20 h19 =>
    aA h19 a4=some (.int .i64 y15) ∧
    stH h19 a4 [(.int .i64 (IntKind.wrap .i64 (y15+r20)))] fun h22 =>
    F.xdx y1_17 h22 fun r24 h23 =>
    (((r24 == 0))=true ->
    ldL h23 a7 fun y26 =>
    fv h23 #[(.string y1_16)] B1 1 fun s29 h28 =>
    dA PP (Builtin.append_ #[22,22] 22 #[y26.enc,s29.enc]) h28 fun s31 h30 =>
    stH h30 a7 [s31.enc] fun h32 =>
    K1 h32) ∧
    (((r24 == 0))=false ->
    K1 h23)) (fun h33 =>
    ldL h33 a7 fun y34 =>
    ∃ m,F.xcj.l1 Q m (h12.size :: ([]:List Nat)) p0 a4 y34 (y34.len:Int) 0 h33) (fun jj h61 =>
    True)
theorem F.xcj_ok {p0:Option Addr}{p1:Sl}{h:H}{Q:Int->H->Prop}(H:F.xcj p0 p1 h Q):Fn PP 29 ([(.pointer p0),p1.enc]:List Value).toArray h fun r h'=>∃ r0,r=(.int .i64 r0)∧Q r0 h':=by
 unfold F.xcj at H;refine tH Tryz.func29 Tryz.ntmps29 rfl rfl fun w0=>(az [(0,(.pointer p0)),(1,p1.enc)] ⟨rfl,rfl,tv⟩ (sr (te (cb (cs:=#[p1.enc]) rfl rfl H) ?_)));rintro _ h1 ⟨a2,rfl,H⟩;refine qa rfl (nt (sr (te (bJ (cs:=#[(.int .i64 0)]) Tryz.zeroValue3 rfl H) ?_)));rintro _ h3 ⟨a4,rfl,H⟩;refine te (aK (vs:=[(.int .i64 0)]) ZQ rfl rfl rfl rfl (de rfl) H) ?_;rintro _ h5 ⟨rfl,H⟩;refine nt (sr (te (bJ (cs:=#[(⟨none,0,0⟩:Sl).enc]) Tryz.zeroValue22 rfl H) ?_));rintro _ h6 ⟨a7,rfl,H⟩;refine nt (aj (sr (qm rfl ?_)));obtain ⟨a8,e9,H⟩:=H;refine tq (bG rfl e9) (tq (ay (off:=3) ZU kR rfl) ?_);obtain ⟨y10,k11,H⟩:=H;refine th (aD Tryz.isAgg72 rfl) k11 (te (av Tryz.call59 rfl (F.xai_ok H)) ?_);rintro r13 h12 ⟨_,rfl,H⟩;refine nt (aB ?_);refine nU rfl (by kernel_rfl) H ?_ ?_ ?_
 ·intro bg1 l1 args h K1 J1 w1 hbg1 H;obtain ⟨y1_16,y1_17,rfl,H⟩:=H;refine ⟨rfl,?_⟩;refine az [(0,(.pointer p0)),(1,p1.enc),(3,(.pointer (some a2))),(4,(.int .i64 0)),(5,(.pointer (some a4))),(6,(.pointer (some a7))),(11,(.pointer p0)),(12,(.pointer (some a8))),(13,(.pointer (some (a8.add 3)))),(14,(.pointer y10)),(15,r13),(16,(.string y1_16)),(17,(.pointer y1_17))] ⟨rfl,rfl,rfl,rfl,rfl,rfl,rfl,rfl,rfl,rfl,rfl,rfl,rfl,tv⟩ (sr (qa rfl (nt (ai (qa rfl (nt (ui hbg1 H fun h14 H=>(aB (aj (bv mixed [0,0,0,6,15,31] (by kernel_rfl) ?_))))))))));obtain ⟨y15,k16,H⟩:=H;refine gh 0 1 rfl (aD ZC rfl) k16 (gq 1 3 rfl (aw rfl) ?_);obtain ⟨y17,k18,H⟩:=H;refine gh 2 7 rfl (aD ZBK rfl) k18 (g_e 3 15 [(0,fun h=>aA h a4=some (.int .i64 y15))] (by kernel_rfl) rfl (by kernel_rfl) (av Tryz.call60 rfl (F.xao_ok H)) rfl rfl ?_);rintro _ h19 ⟨r20,rfl,H⟩;obtain ⟨k21,H⟩:=H;refine ⟨And.intro k21 trivial,?_⟩;refine gq 4 31 rfl (bE rfl rfl) (g_e 5 63 [] (by kernel_rfl) rfl (by kernel_rfl) (aK (vs:=[(.int .i64 (IntKind.wrap .i64 (y15+r20)))]) ZQ rfl rfl rfl rfl (de rfl) H) rfl rfl ?_);rintro _ h22 ⟨rfl,H⟩;refine ⟨trivial,?_⟩;refine g_d (by kernel_rfl) (aa (sr (qm rfl (te (av Tryz.call61 rfl (F.xdx_ok H)) ?_))));rintro _ h23 ⟨r24,rfl,H⟩;refine tq (ct rfl rfl) (nt ?_);refine am rfl (fun g25=>?_) (fun g25=>?_)
  ·replace H:=H.1 g25;refine ai ?_;obtain ⟨y26,k27,H⟩:=H;refine th (aD Tryz.isAgg22 rfl) k27 (qm rfl (te (co (cs:=#[(.string y1_16)]) rfl rfl (rU y1_16) H) ?_));rintro _ h28 ⟨s29,rfl,H⟩;refine te (dV rfl H) ?_;rintro _ h30 ⟨s31,rfl,H⟩;refine te (aK (vs:=[s31.enc]) Tryz.sizeOf22 rfl rfl rfl rfl (de rfl) H) ?_;rintro _ h32 ⟨rfl,H⟩;refine bo (aI ?_);exact sX H
  ·replace H:=H.2 g25;refine au (aI ?_);exact sX H
 ·intro h33 H;refine aI (aa (aj (sr ?_)));obtain ⟨y34,k35,H⟩:=H;refine th (aD Tryz.isAgg22 rfl) k35 (tq (bB (ts:=#[]) ZBV (o:=y34.ptr) (n:=y34.len) (cap:=y34.cap) rfl) (qm rfl (nt (aB ?_))));obtain ⟨m60,H⟩:=H;refine az [(0,(.pointer p0)),(5,(.pointer (some a4))),(30,y34.enc),(31,(.int .i64 (y34.len:Int))),(32,(.int .i64 0))] ⟨rfl,rfl,rfl,rfl,rfl,tv⟩ ?_;refine wJ (fun m ds L' h=>∃ (x0:Option Addr) (x5:Addr) (x30:Sl) (x31:Int) (x32:Int),L'=[(0,(.pointer x0)),(5,(.pointer (some x5))),(30,x30.enc),(31,(.int .i64 x31)),(32,(.int .i64 x32))]∧F.xcj.l1 Q m ds x0 x5 x30 x31 x32 h) ?_ ?_ m60 (h12.size :: ([]:List Nat)) rfl ⟨_,_,_,_,_,rfl,H⟩
  ·rintro ds L' h ⟨_,_,_,_,_,_,H⟩;exact H
  ·rintro q1 ds L' h ⟨x0,x5,x30,x31,x32,rfl,H⟩;unfold F.xcj.l1 at H;refine sr (tq (bN rfl rfl) (nt (aj ?_)));refine am rfl (fun g36=>?_) (fun g36=>?_)
   ·replace H:=H.1 g36;refine au (aa (aj (aB (sr ?_))));obtain ⟨a37,e38,H⟩:=H;refine tq (bf (s:=x30) ZBV Tryz.sizeOf9 rfl rfl e38) ?_;obtain ⟨y39,k40,H⟩:=H;refine th (aD ZP rfl) k40 (qa rfl (nt (ai (qm rfl ?_))));obtain ⟨a41,e42,H⟩:=H;refine tq (bG rfl e42) (tq (ay (off:=3) ZU kR rfl) ?_);obtain ⟨y43,k44,H⟩:=H;refine th (aD Tryz.isAgg72 rfl) k44 (qm rfl (te (av Tryz.call62 rfl (F.xbf_ok H)) ?_));rintro _ h45 ⟨r46,r47,rfl,H⟩;refine bo (aI (aa (ai (tq (bE rfl rfl) (qm rfl (nt ?_))))));exact rq ds [(0,(.pointer x0)),(5,(.pointer (some x5))),(30,x30.enc),(31,(.int .i64 x31)),(32,(.int .i64 (IntKind.wrap .i64 (x32+1))))] rfl ⟨rfl,rfl,rfl,rfl,rfl,tv⟩ ⟨_,_,_,_,_,rfl,H⟩
   ·replace H:=H.2 g36;refine bC (aF (aF (bV (aa (aj (bv mixed [0,1,3,7,15,0,63,127,255,511,1023] (by kernel_rfl) (gq 0 1 rfl (aw rfl) ?_)))))));obtain ⟨a48,e49,H⟩:=H;refine gq 1 3 rfl (bG rfl e49) (gq 2 7 rfl (ay (off:=0) ZU er rfl) (gq 3 15 rfl (ay (off:=0) Zr hC rfl) ?_));obtain ⟨y50,k51,H⟩:=H;refine gh 4 31 rfl (aD ZC rfl) k51 ?_;obtain ⟨y52,k53,H⟩:=H;refine gh 5 63 rfl (aD ZC rfl) k53 (gq 6 127 rfl (cJ rfl rfl) ?_);obtain ⟨a54,e55,H⟩:=H;refine gq 7 255 rfl (bG rfl e55) (gq 8 511 rfl (ay (off:=0) ZU er rfl) (gq 9 1023 rfl (ay (off:=0) Zr hC rfl) (g_e 10 2047 [] (by kernel_rfl) rfl (by kernel_rfl) (aK (vs:=[(.int .i64 (IntKind.wrap .i64 (y50-y52)))]) ZQ rfl rfl rfl rfl (de rfl) H) rfl rfl ?_)));rintro _ h56 ⟨rfl,H⟩;refine ⟨trivial,?_⟩;refine g_d (by kernel_rfl) (aa (sr ?_));obtain ⟨y57,k58,H⟩:=H;refine th (aD ZC rfl) k58 (qa rfl (nt (al (nV ds rfl H fun h59 H=>?_))));exact an rfl rfl ⟨_,rfl,H⟩
 ·intro jj c h61 hjc H;simp at hjc
def F.xef (p0:Option Addr) (p1:Int) (p2:Sl) (h:H) (Q:Int->H->Prop):Prop:=
  F.xdm p0 p1 h fun r2 h1 =>
  ((!r2)=true ->
  Q 0 h1) ∧
  ((!r2)=false ->
  nn p0 fun a4 =>
  ldL h1 (a4.add 0) fun y6 =>
  bD y6 p1 1 fun a8 =>
  ldP h1 a8 fun y10 =>
  F.xcj y10 p2 h1 fun r13 h12 =>
  Q r13 h12)
theorem F.xef_ok {p0:Option Addr}{p1:Int}{p2:Sl}{h:H}{Q:Int->H->Prop}(H:F.xef p0 p1 p2 h Q):Fn PP 28 ([(.pointer p0),(.int .i64 p1),p2.enc]:List Value).toArray h fun r h'=>∃ r0,r=(.int .i64 r0)∧Q r0 h':=by
 unfold F.xef at H;refine aV Tryz.func28 Tryz.ntmps28 rfl rfl fun w0=>(az [(0,(.pointer p0)),(1,(.int .i64 p1)),(2,p2.enc)] ⟨rfl,rfl,rfl,tv⟩ (sr (qa rfl (nt (aj (sr (qm rfl (qm rfl (te (av Tryz.call51 rfl (F.xdm_ok H)) ?_)))))))));rintro _ h1 ⟨r2,rfl,H⟩;refine tq (eI rfl) (nt ?_);refine am rfl (fun g3=>?_) (fun g3=>?_)
 ·replace H:=H.1 g3;refine sr (qa rfl (nt (al (aq ?_))));exact an rfl rfl ⟨_,rfl,H⟩
 ·replace H:=H.2 g3;refine au (aa (sr (qm rfl ?_)));obtain ⟨a4,e5,H⟩:=H;refine tq (bG rfl e5) (tq (ay (off:=0) Z0 fU rfl) ?_);obtain ⟨y6,k7,H⟩:=H;refine th (aD Z3 rfl) k7 (qm rfl ?_);obtain ⟨a8,e9,H⟩:=H;refine tq (bf (s:=y6) Zw ZBG rfl rfl e9) ?_;obtain ⟨y10,k11,H⟩:=H;refine th (aD ZBH rfl) k11 (qm rfl (te (av Tryz.call29 rfl (F.xcj_ok H)) ?_));rintro _ h12 ⟨r13,rfl,H⟩;refine qa rfl (nt (al ?_));exact an rfl rfl ⟨_,rfl,H⟩
def F.xeh (p0:Option Addr) (p1:ae) (p2:Int) (h:H) (Q:ag->H->Prop):Prop:=
  new h p1.cells.toArray cH fun a2 h1 =>
  new h1 (((⟨0,0,0,0⟩:ag):ag).cells.toArray) gz fun a4 h3 =>
  ak h3 a2 fun y5 =>
  ak h3 a2 fun y7 =>
  F.xda p0 y5 h3 fun r10 h9 =>
  Cells h9 a2 y7.cells ∧
  F.xdv r10 y7 p2 h9 fun r13 h12 =>
  stH h12 a4 r13.cells fun h14 =>
  bh h14 a4 fun y15 =>
  Q y15 h14
theorem F.xeh_ok {p0:Option Addr}{p1:ae}{p2:Int}{h:H}{Q:ag->H->Prop}(H:F.xeh p0 p1 p2 h Q):Fn PP 37 ([(.pointer p0),(.agg p1.cells.toArray),(.int .i64 p2)]:List Value).toArray h fun r h'=>∃ r0,r=(.agg r0.cells.toArray)∧Q r0 h':=by
 unfold F.xeh at H;refine aV Tryz.func37 Tryz.ntmps37 rfl rfl fun w0=>(az [(0,(.pointer p0)),(1,(.agg p1.cells.toArray)),(2,(.int .i64 p2))] ⟨rfl,rfl,rfl,tv⟩ (sr (te (cb (cs:=p1.cells.toArray) rfl rfl H) ?_)));rintro _ h1 ⟨a2,rfl,H⟩;refine te (bJ (cs:=((⟨0,0,0,0⟩:ag):ag).cells.toArray) Zo rfl H) ?_;rintro _ h3 ⟨a4,rfl,H⟩;refine nt (aj (bv mixed [0,0,3,0,0,31,63] (by kernel_rfl) (gq 0 1 rfl (aw rfl) ?_)));obtain ⟨y5,k6,H⟩:=H;refine gh 1 3 rfl (aQ ZB ZA rfl rfl) k6 ?_;obtain ⟨y7,k8,H⟩:=H;refine gh 3 11 rfl (aQ ZB ZA rfl rfl) k8 (gq 4 27 rfl (aw rfl) (g_e 2 31 [(3,fun h=>Cells h a2 y7.cells)] (by kernel_rfl) rfl (by kernel_rfl) (av Tryz.call46 rfl (F.xda_ok H)) rfl rfl ?_));rintro _ h9 ⟨r10,rfl,H⟩;obtain ⟨k11,H⟩:=H;refine ⟨And.intro k11 trivial,?_⟩;refine g_e 5 63 [] (by kernel_rfl) rfl (by kernel_rfl) (av Tryz.call38 rfl (F.xdv_ok H)) rfl rfl ?_;rintro _ h12 ⟨r13,rfl,H⟩;refine ⟨trivial,?_⟩;refine g_e 6 127 [] (by kernel_rfl) rfl (by kernel_rfl) (aK (vs:=r13.cells) ZD rfl rfl ax rfl (by intro v hv;exact bt _ v hv) H) rfl rfl ?_;rintro _ h14 ⟨rfl,H⟩;refine ⟨trivial,?_⟩;refine g_d (by kernel_rfl) (aa (al ?_));obtain ⟨y15,k16,H⟩:=H;exact eY rfl (bY ZK ZD rfl rfl k16) ⟨_,rfl,H⟩
def F.xfa (p0:Option Addr) (h:H) (Q:Int->H->Prop):Prop:=
  nn p0 fun a1 =>
  ldI .i64 h (a1.add 1) fun y3 =>
  Q y3 h
theorem F.xfa_ok {p0:Option Addr}{h:H}{Q:Int->H->Prop}(H:F.xfa p0 h Q):Fn PP 33 ([(.pointer p0)]:List Value).toArray h fun r h'=>∃ r0,r=(.int .i64 r0)∧Q r0 h':=by
 unfold F.xfa at H;refine aV Tryz.func33 Tryz.ntmps33 rfl rfl fun w0=>(az [(0,(.pointer p0))] ⟨rfl,tv⟩ (sr (qa rfl (nt (sr (qm rfl ?_))))));obtain ⟨a1,e2,H⟩:=H;refine tq (bG rfl e2) (tq (ay (off:=1) Zr nz rfl) ?_);obtain ⟨y3,k4,H⟩:=H;refine th (aD ZC rfl) k4 (qa rfl (nt (al ?_)));exact an rfl rfl ⟨_,rfl,H⟩
def F.xct.l1 (Q:Int->H->Prop):Nat->Int->Sl->Int->Int->H->Prop
  | 0,_,_,_,_,_=>False
  | q1+1,x3,x9,x10,x11,h =>
    ((decide (x11<x10))=true ->
    bD x9 x11 1 fun a6 =>
    ldP h a6 fun y8 =>
    nn y8 fun a10 =>
    F.xfa (some (a10.add 0)) h fun r13 h12 =>
    (F.xct.l1 Q q1) (IntKind.wrap .i64 (x3+r13)) x9 x10 (IntKind.wrap .i64 (x11+1)) h12) ∧
    ((decide (x11<x10))=false ->
    Q x3 h)
def F.xct (p0:Option Addr) (h:H) (Q:Int->H->Prop):Prop:=
  nn p0 fun a1 =>
  ldL h (a1.add 0) fun y3 =>
  ∃ m,F.xct.l1 Q m 0 y3 (y3.len:Int) 0 h
theorem F.xct_ok {p0:Option Addr}{h:H}{Q:Int->H->Prop}(H:F.xct p0 h Q):Fn PP 32 ([(.pointer p0)]:List Value).toArray h fun r h'=>∃ r0,r=(.int .i64 r0)∧Q r0 h':=by
 unfold F.xct at H;refine aV Tryz.func32 Tryz.ntmps32 rfl rfl fun w0=>(az [(0,(.pointer p0))] ⟨rfl,tv⟩ (sr (qa rfl (nt (sr (qa rfl (nt (aj (aj ?_)))))))));refine ai (qm rfl ?_);obtain ⟨a1,e2,H⟩:=H;refine tq (bG rfl e2) (tq (ay (off:=0) Z0 fU rfl) ?_);obtain ⟨y3,k4,H⟩:=H;refine th (aD Z3 rfl) k4 (tq (bB (ts:=#[]) Zw (o:=y3.ptr) (n:=y3.len) (cap:=y3.cap) rfl) (qm rfl (nt (aB ?_))));obtain ⟨m14,H⟩:=H;refine az [(3,(.int .i64 0)),(9,y3.enc),(10,(.int .i64 (y3.len:Int))),(11,(.int .i64 0))] ⟨rfl,rfl,rfl,rfl,tv⟩ ?_;refine aY (fun m L' h=>∃ (x3:Int) (x9:Sl) (x10:Int) (x11:Int),L'=[(3,(.int .i64 x3)),(9,x9.enc),(10,(.int .i64 x10)),(11,(.int .i64 x11))]∧F.xct.l1 Q m x3 x9 x10 x11 h) ?_ ?_ m14 ⟨_,_,_,_,rfl,H⟩
 ·rintro L' h ⟨_,_,_,_,_,H⟩;exact H
 ·rintro q1 L' h ⟨x3,x9,x10,x11,rfl,H⟩;unfold F.xct.l1 at H;refine sr (tq (bN rfl rfl) (nt (aj ?_)));refine am rfl (fun g5=>?_) (fun g5=>?_)
  ·replace H:=H.1 g5;refine au (aa (aj (aB (sr ?_))));obtain ⟨a6,e7,H⟩:=H;refine tq (bf (s:=x9) Zw ZBG rfl rfl e7) ?_;obtain ⟨y8,k9,H⟩:=H;refine th (aD ZBH rfl) k9 (qa rfl (nt (ai (qm rfl (qm rfl ?_)))));obtain ⟨a10,e11,H⟩:=H;refine tq (bG rfl e11) (tq (ay (off:=0) ZU er rfl) (te (av Tryz.call33 rfl (F.xfa_ok H)) ?_));rintro _ h12 ⟨r13,rfl,H⟩;refine tq (bE rfl rfl) (qa rfl (bo (aI (aa (ai (tq (bE rfl rfl) (qm rfl (nt ?_))))))));exact ah [(3,(.int .i64 (IntKind.wrap .i64 (x3+r13)))),(9,x9.enc),(10,(.int .i64 x10)),(11,(.int .i64 (IntKind.wrap .i64 (x11+1))))] ⟨rfl,rfl,rfl,rfl,tv⟩ ⟨_,_,_,_,rfl,H⟩
  ·replace H:=H.2 g5;refine bC (aF (aF (bV (aa (sr (qm rfl (qa rfl (nt (al ?_)))))))));exact an rfl rfl ⟨_,rfl,H⟩
def F.xby.l2 (Q:Int->H->Prop):Nat->Sl->Int->Int->H->Prop
  | 0,_,_,_,_=>False
  | q2+1,x0,x3,x4,h =>
    ((decide (x4<(x0.len:Int)))=true ->
    bD x0 x4 1 fun a6 =>
    ldI .i64 h a6 fun y8 =>
    BS PP (Builtin.max_ #[3,3] 3 #[(.int .i64 x3),(.int .i64 y8)]) h .i64 fun s11 h10 =>
    (F.xby.l2 Q q2) x0 s11 (IntKind.wrap .i64 (x4+1)) h10) ∧
    ((decide (x4<(x0.len:Int)))=false ->
    Q x3 h)
def F.xby.j1 (Q:Int->H->Prop) (x0:Sl) (h:H):Prop:=
  bD x0 0 1 fun a1 =>
  ldI .i64 h a1 fun y3 =>
  ∃ m,F.xby.l2 Q m x0 y3 1 h
def F.xby (p0:Sl) (h:H) (Q:Int->H->Prop):Prop:=
  ((decide ((p0.len:Int)<1))=true ->
  False) ∧
  ((decide ((p0.len:Int)<1))=false ->
  F.xby.j1 Q p0 h)
theorem F.xby_ok {p0:Sl}{h:H}{Q:Int->H->Prop}(H:F.xby p0 h Q):Fn PP 70 ([p0.enc]:List Value).toArray h fun r h'=>∃ r0,r=(.int .i64 r0)∧Q r0 h':=by
 unfold F.xby at H;refine aV Tryz.func70 Tryz.ntmps70 rfl rfl fun w0=>(az [(0,p0.enc)] ⟨rfl,tv⟩ (sr (qa rfl (nt ?_))));refine aG (fun L' h=>∃ (x0:Sl),L'=[(0,x0.enc)]∧F.xby.j1 Q x0 h) ?_ ?_
 ·rintro L' h ⟨x0,rfl,H⟩;unfold F.xby.j1 at H;refine sr (qm rfl ?_);obtain ⟨a1,e2,H⟩:=H;refine tq (bf (s:=x0) ZY ZQ rfl rfl e2) ?_;obtain ⟨y3,k4,H⟩:=H;refine th (aD ZC rfl) k4 (qa rfl (nt (aj (sr (qa rfl (nt (aB ?_)))))));obtain ⟨m12,H⟩:=H;refine az [(0,x0.enc),(3,(.int .i64 y3)),(4,(.int .i64 1))] ⟨rfl,rfl,rfl,tv⟩ ?_;refine aY (fun m L' h=>∃ (x0:Sl) (x3:Int) (x4:Int),L'=[(0,x0.enc),(3,(.int .i64 x3)),(4,(.int .i64 x4))]∧F.xby.l2 Q m x0 x3 x4 h) ?_ ?_ m12 ⟨_,_,_,rfl,H⟩
  ·rintro L' h ⟨_,_,_,_,H⟩;exact H
  ·rintro q2 L' h ⟨x0,x3,x4,rfl,H⟩;unfold F.xby.l2 at H;refine aj (sr (qm rfl (qm rfl (tq (bB (ts:=#[]) ZY (o:=x0.ptr) (n:=x0.len) (cap:=x0.cap) rfl) (tq (bN rfl rfl) (nt ?_))))));refine am rfl (fun g5=>?_) (fun g5=>?_)
   ·replace H:=H.1 g5;refine au (aa (aj (aB (ai (qm rfl (qm rfl (qm rfl ?_)))))));obtain ⟨a6,e7,H⟩:=H;refine tq (bf (s:=x0) ZY ZQ rfl rfl e7) ?_;obtain ⟨y8,k9,H⟩:=H;refine th (aD ZC rfl) k9 (te (Ci rfl H) ?_);rintro _ h10 ⟨s11,rfl,H⟩;refine qa rfl (bo (aI (aa (ai (qm rfl (tq (bE rfl rfl) (qa rfl (nt ?_))))))));exact ah [(0,x0.enc),(3,(.int .i64 s11)),(4,(.int .i64 (IntKind.wrap .i64 (x4+1))))] ⟨rfl,rfl,rfl,tv⟩ ⟨_,_,_,rfl,H⟩
   ·replace H:=H.2 g5;refine bC (aF (aF (bV (aa (sr (qm rfl (qa rfl (nt (al ?_)))))))));exact an rfl rfl ⟨_,rfl,H⟩
 ·refine sr (qm rfl (tq (bB (ts:=#[]) ZY (o:=p0.ptr) (n:=p0.len) (cap:=p0.cap) rfl) (tq (bN rfl rfl) (nt ?_))));refine am rfl (fun g13=>?_) (fun g13=>?_)
  ·replace H:=H.1 g13;refine ai (tq (ry Zb rfl rfl) ?_);exact H.elim
  ·replace H:=H.2 g13;refine au (aa ?_);exact ah [(0,p0.enc)] ⟨rfl,tv⟩ ⟨_,rfl,H⟩
def F.xes (p0:Option Addr) (h:H) (Q:Int->H->Prop):Prop:=
  new h #[(⟨none,0,0⟩:Sl).enc] Cp fun a2 h1 =>
  nn p0 fun a3 =>
  ldP h1 (a3.add 3) fun y5 =>
  F.xai y5 h1 fun r8 h7 =>
  rng PP r8 h7 [] (fun bg1 l1 args h K1 J1=>∃ (y1_11:ByteArray),∃ (y1_12:Option Addr),args=[(.string y1_11),(.pointer y1_12)] ∧
    bg1 h fun h9 =>
    ldL h9 a2 fun y10 =>
    F.xdx y1_12 h9 fun r13 h12 =>
    aA h12 a2=some y10.enc ∧
    fv h12 #[(.int .i64 r13)] rL 1 fun s16 h15 =>
    aA h15 a2=some y10.enc ∧
    dA PP (Builtin.append_ #[42,42] 42 #[y10.enc,s16.enc]) h15 fun s19 h18 =>
    stH h18 a2 [s19.enc] fun h20 =>
    K1 h20) (fun h21 =>
    ldL h21 a2 fun y22 =>
    ((((y22.len:Int) == 0))=true ->
    lO (h7.size :: ([]:List Nat)) h21 fun h25 =>
    Q 0 h25) ∧
    ((((y22.len:Int) == 0))=false ->
    ldL h21 a2 fun y26 =>
    F.xby y26 h21 fun r29 h28 =>
    lO (h7.size :: ([]:List Nat)) h28 fun h30 =>
    Q r29 h30)) (fun jj h31 =>
    True)
theorem F.xes_ok {p0:Option Addr}{h:H}{Q:Int->H->Prop}(H:F.xes p0 h Q):Fn PP 35 ([(.pointer p0)]:List Value).toArray h fun r h'=>∃ r0,r=(.int .i64 r0)∧Q r0 h':=by
 unfold F.xes at H;refine tH Tryz.func35 Tryz.ntmps35 rfl rfl fun w0=>(az [(0,(.pointer p0))] ⟨rfl,tv⟩ (sr (qa rfl (nt (sr (te (bJ (cs:=#[(⟨none,0,0⟩:Sl).enc]) Tryz.zeroValue42 rfl H) ?_))))));rintro _ h1 ⟨a2,rfl,H⟩;refine nt (aj (sr (qm rfl ?_)));obtain ⟨a3,e4,H⟩:=H;refine tq (bG rfl e4) (tq (ay (off:=3) ZU kR rfl) ?_);obtain ⟨y5,k6,H⟩:=H;refine th (aD Tryz.isAgg72 rfl) k6 (te (av Tryz.call59 rfl (F.xai_ok H)) ?_);rintro r8 h7 ⟨_,rfl,H⟩;refine nt (aB ?_);refine nU rfl (by kernel_rfl) H ?_ ?_ ?_
 ·intro bg1 l1 args h K1 J1 w1 hbg1 H;obtain ⟨y1_11,y1_12,rfl,H⟩:=H;refine ⟨rfl,?_⟩;refine az [(0,(.pointer p0)),(2,(.int .i64 0)),(3,(.pointer (some a2))),(6,(.pointer p0)),(7,(.pointer (some a3))),(8,(.pointer (some (a3.add 3)))),(9,(.pointer y5)),(10,r8),(11,(.string y1_11)),(12,(.pointer y1_12))] ⟨rfl,rfl,rfl,rfl,rfl,rfl,rfl,rfl,rfl,rfl,tv⟩ (ai (qa rfl (nt (ui hbg1 H fun h9 H=>(aB (bv mixed [0,0,2,6,15,31] (by kernel_rfl) ?_))))));obtain ⟨y10,k11,H⟩:=H;refine gh 0 1 rfl (aD ZBK rfl) k11 (gq 1 3 rfl (aw rfl) (g_e 2 7 [(0,fun h=>aA h a2=some y10.enc)] (by kernel_rfl) rfl (by kernel_rfl) (av Tryz.call61 rfl (F.xdx_ok H)) rfl rfl ?_));rintro _ h12 ⟨r13,rfl,H⟩;obtain ⟨k14,H⟩:=H;refine ⟨And.intro k14 trivial,?_⟩;refine g_e 3 15 [(0,fun h=>aA h a2=some y10.enc)] (by kernel_rfl) rfl (by kernel_rfl) (co (cs:=#[(.int .i64 r13)]) rfl rfl (rW r13) H) rfl rfl ?_;rintro _ h15 ⟨s16,rfl,H⟩;obtain ⟨k17,H⟩:=H;refine ⟨And.intro k17 trivial,?_⟩;refine g_e 4 31 [] (by kernel_rfl) rfl (by kernel_rfl) (dV rfl H) rfl rfl ?_;rintro _ h18 ⟨s19,rfl,H⟩;refine ⟨trivial,?_⟩;refine g_e 5 63 [] (by kernel_rfl) rfl (by kernel_rfl) (aK (vs:=[s19.enc]) Tryz.sizeOf42 rfl rfl rfl rfl (de rfl) H) rfl rfl ?_;rintro _ h20 ⟨rfl,H⟩;refine ⟨trivial,?_⟩;refine g_d (by kernel_rfl) (aI ?_);exact sX H
 ·intro h21 H;refine aI (aa (aj (sr ?_)));obtain ⟨y22,k23,H⟩:=H;refine th (aD ZBK rfl) k23 (tq (bB (ts:=#[]) ZY (o:=y22.ptr) (n:=y22.len) (cap:=y22.cap) rfl) (tq (ct rfl rfl) (nt ?_)));refine am rfl (fun g24=>?_) (fun g24=>?_)
  ·replace H:=H.1 g24;refine sr (qa rfl (nt (al (aq (nV (h7.size :: ([]:List Nat)) rfl H fun h25 H=>?_)))));exact an rfl rfl ⟨_,rfl,H⟩
  ·replace H:=H.2 g24;refine au (aa (sr ?_));obtain ⟨y26,k27,H⟩:=H;refine th (aD ZBK rfl) k27 (te (av Tryz.call70 rfl (F.xby_ok H)) ?_);rintro _ h28 ⟨r29,rfl,H⟩;refine qa rfl (nt (al (nV (h7.size :: ([]:List Nat)) rfl H fun h30 H=>?_)));exact an rfl rfl ⟨_,rfl,H⟩
 ·intro jj c h31 hjc H;simp at hjc
def F.xcu.l1 (Q:Int->H->Prop):Nat->Int->Sl->Int->Int->H->Prop
  | 0,_,_,_,_,_=>False
  | q1+1,x3,x9,x10,x11,h =>
    ((decide (x11<x10))=true ->
    bD x9 x11 1 fun a6 =>
    ldP h a6 fun y8 =>
    F.xes y8 h fun r11 h10 =>
    BS PP (Builtin.max_ #[3,3] 3 #[(.int .i64 x3),(.int .i64 r11)]) h10 .i64 fun s13 h12 =>
    (F.xcu.l1 Q q1) s13 x9 x10 (IntKind.wrap .i64 (x11+1)) h12) ∧
    ((decide (x11<x10))=false ->
    Q x3 h)
def F.xcu (p0:Option Addr) (h:H) (Q:Int->H->Prop):Prop:=
  nn p0 fun a1 =>
  ldL h (a1.add 0) fun y3 =>
  ∃ m,F.xcu.l1 Q m 0 y3 (y3.len:Int) 0 h
theorem F.xcu_ok {p0:Option Addr}{h:H}{Q:Int->H->Prop}(H:F.xcu p0 h Q):Fn PP 34 ([(.pointer p0)]:List Value).toArray h fun r h'=>∃ r0,r=(.int .i64 r0)∧Q r0 h':=by
 unfold F.xcu at H;refine aV Tryz.func34 Tryz.ntmps34 rfl rfl fun w0=>(az [(0,(.pointer p0))] ⟨rfl,tv⟩ (sr (qa rfl (nt (sr (qa rfl (nt (aj (aj ?_)))))))));refine ai (qm rfl ?_);obtain ⟨a1,e2,H⟩:=H;refine tq (bG rfl e2) (tq (ay (off:=0) Z0 fU rfl) ?_);obtain ⟨y3,k4,H⟩:=H;refine th (aD Z3 rfl) k4 (tq (bB (ts:=#[]) Zw (o:=y3.ptr) (n:=y3.len) (cap:=y3.cap) rfl) (qm rfl (nt (aB ?_))));obtain ⟨m14,H⟩:=H;refine az [(3,(.int .i64 0)),(9,y3.enc),(10,(.int .i64 (y3.len:Int))),(11,(.int .i64 0))] ⟨rfl,rfl,rfl,rfl,tv⟩ ?_;refine aY (fun m L' h=>∃ (x3:Int) (x9:Sl) (x10:Int) (x11:Int),L'=[(3,(.int .i64 x3)),(9,x9.enc),(10,(.int .i64 x10)),(11,(.int .i64 x11))]∧F.xcu.l1 Q m x3 x9 x10 x11 h) ?_ ?_ m14 ⟨_,_,_,_,rfl,H⟩
 ·rintro L' h ⟨_,_,_,_,_,H⟩;exact H
 ·rintro q1 L' h ⟨x3,x9,x10,x11,rfl,H⟩;unfold F.xcu.l1 at H;refine sr (tq (bN rfl rfl) (nt (aj ?_)));refine am rfl (fun g5=>?_) (fun g5=>?_)
  ·replace H:=H.1 g5;refine au (aa (aj (aB (sr ?_))));obtain ⟨a6,e7,H⟩:=H;refine tq (bf (s:=x9) Zw ZBG rfl rfl e7) ?_;obtain ⟨y8,k9,H⟩:=H;refine th (aD ZBH rfl) k9 (qa rfl (nt (ai (qm rfl (qm rfl (te (av Tryz.call35 rfl (F.xes_ok H)) ?_))))));rintro _ h10 ⟨r11,rfl,H⟩;refine te (Ci rfl H) ?_;rintro _ h12 ⟨s13,rfl,H⟩;refine qa rfl (bo (aI (aa (ai (tq (bE rfl rfl) (qm rfl (nt ?_)))))));exact ah [(3,(.int .i64 s13)),(9,x9.enc),(10,(.int .i64 x10)),(11,(.int .i64 (IntKind.wrap .i64 (x11+1))))] ⟨rfl,rfl,rfl,rfl,tv⟩ ⟨_,_,_,_,rfl,H⟩
  ·replace H:=H.2 g5;refine bC (aF (aF (bV (aa (sr (qm rfl (qa rfl (nt (al ?_)))))))));exact an rfl rfl ⟨_,rfl,H⟩
end Go.Proofs.YtjjchpaomgmmdaaGreat.V
