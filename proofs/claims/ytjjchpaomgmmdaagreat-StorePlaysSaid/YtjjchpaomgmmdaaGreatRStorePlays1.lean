/- Parts of the proof of StorePlays; no condition. -/
import Derived.Test.YtjjchpaomgmmdaaGreatRStorePlays0
namespace Go.Proofs.YtjjchpaomgmmdaaGreat.V
open Go
set_option linter.unusedVariables false
set_option maxRecDepth 100000
def F.xeo  (h:H) (Q:(Option Addr)->H->Prop):Prop:=
  dA PP (Instr.makeSlice 146 (.int .i64 8) (.int .i64 8)) h fun s2 h1 =>
  new h1 ((⟨s2,(⟨none,0,0⟩:Sl),0,0⟩:cv).cells.toArray) Dp fun a4 h3 =>
  Q (some a4) h3
theorem F.xeo_ok  {h:H}{Q:(Option Addr)->H->Prop}(H:F.xeo  h Q):Fn PP 55 ([]:List Value).toArray h fun r h'=>∃ r0,r=(.pointer r0)∧Q r0 h':=by
 unfold F.xeo at H;refine aV Tryz.func55 Tryz.ntmps55 rfl rfl fun w0=>(az [] trivial (sr (qa rfl (nt (sr (te (mD rfl rfl H) ?_))))));rintro _ h1 ⟨s2,rfl,H⟩;refine tq (bO rfl (zx s2)) (te (cb (cs:=(⟨s2,(⟨none,0,0⟩:Sl),0,0⟩:cv).cells.toArray) rfl rfl H) ?_);rintro _ h3 ⟨a4,rfl,H⟩;refine qa rfl (nt (al ?_));exact an rfl rfl ⟨_,rfl,H⟩
def F.xbw.j1 (Q:(Option Addr)->Int->H->Prop) (x0:Int) (h:H):Prop:=
  F.xeo  h fun r2 h1 =>
  new h1 ((⟨(⟨0,0,x0⟩:dU),r2⟩:gd).cells.toArray) Ea fun a4 h3 =>
  Q (some a4) 0 h3
def F.xbw.j2 (Q:(Option Addr)->Int->H->Prop) (x0:Int) (x9:Bool) (h:H):Prop:=
  (x9=true ->
  Q none 1 h) ∧
  (x9=false ->
  F.xbw.j1 Q x0 h)
def F.xbw (p0:Int) (h:H) (Q:(Option Addr)->Int->H->Prop):Prop:=
  ((decide (p0<2))=true ->
  F.xbw.j2 Q p0 true h) ∧
  ((decide (p0<2))=false ->
  F.xbw.j2 Q p0 (decide (p0 > 1048576)) h)
theorem F.xbw_ok {p0:Int}{h:H}{Q:(Option Addr)->Int->H->Prop}(H:F.xbw p0 h Q):Fn PP 26 ([(.int .i64 p0)]:List Value).toArray h fun r h'=>∃ r0 r1,r=.tuple #[(.pointer r0),(.int .i64 r1)]∧Q r0 r1 h':=by
 unfold F.xbw at H;refine aV Tryz.func26 Tryz.ntmps26 rfl rfl fun w0=>(az [(0,(.int .i64 p0))] ⟨rfl,tv⟩ (sr (qa rfl (qa rfl (nt ?_)))));refine aG (fun L' h=>∃ (x0:Int),L'=[(0,(.int .i64 x0))]∧F.xbw.j1 Q x0 h) ?_ ?_
 ·rintro L' h ⟨x0,rfl,H⟩;unfold F.xbw.j1 at H;refine sr (qm rfl (tq (bO rfl (Bb x0)) (te (av Tryz.call55 rfl (F.xeo_ok H)) ?_)));rintro _ h1 ⟨r2,rfl,H⟩;refine tq (bO rfl (xZ (⟨0,0,x0⟩:dU) r2)) (te (cb (cs:=(⟨(⟨0,0,x0⟩:dU),r2⟩:gd).cells.toArray) rfl rfl H) ?_);rintro _ h3 ⟨a4,rfl,H⟩;refine qa rfl (qa rfl (nt (al ?_)));exact cw rfl rfl rfl ⟨_,_,rfl,H⟩
 ·refine aG (fun L' h=>∃ (x0:Int) (x9:Bool),L'=[(0,(.int .i64 x0)),(9,(.bool x9))]∧F.xbw.j2 Q x0 x9 h) ?_ ?_
  ·rintro L' h ⟨x0,x9,rfl,H⟩;unfold F.xbw.j2 at H;refine am rfl (fun g5=>?_) (fun g5=>?_)
   ·replace H:=H.1 g5;refine sr (qa rfl (qa rfl (nt (al (aq ?_)))));exact cw rfl rfl rfl ⟨_,_,rfl,H⟩
   ·replace H:=H.2 g5;refine au (aa ?_);exact ah [(0,(.int .i64 x0))] ⟨rfl,tv⟩ ⟨_,rfl,H⟩
  ·refine ai (qm rfl (tq (bN rfl rfl) (qm rfl ?_)));refine aT (t:=6) rfl (fun g6=>?_) (fun g6=>?_)
   ·replace H:=H.1 g6;refine ts (ts (tq (aL rfl rfl) (nt ?_)));exact ah [(0,(.int .i64 p0)),(9,(.bool true))] ⟨rfl,rfl,tv⟩ ⟨_,_,rfl,H⟩
   ·replace H:=H.2 g6;refine qm rfl (tq (df rfl rfl) (tq (aH rfl rfl) (nt ?_)));exact ah [(0,(.int .i64 p0)),(9,(.bool (decide (p0 > 1048576))))] ⟨rfl,rfl,tv⟩ ⟨_,_,rfl,H⟩
def F.xaw.l2 (Q:(Option Addr)->Int->H->Prop):Nat->Int->Addr->Int->Int->H->Prop
  | 0,_,_,_,_,_=>False
  | q2+1,x1,x6,x25,x26,h =>
    ((decide (x26<x25))=true ->
    F.xbw x1 h fun r5 r6 h4 =>
    (((r6 != 0))=true ->
    Q none r6 h4) ∧
    (((r6 != 0))=false ->
    ldL h4 (x6.add 0) fun y8 =>
    fv h4 #[(.pointer r5)] Cr 1 fun s11 h10 =>
    dA PP (Builtin.append_ #[81,81] 81 #[y8.enc,s11.enc]) h10 fun s13 h12 =>
    stH h12 (x6.add 0) [s13.enc] fun h14 =>
    (F.xaw.l2 Q q2) x1 x6 x25 (IntKind.wrap .i64 (x26+1)) h14)) ∧
    ((decide (x26<x25))=false ->
    Q (some x6) 0 h)
def F.xaw.j1 (Q:(Option Addr)->Int->H->Prop) (x0:Int) (x1:Int) (h:H):Prop:=
  new h ((⟨(⟨none,0,0⟩:Sl)⟩:gk).cells.toArray) Eb fun a2 h1 =>
  ∃ m,F.xaw.l2 Q m x1 a2 x0 0 h1
def F.xaw.j3 (Q:(Option Addr)->Int->H->Prop) (x0:Int) (x1:Int) (x22:Bool) (h:H):Prop:=
  (x22=true ->
  Q none 1 h) ∧
  (x22=false ->
  F.xaw.j1 Q x0 x1 h)
def F.xaw (p0:Int) (p1:Int) (h:H) (Q:(Option Addr)->Int->H->Prop):Prop:=
  ((decide (p0<1))=true ->
  F.xaw.j3 Q p0 p1 true h) ∧
  ((decide (p0<1))=false ->
  ((decide (p0 > 16))=true ->
  F.xaw.j3 Q p0 p1 true h) ∧
  ((decide (p0 > 16))=false ->
  ((decide (p1<2))=true ->
  F.xaw.j3 Q p0 p1 true h) ∧
  ((decide (p1<2))=false ->
  F.xaw.j3 Q p0 p1 (decide (p1 > 1048576)) h)))
theorem F.xaw_ok {p0:Int}{p1:Int}{h:H}{Q:(Option Addr)->Int->H->Prop}(H:F.xaw p0 p1 h Q):Fn PP 8 ([(.int .i64 p0),(.int .i64 p1)]:List Value).toArray h fun r h'=>∃ r0 r1,r=.tuple #[(.pointer r0),(.int .i64 r1)]∧Q r0 r1 h':=by
 unfold F.xaw at H;refine aV Tryz.func8 Tryz.ntmps8 rfl rfl fun w0=>(az [(0,(.int .i64 p0)),(1,(.int .i64 p1))] ⟨rfl,rfl,tv⟩ (sr (qa rfl (qa rfl (nt ?_)))));refine aG (fun L' h=>∃ (x0:Int) (x1:Int),L'=[(0,(.int .i64 x0)),(1,(.int .i64 x1))]∧F.xaw.j1 Q x0 x1 h) ?_ ?_
 ·rintro L' h ⟨x0,x1,rfl,H⟩;unfold F.xaw.j1 at H;refine sr (tq (bO rfl (CN )) (te (cb (cs:=(⟨(⟨none,0,0⟩:Sl)⟩:gk).cells.toArray) rfl rfl H) ?_));rintro _ h1 ⟨a2,rfl,H⟩;refine qa rfl (nt (aj (sr (qm rfl (qm rfl (nt (aB ?_)))))));obtain ⟨m15,H⟩:=H;refine az [(1,(.int .i64 x1)),(6,(.pointer (some a2))),(25,(.int .i64 x0)),(26,(.int .i64 0))] ⟨rfl,rfl,rfl,rfl,tv⟩ ?_;refine aY (fun m L' h=>∃ (x1:Int) (x6:Addr) (x25:Int) (x26:Int),L'=[(1,(.int .i64 x1)),(6,(.pointer (some x6))),(25,(.int .i64 x25)),(26,(.int .i64 x26))]∧F.xaw.l2 Q m x1 x6 x25 x26 h) ?_ ?_ m15 ⟨_,_,_,_,rfl,H⟩
  ·rintro L' h ⟨_,_,_,_,_,H⟩;exact H
  ·rintro q2 L' h ⟨x1,x6,x25,x26,rfl,H⟩;unfold F.xaw.l2 at H;refine sr (tq (bN rfl rfl) (nt (aj ?_)));refine am rfl (fun g3=>?_) (fun g3=>?_)
   ·replace H:=H.1 g3;refine au (aa (aj (aB (sr (qm rfl (te (av Tryz.call26 rfl (F.xbw_ok H)) ?_))))));rintro _ h4 ⟨r5,r6,rfl,H⟩;refine qm rfl (tq (bW rfl rfl) (tq (bW rfl rfl) (qa rfl (qa rfl (nt (aj (sr (qm rfl (tq (ey rfl rfl) (nt ?_))))))))));refine am rfl (fun g7=>?_) (fun g7=>?_)
    ·replace H:=H.1 g7;refine sr (qm rfl (qa rfl (qa rfl (nt (al (aq (aS (aq (aq (aS (aq ?_)))))))))));exact cw rfl rfl rfl ⟨_,_,rfl,H⟩
    ·replace H:=H.2 g7;refine au (aa (ai (qm rfl (qm rfl (tq (nX rfl) (tq (ay (off:=0) Z0 fU rfl) ?_))))));obtain ⟨y8,k9,H⟩:=H;refine th (aD Z3 rfl) k9 (qm rfl (te (co (cs:=#[(.pointer r5)]) rfl rfl (yb r5) H) ?_));rintro _ h10 ⟨s11,rfl,H⟩;refine te (dV rfl H) ?_;rintro _ h12 ⟨s13,rfl,H⟩;refine tq (nX rfl) (tq (ay (off:=0) Z0 fU rfl) (te (aK (vs:=[s13.enc]) Tryz.sizeOf81 rfl rfl rfl rfl (de rfl) H) ?_));rintro _ h14 ⟨rfl,H⟩;refine bo (aI (aa (ai (tq (bE rfl rfl) (qm rfl (nt ?_))))));exact ah [(1,(.int .i64 x1)),(6,(.pointer (some x6))),(25,(.int .i64 x25)),(26,(.int .i64 (IntKind.wrap .i64 (x26+1))))] ⟨rfl,rfl,rfl,rfl,tv⟩ ⟨_,_,_,_,rfl,H⟩
   ·replace H:=H.2 g3;refine bC (aF (aF (bV (aa (sr (qm rfl (qa rfl (qa rfl (nt (al ?_))))))))));exact cw rfl rfl rfl ⟨_,_,rfl,H⟩
 ·refine aG (fun L' h=>∃ (x0:Int) (x1:Int) (x22:Bool),L'=[(0,(.int .i64 x0)),(1,(.int .i64 x1)),(22,(.bool x22))]∧F.xaw.j3 Q x0 x1 x22 h) ?_ ?_
  ·rintro L' h ⟨x0,x1,x22,rfl,H⟩;unfold F.xaw.j3 at H;refine am rfl (fun g16=>?_) (fun g16=>?_)
   ·replace H:=H.1 g16;refine sr (qa rfl (qa rfl (nt (al (aq ?_)))));exact cw rfl rfl rfl ⟨_,_,rfl,H⟩
   ·replace H:=H.2 g16;refine au (aa ?_);exact ah [(0,(.int .i64 x0)),(1,(.int .i64 x1))] ⟨rfl,rfl,tv⟩ ⟨_,_,rfl,H⟩
  ·refine ai (qm rfl (tq (bN rfl rfl) (qm rfl ?_)));refine aT (t:=11) rfl (fun g17=>?_) (fun g17=>?_)
   ·replace H:=H.1 g17;refine ts (ts (tq (aL rfl rfl) (qm rfl (ts (ts (tq (aL rfl rfl) (qm rfl (ts (ts (tq (aL rfl rfl) (nt ?_)))))))))));exact ah [(0,(.int .i64 p0)),(1,(.int .i64 p1)),(22,(.bool true))] ⟨rfl,rfl,rfl,tv⟩ ⟨_,_,_,rfl,H⟩
   ·replace H:=H.2 g17;refine qm rfl (tq (df rfl rfl) (tq (aH rfl rfl) (qm rfl ?_)));refine aT (t:=15) rfl (fun g18=>?_) (fun g18=>?_)
    ·replace H:=H.1 g18;refine ts (ts (tq (aL rfl rfl) (qm rfl (ts (ts (tq (aL rfl rfl) (nt ?_)))))));exact ah [(0,(.int .i64 p0)),(1,(.int .i64 p1)),(22,(.bool true))] ⟨rfl,rfl,rfl,tv⟩ ⟨_,_,_,rfl,H⟩
    ·replace H:=H.2 g18;refine qm rfl (tq (bN rfl rfl) (tq (aH rfl rfl) (qm rfl ?_)));refine aT (t:=19) rfl (fun g19=>?_) (fun g19=>?_)
     ·replace H:=H.1 g19;refine ts (ts (tq (aL rfl rfl) (nt ?_)));exact ah [(0,(.int .i64 p0)),(1,(.int .i64 p1)),(22,(.bool true))] ⟨rfl,rfl,rfl,tv⟩ ⟨_,_,_,rfl,H⟩
     ·replace H:=H.2 g19;refine qm rfl (tq (df rfl rfl) (tq (aH rfl rfl) (nt ?_)));exact ah [(0,(.int .i64 p0)),(1,(.int .i64 p1)),(22,(.bool (decide (p1 > 1048576))))] ⟨rfl,rfl,rfl,tv⟩ ⟨_,_,_,rfl,H⟩
def F.xcf.j1 (Q:(Option Addr)->Int->H->Prop) (x0:Int) (h:H):Prop:=
  new h ((⟨x0,(⟨none,0,0⟩:Sl)⟩:dX).cells.toArray) Do fun a2 h1 =>
  Q (some a2) 0 h1
def F.xcf.j2 (Q:(Option Addr)->Int->H->Prop) (x0:Int) (x9:Bool) (h:H):Prop:=
  (x9=true ->
  Q none 1 h) ∧
  (x9=false ->
  F.xcf.j1 Q x0 h)
def F.xcf (p0:Int) (h:H) (Q:(Option Addr)->Int->H->Prop):Prop:=
  ((decide (p0<2))=true ->
  F.xcf.j2 Q p0 true h) ∧
  ((decide (p0<2))=false ->
  F.xcf.j2 Q p0 (decide (p0 > 1048576)) h)
theorem F.xcf_ok {p0:Int}{h:H}{Q:(Option Addr)->Int->H->Prop}(H:F.xcf p0 h Q):Fn PP 43 ([(.int .i64 p0)]:List Value).toArray h fun r h'=>∃ r0 r1,r=.tuple #[(.pointer r0),(.int .i64 r1)]∧Q r0 r1 h':=by
 unfold F.xcf at H;refine aV Tryz.func43 Tryz.ntmps43 rfl rfl fun w0=>(az [(0,(.int .i64 p0))] ⟨rfl,tv⟩ (sr (qa rfl (qa rfl (nt ?_)))));refine aG (fun L' h=>∃ (x0:Int),L'=[(0,(.int .i64 x0))]∧F.xcf.j1 Q x0 h) ?_ ?_
 ·rintro L' h ⟨x0,rfl,H⟩;unfold F.xcf.j1 at H;refine sr (qm rfl (tq (bO rfl (zw x0)) (te (cb (cs:=(⟨x0,(⟨none,0,0⟩:Sl)⟩:dX).cells.toArray) rfl rfl H) ?_)));rintro _ h1 ⟨a2,rfl,H⟩;refine qa rfl (qa rfl (nt (al ?_)));exact cw rfl rfl rfl ⟨_,_,rfl,H⟩
 ·refine aG (fun L' h=>∃ (x0:Int) (x9:Bool),L'=[(0,(.int .i64 x0)),(9,(.bool x9))]∧F.xcf.j2 Q x0 x9 h) ?_ ?_
  ·rintro L' h ⟨x0,x9,rfl,H⟩;unfold F.xcf.j2 at H;refine am rfl (fun g3=>?_) (fun g3=>?_)
   ·replace H:=H.1 g3;refine sr (qa rfl (qa rfl (nt (al (aq ?_)))));exact cw rfl rfl rfl ⟨_,_,rfl,H⟩
   ·replace H:=H.2 g3;refine au (aa ?_);exact ah [(0,(.int .i64 x0))] ⟨rfl,tv⟩ ⟨_,rfl,H⟩
  ·refine ai (qm rfl (tq (bN rfl rfl) (qm rfl ?_)));refine aT (t:=6) rfl (fun g4=>?_) (fun g4=>?_)
   ·replace H:=H.1 g4;refine ts (ts (tq (aL rfl rfl) (nt ?_)));exact ah [(0,(.int .i64 p0)),(9,(.bool true))] ⟨rfl,rfl,tv⟩ ⟨_,_,rfl,H⟩
   ·replace H:=H.2 g4;refine qm rfl (tq (df rfl rfl) (tq (aH rfl rfl) (nt ?_)));exact ah [(0,(.int .i64 p0)),(9,(.bool (decide (p0 > 1048576))))] ⟨rfl,rfl,tv⟩ ⟨_,_,rfl,H⟩
def F.xbb.l2 (Q:(Option Addr)->Int->H->Prop):Nat->Int->Int->Addr->Int->H->Prop
  | 0,_,_,_,_,_=>False
  | q2+1,x0,x1,x6,x7,h =>
    ((decide (x7<x0))=true ->
    F.xcf x1 h fun r5 r6 h4 =>
    (((r6 != 0))=true ->
    Q none r6 h4) ∧
    (((r6 != 0))=false ->
    ldL h4 (x6.add 0) fun y8 =>
    fv h4 #[(.pointer r5)] Ct 1 fun s11 h10 =>
    dA PP (Builtin.append_ #[84,84] 84 #[y8.enc,s11.enc]) h10 fun s13 h12 =>
    stH h12 (x6.add 0) [s13.enc] fun h14 =>
    (F.xbb.l2 Q q2) x0 x1 x6 (IntKind.wrap .i64 (x7+1)) h14)) ∧
    ((decide (x7<x0))=false ->
    Q (some x6) 0 h)
def F.xbb.j1 (Q:(Option Addr)->Int->H->Prop) (x0:Int) (x1:Int) (h:H):Prop:=
  new h ((⟨(⟨none,0,0⟩:Sl)⟩:eg).cells.toArray) Ec fun a2 h1 =>
  ∃ m,F.xbb.l2 Q m x0 x1 a2 0 h1
def F.xbb.j3 (Q:(Option Addr)->Int->H->Prop) (x0:Int) (x1:Int) (x15:Bool) (h:H):Prop:=
  (x15=true ->
  Q none 1 h) ∧
  (x15=false ->
  F.xbb.j1 Q x0 x1 h)
def F.xbb (p0:Int) (p1:Int) (h:H) (Q:(Option Addr)->Int->H->Prop):Prop:=
  ((decide (p0<1))=true ->
  F.xbb.j3 Q p0 p1 true h) ∧
  ((decide (p0<1))=false ->
  F.xbb.j3 Q p0 p1 (decide (p0 > 16)) h)
theorem F.xbb_ok {p0:Int}{p1:Int}{h:H}{Q:(Option Addr)->Int->H->Prop}(H:F.xbb p0 p1 h Q):Fn PP 9 ([(.int .i64 p0),(.int .i64 p1)]:List Value).toArray h fun r h'=>∃ r0 r1,r=.tuple #[(.pointer r0),(.int .i64 r1)]∧Q r0 r1 h':=by
 unfold F.xbb at H;refine aV Tryz.func9 Tryz.ntmps9 rfl rfl fun w0=>(az [(0,(.int .i64 p0)),(1,(.int .i64 p1))] ⟨rfl,rfl,tv⟩ (sr (qa rfl (qa rfl (nt ?_)))));refine aG (fun L' h=>∃ (x0:Int) (x1:Int),L'=[(0,(.int .i64 x0)),(1,(.int .i64 x1))]∧F.xbb.j1 Q x0 x1 h) ?_ ?_
 ·rintro L' h ⟨x0,x1,rfl,H⟩;unfold F.xbb.j1 at H;refine sr (tq (bO rfl (CO )) (te (cb (cs:=(⟨(⟨none,0,0⟩:Sl)⟩:eg).cells.toArray) rfl rfl H) ?_));rintro _ h1 ⟨a2,rfl,H⟩;refine qa rfl (nt (aj (sr (qa rfl (nt (aB ?_))))));obtain ⟨m15,H⟩:=H;refine az [(0,(.int .i64 x0)),(1,(.int .i64 x1)),(6,(.pointer (some a2))),(7,(.int .i64 0))] ⟨rfl,rfl,rfl,rfl,tv⟩ ?_;refine aY (fun m L' h=>∃ (x0:Int) (x1:Int) (x6:Addr) (x7:Int),L'=[(0,(.int .i64 x0)),(1,(.int .i64 x1)),(6,(.pointer (some x6))),(7,(.int .i64 x7))]∧F.xbb.l2 Q m x0 x1 x6 x7 h) ?_ ?_ m15 ⟨_,_,_,_,rfl,H⟩
  ·rintro L' h ⟨_,_,_,_,_,H⟩;exact H
  ·rintro q2 L' h ⟨x0,x1,x6,x7,rfl,H⟩;unfold F.xbb.l2 at H;refine aj (sr (qm rfl (qm rfl (tq (bN rfl rfl) (nt ?_)))));refine am rfl (fun g3=>?_) (fun g3=>?_)
   ·replace H:=H.1 g3;refine au (aa (aj (aB (sr (qm rfl (te (av Tryz.call43 rfl (F.xcf_ok H)) ?_))))));rintro _ h4 ⟨r5,r6,rfl,H⟩;refine qm rfl (tq (bW rfl rfl) (tq (bW rfl rfl) (qa rfl (qa rfl (nt (aj (sr (qm rfl (tq (ey rfl rfl) (nt ?_))))))))));refine am rfl (fun g7=>?_) (fun g7=>?_)
    ·replace H:=H.1 g7;refine sr (qm rfl (qa rfl (qa rfl (nt (al (aq (aS (aq (aq (aS (aq ?_)))))))))));exact cw rfl rfl rfl ⟨_,_,rfl,H⟩
    ·replace H:=H.2 g7;refine au (aa (ai (qm rfl (qm rfl (tq (nX rfl) (tq (ay (off:=0) Zg dY rfl) ?_))))));obtain ⟨y8,k9,H⟩:=H;refine th (aD Zk rfl) k9 (qm rfl (te (co (cs:=#[(.pointer r5)]) rfl rfl (yc r5) H) ?_));rintro _ h10 ⟨s11,rfl,H⟩;refine te (dV rfl H) ?_;rintro _ h12 ⟨s13,rfl,H⟩;refine tq (nX rfl) (tq (ay (off:=0) Zg dY rfl) (te (aK (vs:=[s13.enc]) Tryz.sizeOf84 rfl rfl rfl rfl (de rfl) H) ?_));rintro _ h14 ⟨rfl,H⟩;refine bo (aI (aa (ai (qm rfl (tq (bE rfl rfl) (qa rfl (nt ?_)))))));exact ah [(0,(.int .i64 x0)),(1,(.int .i64 x1)),(6,(.pointer (some x6))),(7,(.int .i64 (IntKind.wrap .i64 (x7+1))))] ⟨rfl,rfl,rfl,rfl,tv⟩ ⟨_,_,_,_,rfl,H⟩
   ·replace H:=H.2 g3;refine bC (aF (aF (bV (aa (sr (qm rfl (qa rfl (qa rfl (nt (al ?_))))))))));exact cw rfl rfl rfl ⟨_,_,rfl,H⟩
 ·refine aG (fun L' h=>∃ (x0:Int) (x1:Int) (x15:Bool),L'=[(0,(.int .i64 x0)),(1,(.int .i64 x1)),(15,(.bool x15))]∧F.xbb.j3 Q x0 x1 x15 h) ?_ ?_
  ·rintro L' h ⟨x0,x1,x15,rfl,H⟩;unfold F.xbb.j3 at H;refine am rfl (fun g16=>?_) (fun g16=>?_)
   ·replace H:=H.1 g16;refine sr (qa rfl (qa rfl (nt (al (aq ?_)))));exact cw rfl rfl rfl ⟨_,_,rfl,H⟩
   ·replace H:=H.2 g16;refine au (aa ?_);exact ah [(0,(.int .i64 x0)),(1,(.int .i64 x1))] ⟨rfl,rfl,tv⟩ ⟨_,_,rfl,H⟩
  ·refine ai (qm rfl (tq (bN rfl rfl) (qm rfl ?_)));refine aT (t:=12) rfl (fun g17=>?_) (fun g17=>?_)
   ·replace H:=H.1 g17;refine ts (ts (tq (aL rfl rfl) (nt ?_)));exact ah [(0,(.int .i64 p0)),(1,(.int .i64 p1)),(15,(.bool true))] ⟨rfl,rfl,rfl,tv⟩ ⟨_,_,_,rfl,H⟩
   ·replace H:=H.2 g17;refine qm rfl (tq (df rfl rfl) (tq (aH rfl rfl) (nt ?_)));exact ah [(0,(.int .i64 p0)),(1,(.int .i64 p1)),(15,(.bool (decide (p0 > 16))))] ⟨rfl,rfl,rfl,tv⟩ ⟨_,_,_,rfl,H⟩
def F.xcq.l1 (Q:Int->H->Prop):Nat->Int->Sl->Int->Int->H->Prop
  | 0,_,_,_,_,_=>False
  | q1+1,x3,x7,x8,x9,h =>
    ((decide (x9<x8))=true ->
    bD x7 x9 1 fun a4 =>
    ldI .u8 h a4 fun y6 =>
    (F.xcq.l1 Q q1) (IntKind.wrap .u64 ((cj .xor .u64 x3 (IntKind.wrap .u64 y6))*1099511628211)) x7 x8 (IntKind.wrap .i64 (x9+1)) h) ∧
    ((decide (x9<x8))=false ->
    Q x3 h)
def F.xcq (p0:ByteArray) (h:H) (Q:Int->H->Prop):Prop:=
  dA PP (convert 9 93 (.string p0)) h fun s2 h1 =>
  ∃ m,F.xcq.l1 Q m 14695981039346656037 s2 (s2.len:Int) 0 h1
theorem F.xcq_ok {p0:ByteArray}{h:H}{Q:Int->H->Prop}(H:F.xcq p0 h Q):Fn PP 44 ([(.string p0)]:List Value).toArray h fun r h'=>∃ r0,r=(.int .u64 r0)∧Q r0 h':=by
 unfold F.xcq at H;refine aV Tryz.func44 Tryz.ntmps44 rfl rfl fun w0=>(az [(0,(.string p0))] ⟨rfl,tv⟩ (sr (qa rfl (nt (sr (qa rfl (nt (aj (aj ?_)))))))));refine ai (qm rfl (te (CW rfl H) ?_));rintro _ h1 ⟨s2,rfl,H⟩;refine tq (bB (ts:=#[]) Tryz.runUnderlying93 (o:=s2.ptr) (n:=s2.len) (cap:=s2.cap) rfl) (qm rfl (nt (aB ?_)));obtain ⟨m8,H⟩:=H;refine az [(3,(.int .u64 14695981039346656037)),(7,s2.enc),(8,(.int .i64 (s2.len:Int))),(9,(.int .i64 0))] ⟨rfl,rfl,rfl,rfl,tv⟩ ?_;refine aY (fun m L' h=>∃ (x3:Int) (x7:Sl) (x8:Int) (x9:Int),L'=[(3,(.int .u64 x3)),(7,x7.enc),(8,(.int .i64 x8)),(9,(.int .i64 x9))]∧F.xcq.l1 Q m x3 x7 x8 x9 h) ?_ ?_ m8 ⟨_,_,_,_,rfl,H⟩
 ·rintro L' h ⟨_,_,_,_,_,H⟩;exact H
 ·rintro q1 L' h ⟨x3,x7,x8,x9,rfl,H⟩;unfold F.xcq.l1 at H;refine sr (tq (bN rfl rfl) (nt (aj ?_)));refine am rfl (fun g3=>?_) (fun g3=>?_)
  ·replace H:=H.1 g3;refine au (aa (aj (aB (sr ?_))));obtain ⟨a4,e5,H⟩:=H;refine tq (bf (s:=x7) Tryz.runUnderlying93 Tryz.sizeOf5 rfl rfl e5) ?_;obtain ⟨y6,k7,H⟩:=H;refine th (aD Tryz.isAgg5 rfl) k7 (qa rfl (nt (ai (qm rfl (qm rfl (tq (fN ZBR Zl rfl) (tq (Cw rfl rfl) (tq (i8 rfl rfl) (qa rfl (bo (aI (aa ?_))))))))))));refine ai (tq (bE rfl rfl) (qm rfl (nt ?_)));exact ah [(3,(.int .u64 (IntKind.wrap .u64 ((cj .xor .u64 x3 (IntKind.wrap .u64 y6))*1099511628211)))),(7,x7.enc),(8,(.int .i64 x8)),(9,(.int .i64 (IntKind.wrap .i64 (x9+1))))] ⟨rfl,rfl,rfl,rfl,tv⟩ ⟨_,_,_,_,rfl,H⟩
  ·replace H:=H.2 g3;refine bC (aF (aF (bV (aa (sr (qm rfl (qa rfl (nt (al ?_)))))))));exact an rfl rfl ⟨_,rfl,H⟩
def F.xco (p0:Option Addr) (p1:ByteArray) (h:H) (Q:Int->H->Prop):Prop:=
  nn p0 fun a1 =>
  ldL h (a1.add 0) fun y3 =>
  F.xcq p1 h fun r6 h5 =>
  aA h5 (a1.add 0)=some y3.enc ∧
  ((IntKind.wrap .u64 (y3.len:Int)):Int)≠0 ∧
  Q (IntKind.wrap .i64 (Int.tmod r6 (IntKind.wrap .u64 (y3.len:Int)))) h5
theorem F.xco_ok {p0:Option Addr}{p1:ByteArray}{h:H}{Q:Int->H->Prop}(H:F.xco p0 p1 h Q):Fn PP 10 ([(.pointer p0),(.string p1)]:List Value).toArray h fun r h'=>∃ r0,r=(.int .i64 r0)∧Q r0 h':=by
 unfold F.xco at H;refine aV Tryz.func10 Tryz.ntmps10 rfl rfl fun w0=>(az [(0,(.pointer p0)),(1,(.string p1))] ⟨rfl,rfl,tv⟩ (sr (qa rfl (nt (aj (bv mixed [0,1,0,4,12,28,60,124,255,511,1023] (by kernel_rfl) (gq 0 1 rfl (aw rfl) (gq 2 5 rfl (aw rfl) ?_))))))));obtain ⟨a1,e2,H⟩:=H;refine gq 3 13 rfl (bG rfl e2) (gq 4 29 rfl (ay (off:=0) Z0 fU rfl) ?_);obtain ⟨y3,k4,H⟩:=H;refine gh 5 61 rfl (aD Z3 rfl) k4 (gq 6 125 rfl (bB (ts:=#[]) Zw (o:=y3.ptr) (n:=y3.len) (cap:=y3.cap) rfl) (gq 7 253 rfl (fN Z7 Zl rfl) (g_e 1 255 [(5,fun h=>aA h (a1.add 0)=some y3.enc)] (by kernel_rfl) rfl (by kernel_rfl) (av Tryz.call44 rfl (F.xcq_ok H)) rfl rfl ?_)));rintro _ h5 ⟨r6,rfl,H⟩;obtain ⟨k7,H⟩:=H;refine ⟨And.intro k7 trivial,?_⟩;obtain ⟨e8,H⟩:=H;refine gq 8 511 rfl (pz rfl rfl e8) (gq 9 1023 rfl (fN Zl Z7 rfl) (gq 10 2047 rfl (bp rfl) (g_d (by kernel_rfl) (aa (al ?_)))));exact an rfl rfl ⟨_,rfl,H⟩
def F.xcw.l1 (Q:Int->H->Prop):Nat->ByteArray->Int->Int->H->Prop
  | 0,_,_,_,_=>False
  | q1+1,x0,x3,x4,h =>
    ((decide (x4<(x0.size:Int)))=true ->
    rH x0 x4 fun b2 =>
    (F.xcw.l1 Q q1) x0 (IntKind.wrap .u64 ((cj .xor .u64 x3 (IntKind.wrap .u64 b2))*1099511628211)) (IntKind.wrap .i64 (x4+1)) h) ∧
    ((decide (x4<(x0.size:Int)))=false ->
    Q x3 h)
def F.xcw (p0:ByteArray) (h:H) (Q:Int->H->Prop):Prop:=
  ∃ m,F.xcw.l1 Q m p0 14695981039346656037 0 h
theorem F.xcw_ok {p0:ByteArray}{h:H}{Q:Int->H->Prop}(H:F.xcw p0 h Q):Fn PP 45 ([(.string p0)]:List Value).toArray h fun r h'=>∃ r0,r=(.int .u64 r0)∧Q r0 h':=by
 unfold F.xcw at H;refine aV Tryz.func45 Tryz.ntmps45 rfl rfl fun w0=>(az [(0,(.string p0))] ⟨rfl,tv⟩ (sr (qa rfl (nt (sr (qa rfl (nt (aj (aj ?_)))))))));refine ai (qa rfl (nt (aB ?_)));obtain ⟨m4,H⟩:=H;refine az [(0,(.string p0)),(3,(.int .u64 14695981039346656037)),(4,(.int .i64 0))] ⟨rfl,rfl,rfl,tv⟩ ?_;refine aY (fun m L' h=>∃ (x0:ByteArray) (x3:Int) (x4:Int),L'=[(0,(.string x0)),(3,(.int .u64 x3)),(4,(.int .i64 x4))]∧F.xcw.l1 Q m x0 x3 x4 h) ?_ ?_ m4 ⟨_,_,_,rfl,H⟩
 ·rintro L' h ⟨_,_,_,_,H⟩;exact H
 ·rintro q1 L' h ⟨x0,x3,x4,rfl,H⟩;unfold F.xcw.l1 at H;refine aj (sr (qm rfl (qm rfl (tq (jG Zb rfl) (tq (bN rfl rfl) (nt ?_))))));refine am rfl (fun g1=>?_) (fun g1=>?_)
  ·replace H:=H.1 g1;refine au (aa (aj (aB (ai (qm rfl (qm rfl (qm rfl ?_)))))));obtain ⟨b2,e3,H⟩:=H;refine tq (kP Zb rfl rfl e3) (tq (fN ZBR Zl rfl) (tq (Cw rfl rfl) (tq (i8 rfl rfl) (qa rfl (bo (aI (aa (ai (qm rfl (tq (bE rfl rfl) (qa rfl (nt ?_))))))))))));exact ah [(0,(.string x0)),(3,(.int .u64 (IntKind.wrap .u64 ((cj .xor .u64 x3 (IntKind.wrap .u64 b2))*1099511628211)))),(4,(.int .i64 (IntKind.wrap .i64 (x4+1))))] ⟨rfl,rfl,rfl,tv⟩ ⟨_,_,_,rfl,H⟩
  ·replace H:=H.2 g1;refine bC (aF (aF (bV (aa (sr (qm rfl (qa rfl (nt (al ?_)))))))));exact an rfl rfl ⟨_,rfl,H⟩
def F.xdp (p0:Option Addr) (p1:ByteArray) (h:H) (Q:Int->H->Prop):Prop:=
  nn p0 fun a1 =>
  ldL h (a1.add 0) fun y3 =>
  F.xcw p1 h fun r6 h5 =>
  aA h5 (a1.add 0)=some y3.enc ∧
  ((IntKind.wrap .u64 (y3.len:Int)):Int)≠0 ∧
  Q (IntKind.wrap .i64 (Int.tmod r6 (IntKind.wrap .u64 (y3.len:Int)))) h5
theorem F.xdp_ok {p0:Option Addr}{p1:ByteArray}{h:H}{Q:Int->H->Prop}(H:F.xdp p0 p1 h Q):Fn PP 11 ([(.pointer p0),(.string p1)]:List Value).toArray h fun r h'=>∃ r0,r=(.int .i64 r0)∧Q r0 h':=by
 unfold F.xdp at H;refine aV Tryz.func11 Tryz.ntmps11 rfl rfl fun w0=>(az [(0,(.pointer p0)),(1,(.string p1))] ⟨rfl,rfl,tv⟩ (sr (qa rfl (nt (aj (bv mixed [0,1,0,4,12,28,60,124,255,511,1023] (by kernel_rfl) (gq 0 1 rfl (aw rfl) (gq 2 5 rfl (aw rfl) ?_))))))));obtain ⟨a1,e2,H⟩:=H;refine gq 3 13 rfl (bG rfl e2) (gq 4 29 rfl (ay (off:=0) Zg dY rfl) ?_);obtain ⟨y3,k4,H⟩:=H;refine gh 5 61 rfl (aD Zk rfl) k4 (gq 6 125 rfl (bB (ts:=#[]) Zm (o:=y3.ptr) (n:=y3.len) (cap:=y3.cap) rfl) (gq 7 253 rfl (fN Z7 Zl rfl) (g_e 1 255 [(5,fun h=>aA h (a1.add 0)=some y3.enc)] (by kernel_rfl) rfl (by kernel_rfl) (av Tryz.call45 rfl (F.xcw_ok H)) rfl rfl ?_)));rintro _ h5 ⟨r6,rfl,H⟩;obtain ⟨k7,H⟩:=H;refine ⟨And.intro k7 trivial,?_⟩;obtain ⟨e8,H⟩:=H;refine gq 8 511 rfl (pz rfl rfl e8) (gq 9 1023 rfl (fN Zl Z7 rfl) (gq 10 2047 rfl (bp rfl) (g_d (by kernel_rfl) (aa (al ?_)))));exact an rfl rfl ⟨_,rfl,H⟩
def F.xeb (p0:Int) (h:H) (Q:ag->H->Prop):Prop:=
  new h (((⟨0,0,0,0⟩:ag):ag).cells.toArray) gz fun a2 h1 =>
  stH h1 a2 ((⟨1,p0,p0,p0⟩:ag).cells) fun h3 =>
  bh h3 a2 fun y4 =>
  Q y4 h3
theorem F.xeb_ok {p0:Int}{h:H}{Q:ag->H->Prop}(H:F.xeb p0 h Q):Fn PP 16 ([(.int .i64 p0)]:List Value).toArray h fun r h'=>∃ r0,r=(.agg r0.cells.toArray)∧Q r0 h':=by
 unfold F.xeb at H;refine aV Tryz.func16 Tryz.ntmps16 rfl rfl fun w0=>(az [(0,(.int .i64 p0))] ⟨rfl,tv⟩ (sr (te (bJ (cs:=((⟨0,0,0,0⟩:ag):ag).cells.toArray) Zo rfl H) ?_)));rintro _ h1 ⟨a2,rfl,H⟩;refine nt (sr (qm rfl (qm rfl (qm rfl (tq (bO rfl (rB 1 p0 p0 p0)) (te (aK (vs:=(⟨1,p0,p0,p0⟩:ag).cells) ZD rfl rfl ax rfl (by intro v hv;exact bt _ v hv) H) ?_))))));rintro _ h3 ⟨rfl,H⟩;refine nt (al ?_);obtain ⟨y4,k5,H⟩:=H;exact eY rfl (bY ZK ZD rfl rfl k5) ⟨_,rfl,H⟩
def F.xda (p0:Option Addr) (p1:ae) (h:H) (Q:(Option Addr)->H->Prop):Prop:=
  new h p1.cells.toArray cH fun a2 h1 =>
  nn p0 fun a3 =>
  ldL h1 (a3.add 0) fun y5 =>
  ldS h1 (a2.add 1) fun y7 =>
  F.xco p0 y7 h1 fun r10 h9 =>
  aA h9 (a3.add 0)=some y5.enc ∧
  bD y5 r10 1 fun a12 =>
  ldP h9 a12 fun y14 =>
  Q y14 h9
theorem F.xda_ok {p0:Option Addr}{p1:ae}{h:H}{Q:(Option Addr)->H->Prop}(H:F.xda p0 p1 h Q):Fn PP 46 ([(.pointer p0),(.agg p1.cells.toArray)]:List Value).toArray h fun r h'=>∃ r0,r=(.pointer r0)∧Q r0 h':=by
 unfold F.xda at H;refine aV Tryz.func46 Tryz.ntmps46 rfl rfl fun w0=>(az [(0,(.pointer p0)),(1,(.agg p1.cells.toArray))] ⟨rfl,rfl,tv⟩ (sr (te (cb (cs:=p1.cells.toArray) rfl rfl H) ?_)));rintro _ h1 ⟨a2,rfl,H⟩;refine qa rfl (nt (aj (bv mixed [0,1,3,7,0,0,32,112,255,511,1023] (by kernel_rfl) (gq 0 1 rfl (aw rfl) ?_))));obtain ⟨a3,e4,H⟩:=H;refine gq 1 3 rfl (bG rfl e4) (gq 2 7 rfl (ay (off:=0) Z0 fU rfl) ?_);obtain ⟨y5,k6,H⟩:=H;refine gh 3 15 rfl (aD Z3 rfl) k6 (gq 4 31 rfl (aw rfl) (gq 5 63 rfl (ay (off:=1) ZH dS rfl) ?_));obtain ⟨y7,k8,H⟩:=H;refine gh 6 127 rfl (aD ZP rfl) k8 (g_e 7 255 [(3,fun h=>aA h (a3.add 0)=some y5.enc)] (by kernel_rfl) rfl (by kernel_rfl) (av Tryz.call10 rfl (F.xco_ok H)) rfl rfl ?_);rintro _ h9 ⟨r10,rfl,H⟩;obtain ⟨k11,H⟩:=H;refine ⟨And.intro k11 trivial,?_⟩;obtain ⟨a12,e13,H⟩:=H;refine gq 8 511 rfl (bf (s:=y5) Zw ZBG rfl rfl e13) ?_;obtain ⟨y14,k15,H⟩:=H;refine gh 9 1023 rfl (aD ZBH rfl) k15 (gq 10 2047 rfl (bp rfl) (g_d (by kernel_rfl) (aa (al ?_))));exact an rfl rfl ⟨_,rfl,H⟩
def F.xbo.j2 (Q:Int->H->Prop) (x17:Bool) (h:H):Prop:=
  (x17=true ->
  Q 22 h) ∧
  (x17=false ->
  Q 0 h)
def F.xbo.j1 (Q:Int->H->Prop) (x1:Addr) (x3:Bool) (h:H):Prop:=
  (x3=true ->
  Q 23 h) ∧
  (x3=false ->
  ldS h (x1.add 1) fun y4 =>
  ((decide ((y4.size:Int) > 32))=true ->
  Q 21 h) ∧
  ((decide ((y4.size:Int) > 32))=false ->
  ldI .i64 h (x1.add 2) fun y8 =>
  ((decide (y8<(-2305843009213693952)))=true ->
  F.xbo.j2 Q true h) ∧
  ((decide (y8<(-2305843009213693952)))=false ->
  ldI .i64 h (x1.add 2) fun y11 =>
  F.xbo.j2 Q (decide (y11 > 2305843009213693952)) h)))
def F.xbo (p0:ae) (h:H) (Q:Int->H->Prop):Prop:=
  new h p0.cells.toArray cH fun a2 h1 =>
  ldI .i64 h1 (a2.add 0) fun y13 =>
  ((decide (y13<0))=true ->
  F.xbo.j1 Q a2 true h1) ∧
  ((decide (y13<0))=false ->
  ldI .i64 h1 (a2.add 0) fun y16 =>
  F.xbo.j1 Q a2 (decide (y16 > 4)) h1)
theorem F.xbo_ok {p0:ae}{h:H}{Q:Int->H->Prop}(H:F.xbo p0 h Q):Fn PP 109 ([(.agg p0.cells.toArray)]:List Value).toArray h fun r h'=>∃ r0,r=(.int .i64 r0)∧Q r0 h':=by
 unfold F.xbo at H;refine aV Tryz.func109 Tryz.ntmps109 rfl rfl fun w0=>(az [(0,(.agg p0.cells.toArray))] ⟨rfl,tv⟩ (sr (te (cb (cs:=p0.cells.toArray) rfl rfl H) ?_)));rintro _ h1 ⟨a2,rfl,H⟩;refine qa rfl (nt (aj (aB ?_)));refine aG (fun L' h=>∃ (x1:Addr) (x3:Bool),L'=[(1,(.pointer (some x1))),(3,(.bool x3))]∧F.xbo.j1 Q x1 x3 h) ?_ ?_
 ·rintro L' h ⟨x1,x3,rfl,H⟩;unfold F.xbo.j1 at H;refine am rfl (fun g3=>?_) (fun g3=>?_)
  ·replace H:=H.1 g3;refine sr (qa rfl (nt (al (aS (aq ?_)))));exact an rfl rfl ⟨_,rfl,H⟩
  ·replace H:=H.2 g3;refine sr (tq (ay (off:=1) ZH dS rfl) ?_);obtain ⟨y4,k5,H⟩:=H;refine th (aD ZP rfl) k5 (tq (jG Zb rfl) (tq (df rfl rfl) (qa rfl (nt ?_))));refine am rfl (fun g6=>?_) (fun g6=>?_)
   ·replace H:=H.1 g6;refine sr (qa rfl (nt (al (aS (aq ?_)))));exact an rfl rfl ⟨_,rfl,H⟩
   ·replace H:=H.2 g6;refine aG (fun L' h=>∃ (x17:Bool),L'=[(17,(.bool x17))]∧F.xbo.j2 Q x17 h) ?_ ?_
    ·rintro L' h ⟨x17,rfl,H⟩;unfold F.xbo.j2 at H;refine am rfl (fun g7=>?_) (fun g7=>?_)
     ·replace H:=H.1 g7;refine sr (qa rfl (nt (al (aS (aq ?_)))));exact an rfl rfl ⟨_,rfl,H⟩
     ·replace H:=H.2 g7;refine au (aI (aa (sr (qa rfl (nt (al ?_))))));exact an rfl rfl ⟨_,rfl,H⟩
    ·refine ai (tq (ay (off:=2) ZH gA rfl) ?_);obtain ⟨y8,k9,H⟩:=H;refine th (aD ZE rfl) k9 (tq (bN rfl rfl) (qm rfl ?_));refine aT (t:=21) rfl (fun g10=>?_) (fun g10=>?_)
     ·replace H:=H.1 g10;refine ts (ts (ts (tq (aL rfl rfl) (qa rfl (nt ?_)))));exact ah [(17,(.bool true))] ⟨rfl,tv⟩ ⟨_,rfl,H⟩
     ·replace H:=H.2 g10;refine tq (ay (off:=2) ZH gA rfl) ?_;obtain ⟨y11,k12,H⟩:=H;refine th (aD ZE rfl) k12 (tq (df rfl rfl) (tq (aH rfl rfl) (qa rfl (nt ?_))));exact ah [(17,(.bool (decide (y11 > 2305843009213693952))))] ⟨rfl,tv⟩ ⟨_,rfl,H⟩
 ·refine ai (tq (ay (off:=0) ZH fS rfl) ?_);obtain ⟨y13,k14,H⟩:=H;refine th (aD ZC rfl) k14 (tq (bN rfl rfl) (qm rfl ?_));refine aT (t:=7) rfl (fun g15=>?_) (fun g15=>?_)
  ·replace H:=H.1 g15;refine ts (ts (ts (tq (aL rfl rfl) (qa rfl (nt ?_)))));exact ah [(1,(.pointer (some a2))),(3,(.bool true))] ⟨rfl,rfl,tv⟩ ⟨_,_,rfl,H⟩
  ·replace H:=H.2 g15;refine tq (ay (off:=0) ZH fS rfl) ?_;obtain ⟨y16,k17,H⟩:=H;refine th (aD ZC rfl) k17 (tq (df rfl rfl) (tq (aH rfl rfl) (qa rfl (nt ?_))));exact ah [(1,(.pointer (some a2))),(3,(.bool (decide (y16 > 4))))] ⟨rfl,rfl,tv⟩ ⟨_,_,rfl,H⟩
def F.xbk.l2 (Q:ByteArray->Int->H->Prop):Nat->Sl->Int->Int->H->Prop
  | 0,_,_,_,_=>False
  | q2+1,x5,x7,x8,h =>
    ((decide (x8>=0))=true ->
    0<=(x8:Int) ∧
    fv h #[(.int .u8 (IntKind.wrap .u8 (Int.fdiv x7 (2 ^ (min (x8:Int).toNat (IntKind.bits .u64)):Int))))] ul 1 fun s41 h40 =>
    dA PP (Builtin.append_ #[93,93] 93 #[x5.enc,s41.enc]) h40 fun s43 h42 =>
    (F.xbk.l2 Q q2) s43 x7 (IntKind.wrap .i64 (x8-8)) h42) ∧
    ((decide (x8>=0))=false ->
    BT PP (convert 93 9 x5.enc) h fun s45 h44 =>
    Q s45 0 h44)
def F.xbk.l1 (Q:ByteArray->Int->H->Prop):Nat->Addr->Sl->Int->Int->H->Prop
  | 0,_,_,_,_,_=>False
  | q1+1,x1,x5,x20,x21,h =>
    ((decide (x21<x20))=true ->
    ldS h (x1.add 1) fun y15 =>
    rH y15 x21 fun b17 =>
    fv h #[(.int .u8 b17)] ul 1 fun s20 h19 =>
    dA PP (Builtin.append_ #[93,93] 93 #[x5.enc,s20.enc]) h19 fun s22 h21 =>
    ldS h21 (x1.add 1) fun y23 =>
    rH y23 x21 fun b25 =>
    (((b25 == 0))=true ->
    fv h21 #[(.int .u8 255)] ul 1 fun s29 h28 =>
    dA PP (Builtin.append_ #[93,93] 93 #[s22.enc,s29.enc]) h28 fun s31 h30 =>
    (F.xbk.l1 Q q1) x1 s31 x20 (IntKind.wrap .i64 (x21+1)) h30) ∧
    (((b25 == 0))=false ->
    (F.xbk.l1 Q q1) x1 s22 x20 (IntKind.wrap .i64 (x21+1)) h21)) ∧
    ((decide (x21<x20))=false ->
    fv h #[(.int .u8 0),(.int .u8 1)] ul 2 fun s33 h32 =>
    dA PP (Builtin.append_ #[93,93] 93 #[x5.enc,s33.enc]) h32 fun s35 h34 =>
    ldI .i64 h34 (x1.add 2) fun y36 =>
    ∃ m,F.xbk.l2 Q m s35 (IntKind.wrap .u64 ((IntKind.wrap .u64 y36)+9223372036854775808)) 56 h34)
def F.xbk (p0:ae) (h:H) (Q:ByteArray->Int->H->Prop):Prop:=
  new h p0.cells.toArray cH fun a2 h1 =>
  ak h1 a2 fun y3 =>
  F.xbo y3 h1 fun r6 h5 =>
  (((r6 != 0))=true ->
  Q (⟨#[]⟩:ByteArray) r6 h5) ∧
  (((r6 != 0))=false ->
  ldI .i64 h5 (a2.add 0) fun y8 =>
  fv h5 #[(.int .u8 (IntKind.wrap .u8 y8))] ul 1 fun s11 h10 =>
  ldS h10 (a2.add 1) fun y12 =>
  ∃ m,F.xbk.l1 Q m a2 s11 (y12.size:Int) 0 h10)
theorem F.xbk_ok {p0:ae}{h:H}{Q:ByteArray->Int->H->Prop}(H:F.xbk p0 h Q):Fn PP 94 ([(.agg p0.cells.toArray)]:List Value).toArray h fun r h'=>∃ r0 r1,r=.tuple #[(.string r0),(.int .i64 r1)]∧Q r0 r1 h':=by
 unfold F.xbk at H;refine aV Tryz.func94 Tryz.ntmps94 rfl rfl fun w0=>(az [(0,(.agg p0.cells.toArray))] ⟨rfl,tv⟩ (sr (te (cb (cs:=p0.cells.toArray) rfl rfl H) ?_)));rintro _ h1 ⟨a2,rfl,H⟩;refine qa rfl (qa rfl (nt (aj (sr ?_))));obtain ⟨y3,k4,H⟩:=H;refine th (aQ ZB ZA rfl rfl) k4 (te (av Tryz.call109 rfl (F.xbo_ok H)) ?_);rintro _ h5 ⟨r6,rfl,H⟩;refine qa rfl (nt (sr (qm rfl (tq (ey rfl rfl) (nt ?_)))));refine am rfl (fun g7=>?_) (fun g7=>?_)
 ·replace H:=H.1 g7;refine sr (qm rfl (qa rfl (qa rfl (nt (al (aq ?_))))));exact cw rfl rfl rfl ⟨_,_,rfl,H⟩
 ·replace H:=H.2 g7;refine au (aa (sr (tq (ay (off:=0) ZH fS rfl) ?_)));obtain ⟨y8,k9,H⟩:=H;refine th (aD ZC rfl) k9 (tq (fN Z7 ZBR rfl) (te (co (cs:=#[(.int .u8 (IntKind.wrap .u8 y8))]) rfl rfl (jm (IntKind.wrap .u8 y8)) H) ?_));rintro _ h10 ⟨s11,rfl,H⟩;refine qa rfl (nt (aj (sr (tq (ay (off:=1) ZH dS rfl) ?_))));obtain ⟨y12,k13,H⟩:=H;refine th (aD ZP rfl) k13 (tq (jG Zb rfl) (qm rfl (nt (aB ?_))));obtain ⟨m47,H⟩:=H;refine az [(1,(.pointer (some a2))),(5,s11.enc),(20,(.int .i64 (y12.size:Int))),(21,(.int .i64 0))] ⟨rfl,rfl,rfl,rfl,tv⟩ ?_;refine aY (fun m L' h=>∃ (x1:Addr) (x5:Sl) (x20:Int) (x21:Int),L'=[(1,(.pointer (some x1))),(5,x5.enc),(20,(.int .i64 x20)),(21,(.int .i64 x21))]∧F.xbk.l1 Q m x1 x5 x20 x21 h) ?_ ?_ m47 ⟨_,_,_,_,rfl,H⟩
  ·rintro L' h ⟨_,_,_,_,_,H⟩;exact H
  ·rintro q1 L' h ⟨x1,x5,x20,x21,rfl,H⟩;unfold F.xbk.l1 at H;refine sr (tq (bN rfl rfl) (nt (aj ?_)));refine am rfl (fun g14=>?_) (fun g14=>?_)
   ·replace H:=H.1 g14;refine au (aa (aj (aB (sr (qm rfl (qa rfl (nt (sr (qm rfl (tq (ay (off:=1) ZH dS rfl) ?_))))))))));obtain ⟨y15,k16,H⟩:=H;refine th (aD ZP rfl) k16 (qm rfl ?_);obtain ⟨b17,e18,H⟩:=H;refine tq (kP Zb rfl rfl e18) (te (co (cs:=#[(.int .u8 b17)]) rfl rfl (jm b17) H) ?_);rintro _ h19 ⟨s20,rfl,H⟩;refine te (dV rfl H) ?_;rintro _ h21 ⟨s22,rfl,H⟩;refine qa rfl (nt (sr (tq (ay (off:=1) ZH dS rfl) ?_)));obtain ⟨y23,k24,H⟩:=H;refine th (aD ZP rfl) k24 (qm rfl ?_);obtain ⟨b25,e26,H⟩:=H;refine tq (kP Zb rfl rfl e26) (tq (ct rfl rfl) (nt ?_));refine am rfl (fun g27=>?_) (fun g27=>?_)
    ·replace H:=H.1 g27;refine ai (qm rfl (te (co (cs:=#[(.int .u8 255)]) rfl rfl (jm 255) H) ?_));rintro _ h28 ⟨s29,rfl,H⟩;refine te (dV rfl H) ?_;rintro _ h30 ⟨s31,rfl,H⟩;refine qa rfl (bo (aI (aa (ai (tq (bE rfl rfl) (qm rfl (nt ?_)))))));exact ah [(1,(.pointer (some x1))),(5,s31.enc),(20,(.int .i64 x20)),(21,(.int .i64 (IntKind.wrap .i64 (x21+1))))] ⟨rfl,rfl,rfl,rfl,tv⟩ ⟨_,_,_,_,rfl,H⟩
    ·replace H:=H.2 g27;refine au (aI (aa (ai (tq (bE rfl rfl) (qm rfl (nt ?_))))));exact ah [(1,(.pointer (some x1))),(5,s22.enc),(20,(.int .i64 x20)),(21,(.int .i64 (IntKind.wrap .i64 (x21+1))))] ⟨rfl,rfl,rfl,rfl,tv⟩ ⟨_,_,_,_,rfl,H⟩
   ·replace H:=H.2 g14;refine bC (aF (aF (bV (aa (sr (qm rfl (te (co (cs:=#[(.int .u8 0),(.int .u8 1)]) rfl rfl (ux 0 1) H) ?_)))))));rintro _ h32 ⟨s33,rfl,H⟩;refine te (dV rfl H) ?_;rintro _ h34 ⟨s35,rfl,H⟩;refine qa rfl (nt (sr (tq (ay (off:=2) ZH gA rfl) ?_)));obtain ⟨y36,k37,H⟩:=H;refine th (aD ZE rfl) k37 (tq (fN ZBA Zl rfl) (tq (bE rfl rfl) (qa rfl (nt (aj (sr (qa rfl (nt (aB ?_)))))))));obtain ⟨m46,H⟩:=H;refine az [(5,s35.enc),(7,(.int .u64 (IntKind.wrap .u64 ((IntKind.wrap .u64 y36)+9223372036854775808)))),(8,(.int .i64 56))] ⟨rfl,rfl,rfl,tv⟩ ?_;refine aY (fun m L' h=>∃ (x5:Sl) (x7:Int) (x8:Int),L'=[(5,x5.enc),(7,(.int .u64 x7)),(8,(.int .i64 x8))]∧F.xbk.l2 Q m x5 x7 x8 h) ?_ ?_ m46 ⟨_,_,_,rfl,H⟩
    ·rintro L' h ⟨_,_,_,_,H⟩;exact H
    ·rintro q2 L' h ⟨x5,x7,x8,rfl,H⟩;unfold F.xbk.l2 at H;refine aj (sr (qm rfl (tq (jT rfl rfl) (nt ?_))));refine am rfl (fun g38=>?_) (fun g38=>?_)
     ·replace H:=H.1 g38;refine au (aa (aj (aB (ai (qm rfl (qm rfl (qm rfl ?_)))))));obtain ⟨e39,H⟩:=H;refine tq (li rfl rfl e39) (tq (fN Zl ZBR rfl) (te (co (cs:=#[(.int .u8 (IntKind.wrap .u8 (Int.fdiv x7 (2 ^ (min (x8:Int).toNat (IntKind.bits .u64)):Int))))]) rfl rfl (jm (IntKind.wrap .u8 (Int.fdiv x7 (2 ^ (min (x8:Int).toNat (IntKind.bits .u64)):Int)))) H) ?_));rintro _ h40 ⟨s41,rfl,H⟩;refine te (dV rfl H) ?_;rintro _ h42 ⟨s43,rfl,H⟩;refine qa rfl (bo (aI (aa (ai (qm rfl (tq (cJ rfl rfl) (qa rfl (nt ?_))))))));exact ah [(5,s43.enc),(7,(.int .u64 x7)),(8,(.int .i64 (IntKind.wrap .i64 (x8-8))))] ⟨rfl,rfl,rfl,tv⟩ ⟨_,_,_,rfl,H⟩
     ·replace H:=H.2 g38;refine bC (aF (aF (bV (aa (sr (qm rfl (te (zN rfl H) ?_)))))));rintro _ h44 ⟨s45,rfl,H⟩;refine qa rfl (qa rfl (nt (al ?_)));exact cw rfl rfl rfl ⟨_,_,rfl,H⟩
def F.xak.j1 (Q:ByteArray->Int->H->Prop) (x1:Addr) (h:H):Prop:=
  ak h x1 fun y3 =>
  F.xbk y3 h fun r6 r7 h5 =>
  Q r6 r7 h5
def F.xak.j4 (Q:ByteArray->Int->H->Prop) (x1:Addr) (x24:Bool) (h:H):Prop:=
  (x24=true ->
  Q (⟨#[]⟩:ByteArray) 22 h) ∧
  (x24=false ->
  F.xak.j1 Q x1 h)
def F.xak.j3 (Q:ByteArray->Int->H->Prop) (x1:Addr) (x13:Bool) (h:H):Prop:=
  (x13=true ->
  Q (⟨#[]⟩:ByteArray) 21 h) ∧
  (x13=false ->
  ldI .i64 h (x1.add 2) fun y11 =>
  ((decide (y11<(-2305843009213693952)))=true ->
  F.xak.j4 Q x1 true h) ∧
  ((decide (y11<(-2305843009213693952)))=false ->
  ldI .i64 h (x1.add 2) fun y14 =>
  F.xak.j4 Q x1 (decide (y14 > 2305843009213693952)) h))
def F.xak.j2 (Q:ByteArray->Int->H->Prop) (x1:Addr) (x4:Bool) (h:H):Prop:=
  (x4=true ->
  Q (⟨#[]⟩:ByteArray) 23 h) ∧
  (x4=false ->
  ldS h (x1.add 1) fun y16 =>
  ((decide ((y16.size:Int)<1))=true ->
  F.xak.j3 Q x1 true h) ∧
  ((decide ((y16.size:Int)<1))=false ->
  ldS h (x1.add 1) fun y19 =>
  F.xak.j3 Q x1 (decide ((y19.size:Int) > 32)) h))
def F.xak (p0:ae) (h:H) (Q:ByteArray->Int->H->Prop):Prop:=
  new h p0.cells.toArray cH fun a2 h1 =>
  ldI .i64 h1 (a2.add 0) fun y21 =>
  ((decide (y21<0))=true ->
  F.xak.j2 Q a2 true h1) ∧
  ((decide (y21<0))=false ->
  ldI .i64 h1 (a2.add 0) fun y24 =>
  F.xak.j2 Q a2 (decide (y24>=4)) h1)
theorem F.xak_ok {p0:ae}{h:H}{Q:ByteArray->Int->H->Prop}(H:F.xak p0 h Q):Fn PP 56 ([(.agg p0.cells.toArray)]:List Value).toArray h fun r h'=>∃ r0 r1,r=.tuple #[(.string r0),(.int .i64 r1)]∧Q r0 r1 h':=by
 unfold F.xak at H;refine aV Tryz.func56 Tryz.ntmps56 rfl rfl fun w0=>(az [(0,(.agg p0.cells.toArray))] ⟨rfl,tv⟩ (sr (te (cb (cs:=p0.cells.toArray) rfl rfl H) ?_)));rintro _ h1 ⟨a2,rfl,H⟩;refine qa rfl (qa rfl (nt ?_));refine aG (fun L' h=>∃ (x1:Addr),L'=[(1,(.pointer (some x1)))]∧F.xak.j1 Q x1 h) ?_ ?_
 ·rintro L' h ⟨x1,rfl,H⟩;unfold F.xak.j1 at H;refine sr ?_;obtain ⟨y3,k4,H⟩:=H;refine th (aQ ZB ZA rfl rfl) k4 (te (av Tryz.call94 rfl (F.xbk_ok H)) ?_);rintro _ h5 ⟨r6,r7,rfl,H⟩;refine tq (bW rfl rfl) (tq (bW rfl rfl) (qa rfl (qa rfl (nt (al ?_)))));exact cw rfl rfl rfl ⟨_,_,rfl,H⟩
 ·refine aB ?_;refine aG (fun L' h=>∃ (x1:Addr) (x4:Bool),L'=[(1,(.pointer (some x1))),(4,(.bool x4))]∧F.xak.j2 Q x1 x4 h) ?_ ?_
  ·rintro L' h ⟨x1,x4,rfl,H⟩;unfold F.xak.j2 at H;refine am rfl (fun g8=>?_) (fun g8=>?_)
   ·replace H:=H.1 g8;refine sr (qa rfl (qa rfl (nt (al (aS (aq ?_))))));exact cw rfl rfl rfl ⟨_,_,rfl,H⟩
   ·replace H:=H.2 g8;refine aG (fun L' h=>∃ (x1:Addr) (x13:Bool),L'=[(1,(.pointer (some x1))),(13,(.bool x13))]∧F.xak.j3 Q x1 x13 h) ?_ ?_
    ·rintro L' h ⟨x1,x13,rfl,H⟩;unfold F.xak.j3 at H;refine am rfl (fun g9=>?_) (fun g9=>?_)
     ·replace H:=H.1 g9;refine sr (qa rfl (qa rfl (nt (al (aS (aq ?_))))));exact cw rfl rfl rfl ⟨_,_,rfl,H⟩
     ·replace H:=H.2 g9;refine aG (fun L' h=>∃ (x1:Addr) (x24:Bool),L'=[(1,(.pointer (some x1))),(24,(.bool x24))]∧F.xak.j4 Q x1 x24 h) ?_ ?_
      ·rintro L' h ⟨x1,x24,rfl,H⟩;unfold F.xak.j4 at H;refine am rfl (fun g10=>?_) (fun g10=>?_)
       ·replace H:=H.1 g10;refine sr (qa rfl (qa rfl (nt (al (aS (aq ?_))))));exact cw rfl rfl rfl ⟨_,_,rfl,H⟩
       ·replace H:=H.2 g10;refine au (aI (aa ?_));exact ah [(1,(.pointer (some x1)))] ⟨rfl,tv⟩ ⟨_,rfl,H⟩
      ·refine ai (tq (ay (off:=2) ZH gA rfl) ?_);obtain ⟨y11,k12,H⟩:=H;refine th (aD ZE rfl) k12 (tq (bN rfl rfl) (qm rfl ?_));refine aT (t:=28) rfl (fun g13=>?_) (fun g13=>?_)
       ·replace H:=H.1 g13;refine ts (ts (ts (tq (aL rfl rfl) (qa rfl (nt ?_)))));exact ah [(1,(.pointer (some x1))),(24,(.bool true))] ⟨rfl,rfl,tv⟩ ⟨_,_,rfl,H⟩
       ·replace H:=H.2 g13;refine tq (ay (off:=2) ZH gA rfl) ?_;obtain ⟨y14,k15,H⟩:=H;refine th (aD ZE rfl) k15 (tq (df rfl rfl) (tq (aH rfl rfl) (qa rfl (nt ?_))));exact ah [(1,(.pointer (some x1))),(24,(.bool (decide (y14 > 2305843009213693952))))] ⟨rfl,rfl,tv⟩ ⟨_,_,rfl,H⟩
    ·refine ai (tq (ay (off:=1) ZH dS rfl) ?_);obtain ⟨y16,k17,H⟩:=H;refine th (aD ZP rfl) k17 (tq (jG Zb rfl) (tq (bN rfl rfl) (qm rfl ?_)));refine aT (t:=18) rfl (fun g18=>?_) (fun g18=>?_)
     ·replace H:=H.1 g18;refine ts (ts (ts (ts (tq (aL rfl rfl) (qa rfl (nt ?_))))));exact ah [(1,(.pointer (some x1))),(13,(.bool true))] ⟨rfl,rfl,tv⟩ ⟨_,_,rfl,H⟩
     ·replace H:=H.2 g18;refine tq (ay (off:=1) ZH dS rfl) ?_;obtain ⟨y19,k20,H⟩:=H;refine th (aD ZP rfl) k20 (tq (jG Zb rfl) (tq (df rfl rfl) (tq (aH rfl rfl) (qa rfl (nt ?_)))));exact ah [(1,(.pointer (some x1))),(13,(.bool (decide ((y19.size:Int) > 32))))] ⟨rfl,rfl,tv⟩ ⟨_,_,rfl,H⟩
  ·refine ai (tq (ay (off:=0) ZH fS rfl) ?_);obtain ⟨y21,k22,H⟩:=H;refine th (aD ZC rfl) k22 (tq (bN rfl rfl) (qm rfl ?_));refine aT (t:=8) rfl (fun g23=>?_) (fun g23=>?_)
   ·replace H:=H.1 g23;refine ts (ts (ts (tq (aL rfl rfl) (qa rfl (nt ?_)))));exact ah [(1,(.pointer (some a2))),(4,(.bool true))] ⟨rfl,rfl,tv⟩ ⟨_,_,rfl,H⟩
   ·replace H:=H.2 g23;refine tq (ay (off:=0) ZH fS rfl) ?_;obtain ⟨y24,k25,H⟩:=H;refine th (aD ZC rfl) k25 (tq (jT rfl rfl) (tq (aH rfl rfl) (qa rfl (nt ?_))));exact ah [(1,(.pointer (some a2))),(4,(.bool (decide (y24>=4))))] ⟨rfl,rfl,tv⟩ ⟨_,_,rfl,H⟩
def F.xdz (p0:Sl) (p1:ByteArray) (h:H) (Q:Int->H->Prop):Prop:=
  F.xcq p1 h fun r2 h1 =>
  ((IntKind.wrap .u64 (p0.len:Int)):Int)≠0 ∧
  Q (IntKind.wrap .i64 (Int.tmod r2 (IntKind.wrap .u64 (p0.len:Int)))) h1
theorem F.xdz_ok {p0:Sl}{p1:ByteArray}{h:H}{Q:Int->H->Prop}(H:F.xdz p0 p1 h Q):Fn PP 103 ([p0.enc,(.string p1)]:List Value).toArray h fun r h'=>∃ r0,r=(.int .i64 r0)∧Q r0 h':=by
 unfold F.xdz at H;refine aV Tryz.func103 Tryz.ntmps103 rfl rfl fun w0=>(az [(0,p0.enc),(1,(.string p1))] ⟨rfl,rfl,tv⟩ (sr (qa rfl (nt (sr (qm rfl (te (av Tryz.call44 rfl (F.xcq_ok H)) ?_)))))));rintro _ h1 ⟨r2,rfl,H⟩;refine qm rfl (tq (bB (ts:=#[]) ZR (o:=p0.ptr) (n:=p0.len) (cap:=p0.cap) rfl) (tq (fN Z7 Zl rfl) ?_));obtain ⟨e3,H⟩:=H;refine tq (pz rfl rfl e3) (tq (fN Zl Z7 rfl) (qa rfl (nt (al ?_))));exact an rfl rfl ⟨_,rfl,H⟩
def F.xaj.j2 (Q:Int->Bool->H->Prop) (C1:Sl->ByteArray->Int->H->Prop) (x0:Sl) (x1:ByteArray) (x6:Int) (h:H):Prop:=
  ((x0.len:Int):Int)≠0 ∧
  C1 x0 x1 (Int.tmod (IntKind.wrap .i64 (x6+1)) (x0.len:Int)) h
def F.xaj.j3 (Q:Int->Bool->H->Prop) (C1:Sl->ByteArray->Int->H->Prop) (x0:Sl) (x1:ByteArray) (x6:Int) (x38:Bool) (h:H):Prop:=
  (x38=true ->
  Q x6 true h) ∧
  (x38=false ->
  F.xaj.j2 Q C1 x0 x1 x6 h)
def F.xaj.l1 (Q:Int->Bool->H->Prop):Nat->Sl->ByteArray->Int->H->Prop
  | 0,_,_,_,_=>False
  | q1+1,x0,x1,x6,h =>
    bD x0 x6 3 fun a4 =>
    ldI .u8 h (a4.add 0) fun y6 =>
    (((y6 != 0))=true ->
    bD x0 x6 3 fun a11 =>
    ldI .u8 h (a11.add 0) fun y13 =>
    (((y13 == 1))=true ->
    bD x0 x6 3 fun a16 =>
    ldS h (a16.add 1) fun y18 =>
    F.xaj.j3 Q (F.xaj.l1 Q q1) x0 x1 x6 (y18.toList == x1.toList) h) ∧
    (((y13 == 1))=false ->
    F.xaj.j3 Q (F.xaj.l1 Q q1) x0 x1 x6 false h)) ∧
    (((y6 != 0))=false ->
    Q x6 false h)
def F.xaj (p0:Sl) (p1:ByteArray) (h:H) (Q:Int->Bool->H->Prop):Prop:=
  ((((p0.len:Int) == 0))=true ->
  Q 0 false h) ∧
  ((((p0.len:Int) == 0))=false ->
  F.xdz p0 p1 h fun r3 h2 =>
  ∃ m,F.xaj.l1 Q m p0 p1 r3 h2)
theorem F.xaj_ok {p0:Sl}{p1:ByteArray}{h:H}{Q:Int->Bool->H->Prop}(H:F.xaj p0 p1 h Q):Fn PP 102 ([p0.enc,(.string p1)]:List Value).toArray h fun r h'=>∃ r0 r1,r=.tuple #[(.int .i64 r0),(.bool r1)]∧Q r0 r1 h':=by
 unfold F.xaj at H;refine aV Tryz.func102 Tryz.ntmps102 rfl rfl fun w0=>(az [(0,p0.enc),(1,(.string p1))] ⟨rfl,rfl,tv⟩ (sr (qa rfl (qa rfl (nt (aj (sr (qm rfl (tq (bB (ts:=#[]) ZR (o:=p0.ptr) (n:=p0.len) (cap:=p0.cap) rfl) (tq (ct rfl rfl) ?_))))))))));refine nt ?_;refine am rfl (fun g1=>?_) (fun g1=>?_)
 ·replace H:=H.1 g1;refine sr (qa rfl (qa rfl (nt (al (aq ?_)))));exact cw rfl rfl rfl ⟨_,_,rfl,H⟩
 ·replace H:=H.2 g1;refine au (aa (sr (qm rfl (qm rfl (te (av Tryz.call103 rfl (F.xdz_ok H)) ?_)))));rintro _ h2 ⟨r3,rfl,H⟩;refine qa rfl (nt (aj (aB ?_)));obtain ⟨m20,H⟩:=H;refine az [(0,p0.enc),(1,(.string p1)),(6,(.int .i64 r3))] ⟨rfl,rfl,rfl,tv⟩ ?_;refine aY (fun m L' h=>∃ (x0:Sl) (x1:ByteArray) (x6:Int),L'=[(0,x0.enc),(1,(.string x1)),(6,(.int .i64 x6))]∧F.xaj.l1 Q m x0 x1 x6 h) ?_ ?_ m20 ⟨_,_,_,rfl,H⟩
  ·rintro L' h ⟨_,_,_,_,H⟩;exact H
  ·rintro q1 L' h ⟨x0,x1,x6,rfl,H⟩;unfold F.xaj.l1 at H;refine aj (sr (qm rfl (qm rfl ?_)));obtain ⟨a4,e5,H⟩:=H;refine tq (bf (s:=x0) ZR ZT rfl rfl e5) (tq (ay (off:=0) Zx lD rfl) ?_);obtain ⟨y6,k7,H⟩:=H;refine th (aD Tryz.isAgg5 rfl) k7 (tq (ey rfl rfl) (nt ?_));refine am rfl (fun g8=>?_) (fun g8=>?_)
   ·replace H:=H.1 g8;refine au (aa ?_);refine aG (fun L' h=>∃ (x0:Sl) (x1:ByteArray) (x6:Int),L'=[(0,x0.enc),(1,(.string x1)),(6,(.int .i64 x6))]∧F.xaj.j2 Q (F.xaj.l1 Q q1) x0 x1 x6 h) ?_ ?_
    ·rintro L' h ⟨x0,x1,x6,rfl,H⟩;unfold F.xaj.j2 at H;refine ai (qm rfl (tq (bE rfl rfl) (qm rfl (tq (bB (ts:=#[]) ZR (o:=x0.ptr) (n:=x0.len) (cap:=x0.cap) rfl) ?_))));obtain ⟨e9,H⟩:=H;refine tq (pz rfl rfl e9) (qa rfl (nt ?_));exact ah [(0,x0.enc),(1,(.string x1)),(6,(.int .i64 (Int.tmod (IntKind.wrap .i64 (x6+1)) (x0.len:Int))))] ⟨rfl,rfl,rfl,tv⟩ ⟨_,_,_,rfl,H⟩
    ·refine aB ?_;refine aG (fun L' h=>∃ (x0:Sl) (x1:ByteArray) (x6:Int) (x38:Bool),L'=[(0,x0.enc),(1,(.string x1)),(6,(.int .i64 x6)),(38,(.bool x38))]∧F.xaj.j3 Q (F.xaj.l1 Q q1) x0 x1 x6 x38 h) ?_ ?_
     ·rintro L' h ⟨x0,x1,x6,x38,rfl,H⟩;unfold F.xaj.j3 at H;refine am rfl (fun g10=>?_) (fun g10=>?_)
      ·replace H:=H.1 g10;refine sr (qm rfl (qa rfl (qa rfl (nt (al (aS (aq (aq (aS (aq ?_))))))))));exact cw rfl rfl rfl ⟨_,_,rfl,H⟩
      ·replace H:=H.2 g10;refine au (aI (aa ?_));exact ah [(0,x0.enc),(1,(.string x1)),(6,(.int .i64 x6))] ⟨rfl,rfl,rfl,tv⟩ ⟨_,_,_,rfl,H⟩
     ·refine ai (qm rfl (qm rfl ?_));obtain ⟨a11,e12,H⟩:=H;refine tq (bf (s:=x0) ZR ZT rfl rfl e12) (tq (ay (off:=0) Zx lD rfl) ?_);obtain ⟨y13,k14,H⟩:=H;refine th (aD Tryz.isAgg5 rfl) k14 (tq (ct rfl rfl) (qm rfl ?_));refine aT (t:=30) rfl (fun g15=>?_) (fun g15=>?_)
      ·replace H:=H.1 g15;refine qm rfl (qm rfl ?_);obtain ⟨a16,e17,H⟩:=H;refine tq (bf (s:=x0) ZR ZT rfl rfl e17) (tq (ay (off:=1) Zx nv rfl) ?_);obtain ⟨y18,k19,H⟩:=H;refine th (aD ZP rfl) k19 (qm rfl (tq (A2 rfl rfl) (tq (aL rfl rfl) (nt ?_))));exact ah [(0,x0.enc),(1,(.string x1)),(6,(.int .i64 x6)),(38,(.bool (y18.toList == x1.toList)))] ⟨rfl,rfl,rfl,rfl,tv⟩ ⟨_,_,_,_,rfl,H⟩
      ·replace H:=H.2 g15;refine ts (ts (ts (ts (ts (ts (ts (tq (aH rfl rfl) (nt ?_))))))));exact ah [(0,x0.enc),(1,(.string x1)),(6,(.int .i64 x6)),(38,(.bool false))] ⟨rfl,rfl,rfl,rfl,tv⟩ ⟨_,_,_,_,rfl,H⟩
   ·replace H:=H.2 g8;refine bC (aF (aF (bV (aa (sr (qm rfl (qa rfl (qa rfl (nt (al ?_))))))))));exact cw rfl rfl rfl ⟨_,_,rfl,H⟩
def F.xea (p0:Option Addr) (p1:ByteArray) (h:H) (Q:(Option Addr)->H->Prop):Prop:=
  nn p0 fun a1 =>
  ldL h (a1.add 0) fun y3 =>
  F.xaj y3 p1 h fun r6 r7 h5 =>
  (r7=true ->
  nn p0 fun a9 =>
  ldL h5 (a9.add 0) fun y11 =>
  bD y11 r6 3 fun a13 =>
  Q (some a13) h5) ∧
  (r7=false ->
  nn p0 fun a15 =>
  ldL h5 (a15.add 1) fun y17 =>
  F.xaj y17 p1 h5 fun r20 r21 h19 =>
  (r21=true ->
  nn p0 fun a23 =>
  ldL h19 (a23.add 1) fun y25 =>
  bD y25 r20 3 fun a27 =>
  Q (some a27) h19) ∧
  (r21=false ->
  Q none h19))
theorem F.xea_ok {p0:Option Addr}{p1:ByteArray}{h:H}{Q:(Option Addr)->H->Prop}(H:F.xea p0 p1 h Q):Fn PP 107 ([(.pointer p0),(.string p1)]:List Value).toArray h fun r h'=>∃ r0,r=(.pointer r0)∧Q r0 h':=by
 unfold F.xea at H;refine aV Tryz.func107 Tryz.ntmps107 rfl rfl fun w0=>(az [(0,(.pointer p0)),(1,(.string p1))] ⟨rfl,rfl,tv⟩ (sr (qa rfl (nt (aj (sr (qm rfl ?_)))))));obtain ⟨a1,e2,H⟩:=H;refine tq (bG rfl e2) (tq (ay (off:=0) ZF dt rfl) ?_);obtain ⟨y3,k4,H⟩:=H;refine th (aD ZN rfl) k4 (qm rfl (te (av Tryz.call102 rfl (F.xaj_ok H)) ?_));rintro _ h5 ⟨r6,r7,rfl,H⟩;refine qm rfl (tq (bW rfl rfl) (tq (bW rfl rfl) (qa rfl (qa rfl (nt (sr (qm rfl (nt ?_))))))));refine am rfl (fun g8=>?_) (fun g8=>?_)
 ·replace H:=H.1 g8;refine sr (qm rfl ?_);obtain ⟨a9,e10,H⟩:=H;refine tq (bG rfl e10) (tq (ay (off:=0) ZF dt rfl) ?_);obtain ⟨y11,k12,H⟩:=H;refine th (aD ZN rfl) k12 (qm rfl ?_);obtain ⟨a13,e14,H⟩:=H;refine tq (bf (s:=y11) ZR ZT rfl rfl e14) (qa rfl (nt (al (aq ?_))));exact an rfl rfl ⟨_,rfl,H⟩
 ·replace H:=H.2 g8;refine au (aa (aj (sr (qm rfl ?_))));obtain ⟨a15,e16,H⟩:=H;refine tq (bG rfl e16) (tq (ay (off:=1) ZF eT rfl) ?_);obtain ⟨y17,k18,H⟩:=H;refine th (aD ZN rfl) k18 (qm rfl (te (av Tryz.call102 rfl (F.xaj_ok H)) ?_));rintro _ h19 ⟨r20,r21,rfl,H⟩;refine qm rfl (tq (bW rfl rfl) (tq (bW rfl rfl) (qa rfl (qa rfl (nt (sr (qm rfl (nt ?_))))))));refine am rfl (fun g22=>?_) (fun g22=>?_)
  ·replace H:=H.1 g22;refine sr (qm rfl ?_);obtain ⟨a23,e24,H⟩:=H;refine tq (bG rfl e24) (tq (ay (off:=1) ZF eT rfl) ?_);obtain ⟨y25,k26,H⟩:=H;refine th (aD ZN rfl) k26 (qm rfl ?_);obtain ⟨a27,e28,H⟩:=H;refine tq (bf (s:=y25) ZR ZT rfl rfl e28) (qa rfl (nt (al (aq ?_))));exact an rfl rfl ⟨_,rfl,H⟩
  ·replace H:=H.2 g22;refine au (aa (sr (qa rfl (nt (al ?_)))));exact an rfl rfl ⟨_,rfl,H⟩
def F.xdy (p0:Option Addr) (p1:ByteArray) (h:H) (Q:(Option Addr)->Bool->H->Prop):Prop:=
  F.xea p0 p1 h fun r2 h1 =>
  ((!r2.isNone)=true ->
  nn r2 fun a4 =>
  ldP h1 (a4.add 2) fun y6 =>
  Q y6 true h1) ∧
  ((!r2.isNone)=false ->
  Q none false h1)
theorem F.xdy_ok {p0:Option Addr}{p1:ByteArray}{h:H}{Q:(Option Addr)->Bool->H->Prop}(H:F.xdy p0 p1 h Q):Fn PP 64 ([(.pointer p0),(.string p1)]:List Value).toArray h fun r h'=>∃ r0 r1,r=.tuple #[(.pointer r0),(.bool r1)]∧Q r0 r1 h':=by
 unfold F.xdy at H;refine aV Tryz.func64 Tryz.ntmps64 rfl rfl fun w0=>(az [(0,(.pointer p0)),(1,(.string p1))] ⟨rfl,rfl,tv⟩ (sr (qa rfl (qa rfl (nt (aj (sr (qm rfl (qm rfl (te (av Tryz.call107 rfl (F.xea_ok H)) ?_))))))))));rintro _ h1 ⟨r2,rfl,H⟩;refine qa rfl (nt (sr (qm rfl (tq (mW Tryz.runUnderlying174 rfl rfl) (nt ?_)))));refine am rfl (fun g3=>?_) (fun g3=>?_)
 ·replace H:=H.1 g3;refine sr (qm rfl ?_);obtain ⟨a4,e5,H⟩:=H;refine tq (bG rfl e5) (tq (ay (off:=2) Zx lE rfl) ?_);obtain ⟨y6,k7,H⟩:=H;refine th (aD Tryz.isAgg107 rfl) k7 (qa rfl (qa rfl (nt (al (aq ?_)))));exact cw rfl rfl rfl ⟨_,_,rfl,H⟩
 ·replace H:=H.2 g3;refine au (aa (sr (qm rfl (qa rfl (qa rfl (nt (al ?_)))))));exact cw rfl rfl rfl ⟨_,_,rfl,H⟩
def F.xdj (p0:Option Addr) (p1:ae) (h:H) (Q:(Option Addr)->H->Prop):Prop:=
  new h p1.cells.toArray cH fun a2 h1 =>
  ak h1 a2 fun y3 =>
  F.xak y3 h1 fun r6 r7 h5 =>
  (((r7 != 0))=true ->
  Q none h5) ∧
  (((r7 != 0))=false ->
  nn p0 fun a9 =>
  ldP h5 (a9.add 3) fun y11 =>
  F.xdy y11 r6 h5 fun r14 r15 h13 =>
  Q r14 h13)
theorem F.xdj_ok {p0:Option Addr}{p1:ae}{h:H}{Q:(Option Addr)->H->Prop}(H:F.xdj p0 p1 h Q):Fn PP 57 ([(.pointer p0),(.agg p1.cells.toArray)]:List Value).toArray h fun r h'=>∃ r0,r=(.pointer r0)∧Q r0 h':=by
 unfold F.xdj at H;refine aV Tryz.func57 Tryz.ntmps57 rfl rfl fun w0=>(az [(0,(.pointer p0)),(1,(.agg p1.cells.toArray))] ⟨rfl,rfl,tv⟩ (sr (te (cb (cs:=p1.cells.toArray) rfl rfl H) ?_)));rintro _ h1 ⟨a2,rfl,H⟩;refine qa rfl (nt (sr ?_));obtain ⟨y3,k4,H⟩:=H;refine th (aQ ZB ZA rfl rfl) k4 (te (av Tryz.call56 rfl (F.xak_ok H)) ?_);rintro _ h5 ⟨r6,r7,rfl,H⟩;refine qm rfl (tq (bW rfl rfl) (tq (bW rfl rfl) (qa rfl (qa rfl (nt (aj (sr (qm rfl (tq (ey rfl rfl) (nt ?_))))))))));refine am rfl (fun g8=>?_) (fun g8=>?_)
 ·replace H:=H.1 g8;refine sr (qa rfl (nt (al (aq ?_))));exact an rfl rfl ⟨_,rfl,H⟩
 ·replace H:=H.2 g8;refine au (aa (sr (qm rfl ?_)));obtain ⟨a9,e10,H⟩:=H;refine tq (bG rfl e10) (tq (ay (off:=3) ZU kR rfl) ?_);obtain ⟨y11,k12,H⟩:=H;refine th (aD Tryz.isAgg72 rfl) k12 (qm rfl (te (av Tryz.call64 rfl (F.xdy_ok H)) ?_));rintro _ h13 ⟨r14,r15,rfl,H⟩;refine qm rfl (tq (bW rfl rfl) (tq (bW rfl rfl) (qa rfl (qa rfl (nt (sr (qm rfl (qa rfl (nt (al ?_))))))))));exact an rfl rfl ⟨_,rfl,H⟩
def F.xdc (p0:Option Addr) (h:H) (Q:ag->Int->Bool->H->Prop):Prop:=
  new h (((⟨0,0,0,0⟩:ag):ag).cells.toArray) gz fun a2 h1 =>
  nn p0 fun a3 =>
  ldL h1 (a3.add 0) fun y5 =>
  ((((y5.len:Int) == 0))=true ->
  bh h1 a2 fun y8 =>
  stH h1 a2 y8.cells fun h10 =>
  bh h10 a2 fun y11 =>
  Q y11 0 false h10) ∧
  ((((y5.len:Int) == 0))=false ->
  nn p0 fun a13 =>
  ldL h1 (a13.add 0) fun y15 =>
  nn p0 fun a17 =>
  ldL h1 (a17.add 0) fun y19 =>
  bD y15 (IntKind.wrap .i64 ((y19.len:Int)-1)) 6 fun a21 =>
  cr h1 a21 fun y23 =>
  new h1 (((⟨0,(⟨0,0,0,0⟩:ag),false⟩:aM):aM).cells.toArray) mT fun a26 h25 =>
  Cells h25 a21 y23.cells ∧
  aA h25 (a17.add 0)=some y19.enc ∧
  aA h25 (a13.add 0)=some y15.enc ∧
  stH h25 a26 y23.cells fun h30 =>
  bh h30 (a26.add 1) fun y31 =>
  ldI .i64 h30 (a26.add 0) fun y33 =>
  ldB h30 (a26.add 5) fun y35 =>
  stH h30 a2 y31.cells fun h37 =>
  aA h37 (a26.add 5)=some (.bool y35) ∧
  aA h37 (a26.add 0)=some (.int .i64 y33) ∧
  bh h37 a2 fun y40 =>
  Q y40 y33 (!y35) h37)
theorem F.xdc_ok {p0:Option Addr}{h:H}{Q:ag->Int->Bool->H->Prop}(H:F.xdc p0 h Q):Fn PP 65 ([(.pointer p0)]:List Value).toArray h fun r h'=>∃ r0 r1 r2,r=.tuple #[(.agg r0.cells.toArray),(.int .i64 r1),(.bool r2)]∧Q r0 r1 r2 h':=by
 unfold F.xdc at H;refine aV Tryz.func65 Tryz.ntmps65 rfl rfl fun w0=>(az [(0,(.pointer p0))] ⟨rfl,tv⟩ (sr (te (bJ (cs:=((⟨0,0,0,0⟩:ag):ag).cells.toArray) Zo rfl H) ?_)));rintro _ h1 ⟨a2,rfl,H⟩;refine qa rfl (qa rfl (nt (aj (sr (qm rfl ?_)))));obtain ⟨a3,e4,H⟩:=H;refine tq (bG rfl e4) (tq (ay (off:=0) Zp dN rfl) ?_);obtain ⟨y5,k6,H⟩:=H;refine th (aD Zu rfl) k6 (tq (bB (ts:=#[]) Zc (o:=y5.ptr) (n:=y5.len) (cap:=y5.cap) rfl) (tq (ct rfl rfl) (nt ?_)));refine am rfl (fun g7=>?_) (fun g7=>?_)
 ·replace H:=H.1 g7;refine sr ?_;obtain ⟨y8,k9,H⟩:=H;refine th (aQ ZK ZD rfl rfl) k9 (te (aK (vs:=y8.cells) ZD rfl rfl ax rfl (by intro v hv;exact bt _ v hv) H) ?_);rintro _ h10 ⟨rfl,H⟩;refine qa rfl (qa rfl (nt (al (aq ?_))));obtain ⟨y11,k12,H⟩:=H;exact AU rfl (bY ZK ZD rfl rfl k12) (fm rfl) (fm rfl) ⟨_,_,_,rfl,H⟩
 ·replace H:=H.2 g7;refine au (aa (aj (bv mixed [0,1,3,7,0,16,48,112,240,496,1023,2047,0,8191] (by kernel_rfl) (gq 0 1 rfl (aw rfl) ?_))));obtain ⟨a13,e14,H⟩:=H;refine gq 1 3 rfl (bG rfl e14) (gq 2 7 rfl (ay (off:=0) Zp dN rfl) ?_);obtain ⟨y15,k16,H⟩:=H;refine gh 3 15 rfl (aD Zu rfl) k16 (gq 4 31 rfl (aw rfl) ?_);obtain ⟨a17,e18,H⟩:=H;refine gq 5 63 rfl (bG rfl e18) (gq 6 127 rfl (ay (off:=0) Zp dN rfl) ?_);obtain ⟨y19,k20,H⟩:=H;refine gh 7 255 rfl (aD Zu rfl) k20 (gq 8 511 rfl (bB (ts:=#[]) Zc (o:=y19.ptr) (n:=y19.len) (cap:=y19.cap) rfl) (gq 9 1023 rfl (cJ rfl rfl) ?_));obtain ⟨a21,e22,H⟩:=H;refine gq 10 2047 rfl (bf (s:=y15) Zc Zh rfl rfl e22) ?_;obtain ⟨y23,k24,H⟩:=H;refine gh 11 4095 rfl (aQ ZBN Zh rfl rfl) k24 (g_e 12 8191 [(11,fun h=>Cells h a21 y23.cells),(7,fun h=>aA h (a17.add 0)=some y19.enc),(3,fun h=>aA h (a13.add 0)=some y15.enc)] (by kernel_rfl) rfl (by kernel_rfl) (bJ (cs:=((⟨0,(⟨0,0,0,0⟩:ag),false⟩:aM):aM).cells.toArray) Tryz.zeroValue152 rfl H) rfl rfl ?_);rintro _ h25 ⟨a26,rfl,H⟩;obtain ⟨k27,k28,k29,H⟩:=H;refine ⟨And.intro k27 (And.intro k28 (And.intro k29 trivial)),?_⟩;refine g_e 13 16383 [] (by kernel_rfl) rfl (by kernel_rfl) (aK (vs:=y23.cells) Zh rfl rfl ax rfl (by intro v hv;exact cG _ v hv) H) rfl rfl ?_;rintro _ h30 ⟨rfl,H⟩;refine ⟨trivial,?_⟩;refine g_d (by kernel_rfl) (aa (aj (bv mixed [0,1,0,4,0,16,48,3,143,511] (by kernel_rfl) (gq 0 1 rfl (ay (off:=1) Z8 uH rfl) ?_))));obtain ⟨y31,k32,H⟩:=H;refine gh 1 3 rfl (aQ ZK ZD rfl rfl) k32 (gq 2 7 rfl (ay (off:=0) Z8 lC rfl) ?_);obtain ⟨y33,k34,H⟩:=H;refine gh 3 15 rfl (aD ZC rfl) k34 (gq 4 31 rfl (ay (off:=5) Z8 qC rfl) ?_);obtain ⟨y35,k36,H⟩:=H;refine gh 5 63 rfl (aD Zj rfl) k36 (gq 6 127 rfl (eI rfl) (g_e 7 255 [(5,fun h=>aA h (a26.add 5)=some (.bool y35)),(3,fun h=>aA h (a26.add 0)=some (.int .i64 y33))] (by kernel_rfl) rfl (by kernel_rfl) (aK (vs:=y31.cells) ZD rfl rfl ax rfl (by intro v hv;exact bt _ v hv) H) rfl rfl ?_));rintro _ h37 ⟨rfl,H⟩;obtain ⟨k38,k39,H⟩:=H;refine ⟨And.intro k38 (And.intro k39 trivial),?_⟩;refine gq 8 511 rfl (bp rfl) (gq 9 1023 rfl (bp rfl) (g_d (by kernel_rfl) (aa (al ?_))));obtain ⟨y40,k41,H⟩:=H;exact AU rfl (bY ZK ZD rfl rfl k41) (fm rfl) (fm rfl) ⟨_,_,_,rfl,H⟩
def F.xbp.j2 (Q:Int->H->Prop) (x42:Bool) (h:H):Prop:=
  (x42=true ->
  Q 1 h) ∧
  (x42=false ->
  Q 2 h)
def F.xbp.j1 (Q:Int->H->Prop) (x1:Int) (x11:Int) (x12:Bool) (x35:Bool) (h:H):Prop:=
  (x35=true ->
  Q 0 h) ∧
  (x35=false ->
  (((x11 == x1))=true ->
  F.xbp.j2 Q true h) ∧
  (((x11 == x1))=false ->
  F.xbp.j2 Q x12 h))
def F.xbp (p0:Option Addr) (p1:Int) (p2:ae) (h:H) (Q:Int->H->Prop):Prop:=
  new h p2.cells.toArray cH fun a2 h1 =>
  ak h1 a2 fun y3 =>
  F.xak y3 h1 fun r6 r7 h5 =>
  (((r7 != 0))=true ->
  Q 0 h5) ∧
  (((r7 != 0))=false ->
  ak h5 a2 fun y9 =>
  F.xdj p0 y9 h5 fun r12 h11 =>
  (r12.isNone=true ->
  Q 2 h11) ∧
  (r12.isNone=false ->
  F.xdc r12 h11 fun r15 r16 r17 h14 =>
  new h14 (((⟨0,0,0,0⟩:ag):ag).cells.toArray) gz fun a19 h18 =>
  stH h18 a19 r15.cells fun h20 =>
  ((decide (r16 > p1))=true ->
  Q 0 h20) ∧
  ((decide (r16 > p1))=false ->
  (((r16 == p1))=true ->
  F.xbp.j1 Q p1 r16 r17 r17 h20) ∧
  (((r16 == p1))=false ->
  F.xbp.j1 Q p1 r16 r17 false h20))))
theorem F.xbp_ok {p0:Option Addr}{p1:Int}{p2:ae}{h:H}{Q:Int->H->Prop}(H:F.xbp p0 p1 p2 h Q):Fn PP 66 ([(.pointer p0),(.int .i64 p1),(.agg p2.cells.toArray)]:List Value).toArray h fun r h'=>∃ r0,r=(.int .i64 r0)∧Q r0 h':=by
 unfold F.xbp at H;refine aV Tryz.func66 Tryz.ntmps66 rfl rfl fun w0=>(az [(0,(.pointer p0)),(1,(.int .i64 p1)),(2,(.agg p2.cells.toArray))] ⟨rfl,rfl,rfl,tv⟩ (sr (te (cb (cs:=p2.cells.toArray) rfl rfl H) ?_)));rintro _ h1 ⟨a2,rfl,H⟩;refine qa rfl (nt (aj (sr ?_)));obtain ⟨y3,k4,H⟩:=H;refine th (aQ ZB ZA rfl rfl) k4 (te (av Tryz.call56 rfl (F.xak_ok H)) ?_);rintro _ h5 ⟨r6,r7,rfl,H⟩;refine qm rfl (tq (bW rfl rfl) (tq (bW rfl rfl) (qa rfl (qa rfl (nt (sr (qm rfl (tq (ey rfl rfl) (nt ?_)))))))));refine am rfl (fun g8=>?_) (fun g8=>?_)
 ·replace H:=H.1 g8;refine sr (qa rfl (nt (al (aq ?_))));exact an rfl rfl ⟨_,rfl,H⟩
 ·replace H:=H.2 g8;refine au (aa (sr (qm rfl ?_)));obtain ⟨y9,k10,H⟩:=H;refine th (aQ ZB ZA rfl rfl) k10 (te (av Tryz.call57 rfl (F.xdj_ok H)) ?_);rintro _ h11 ⟨r12,rfl,H⟩;refine qa rfl (nt (aj (sr (qm rfl (tq (iG Tryz.runUnderlying107 rfl rfl) (nt ?_))))));refine am rfl (fun g13=>?_) (fun g13=>?_)
  ·replace H:=H.1 g13;refine sr (qa rfl (nt (al (aq ?_))));exact an rfl rfl ⟨_,rfl,H⟩
  ·replace H:=H.2 g13;refine au (aa (sr (qm rfl (te (av Tryz.call65 rfl (F.xdc_ok H)) ?_))));rintro _ h14 ⟨r15,r16,r17,rfl,H⟩;refine qm rfl (tq (bW rfl rfl) (tq (bW rfl rfl) (tq (bW rfl rfl) (te (bJ (cs:=((⟨0,0,0,0⟩:ag):ag).cells.toArray) Zo rfl H) ?_))));rintro _ h18 ⟨a19,rfl,H⟩;refine te (aK (vs:=r15.cells) ZD rfl rfl ax rfl (by intro v hv;exact bt _ v hv) H) ?_;rintro _ h20 ⟨rfl,H⟩;refine qa rfl (qa rfl (nt (aj (aB (sr (qm rfl (qm rfl (tq (df rfl rfl) (qa rfl (nt ?_))))))))));refine am rfl (fun g21=>?_) (fun g21=>?_)
   ·replace H:=H.1 g21;refine sr (qa rfl (nt (al (aS (aq ?_)))));exact an rfl rfl ⟨_,rfl,H⟩
   ·replace H:=H.2 g21;refine aG (fun L' h=>∃ (x1:Int) (x11:Int) (x12:Bool) (x35:Bool),L'=[(1,(.int .i64 x1)),(11,(.int .i64 x11)),(12,(.bool x12)),(35,(.bool x35))]∧F.xbp.j1 Q x1 x11 x12 x35 h) ?_ ?_
    ·rintro L' h ⟨x1,x11,x12,x35,rfl,H⟩;unfold F.xbp.j1 at H;refine am rfl (fun g22=>?_) (fun g22=>?_)
     ·replace H:=H.1 g22;refine sr (qa rfl (nt (al (aS (aq ?_)))));exact an rfl rfl ⟨_,rfl,H⟩
     ·replace H:=H.2 g22;refine aG (fun L' h=>∃ (x42:Bool),L'=[(42,(.bool x42))]∧F.xbp.j2 Q x42 h) ?_ ?_
      ·rintro L' h ⟨x42,rfl,H⟩;unfold F.xbp.j2 at H;refine am rfl (fun g23=>?_) (fun g23=>?_)
       ·replace H:=H.1 g23;refine sr (qa rfl (nt (al (aS (aq ?_)))));exact an rfl rfl ⟨_,rfl,H⟩
       ·replace H:=H.2 g23;refine au (aI (aa (sr (qa rfl (nt (al ?_))))));exact an rfl rfl ⟨_,rfl,H⟩
      ·refine ai (qm rfl (qm rfl (tq (ct rfl rfl) (qm rfl ?_))));refine aT (t:=46) rfl (fun g24=>?_) (fun g24=>?_)
       ·replace H:=H.1 g24;refine ts (tq (aL rfl rfl) (qa rfl (nt ?_)));exact ah [(42,(.bool true))] ⟨rfl,tv⟩ ⟨_,rfl,H⟩
       ·replace H:=H.2 g24;refine qm rfl (tq (aH rfl rfl) (qa rfl (nt ?_)));exact ah [(42,(.bool x12))] ⟨rfl,tv⟩ ⟨_,rfl,H⟩
    ·refine ai (qm rfl (qm rfl (tq (ct rfl rfl) (qm rfl ?_))));refine aT (t:=39) rfl (fun g25=>?_) (fun g25=>?_)
     ·replace H:=H.1 g25;refine qm rfl (tq (aL rfl rfl) (qa rfl (nt ?_)));exact ah [(1,(.int .i64 p1)),(11,(.int .i64 r16)),(12,(.bool r17)),(35,(.bool r17))] ⟨rfl,rfl,rfl,rfl,tv⟩ ⟨_,_,_,_,rfl,H⟩
     ·replace H:=H.2 g25;refine ts (tq (aH rfl rfl) (qa rfl (nt ?_)));exact ah [(1,(.int .i64 p1)),(11,(.int .i64 r16)),(12,(.bool r17)),(35,(.bool false))] ⟨rfl,rfl,rfl,rfl,tv⟩ ⟨_,_,_,_,rfl,H⟩
def F.xbr.j2 (Q:Int->H->Prop) (x12:Bool) (h:H):Prop:=
  (x12=true ->
  Q 32 h) ∧
  (x12=false ->
  Q 0 h)
def F.xbr.j1 (Q:Int->H->Prop) (x0:Option Addr) (x1:Int) (x5:Bool) (h:H):Prop:=
  (x5=true ->
  Q 1 h) ∧
  (x5=false ->
  nn x0 fun a3 =>
  ldL h (a3.add 0) fun y5 =>
  ((decide ((y5.len:Int) > 0))=true ->
  nn x0 fun a8 =>
  ldL h (a8.add 0) fun y10 =>
  nn x0 fun a12 =>
  ldL h (a12.add 0) fun y14 =>
  bD y10 (IntKind.wrap .i64 ((y14.len:Int)-1)) 6 fun a16 =>
  ldI .i64 h (a16.add 0) fun y18 =>
  F.xbr.j2 Q (decide (x1<y18)) h) ∧
  ((decide ((y5.len:Int) > 0))=false ->
  F.xbr.j2 Q false h))
def F.xbr (p0:Option Addr) (p1:Int) (h:H) (Q:Int->H->Prop):Prop:=
  ((decide (p1<1))=true ->
  F.xbr.j1 Q p0 p1 true h) ∧
  ((decide (p1<1))=false ->
  F.xbr.j1 Q p0 p1 (decide (p1 > 1099511627776)) h)
theorem F.xbr_ok {p0:Option Addr}{p1:Int}{h:H}{Q:Int->H->Prop}(H:F.xbr p0 p1 h Q):Fn PP 95 ([(.pointer p0),(.int .i64 p1)]:List Value).toArray h fun r h'=>∃ r0,r=(.int .i64 r0)∧Q r0 h':=by
 unfold F.xbr at H;refine aV Tryz.func95 Tryz.ntmps95 rfl rfl fun w0=>(az [(0,(.pointer p0)),(1,(.int .i64 p1))] ⟨rfl,rfl,tv⟩ (sr (qa rfl (nt (aj (aB ?_))))));refine aG (fun L' h=>∃ (x0:Option Addr) (x1:Int) (x5:Bool),L'=[(0,(.pointer x0)),(1,(.int .i64 x1)),(5,(.bool x5))]∧F.xbr.j1 Q x0 x1 x5 h) ?_ ?_
 ·rintro L' h ⟨x0,x1,x5,rfl,H⟩;unfold F.xbr.j1 at H;refine am rfl (fun g1=>?_) (fun g1=>?_)
  ·replace H:=H.1 g1;refine sr (qa rfl (nt (al (aS (aq ?_)))));exact an rfl rfl ⟨_,rfl,H⟩
  ·replace H:=H.2 g1;refine aG (fun L' h=>∃ (x12:Bool),L'=[(12,(.bool x12))]∧F.xbr.j2 Q x12 h) ?_ ?_
   ·rintro L' h ⟨x12,rfl,H⟩;unfold F.xbr.j2 at H;refine am rfl (fun g2=>?_) (fun g2=>?_)
    ·replace H:=H.1 g2;refine sr (qa rfl (nt (al (aS (aq ?_)))));exact an rfl rfl ⟨_,rfl,H⟩
    ·replace H:=H.2 g2;refine au (aI (aa (sr (qa rfl (nt (al ?_))))));exact an rfl rfl ⟨_,rfl,H⟩
   ·refine bv mixed [0,1,3,7,15,31,63,127,127,383,895,1919,127,4223,12415,28799,61567,127103,262015,524159,1048447,2097151,4194303,8388607] (by kernel_rfl) (gq 0 1 rfl (aw rfl) ?_);obtain ⟨a3,e4,H⟩:=H;refine gq 1 3 rfl (bG rfl e4) (gq 2 7 rfl (ay (off:=0) Zp dN rfl) ?_);obtain ⟨y5,k6,H⟩:=H;refine gh 3 15 rfl (aD Zu rfl) k6 (gq 4 31 rfl (bB (ts:=#[]) Zc (o:=y5.ptr) (n:=y5.len) (cap:=y5.cap) rfl) (gq 5 63 rfl (df rfl rfl) (gq 6 127 rfl (aw rfl) ?_)));refine eO (t:=19) rfl (fun g7=>?_) (fun g7=>?_)
    ·replace H:=H.1 g7;refine gq 7 255 rfl (aw rfl) (gq 8 511 rfl (aw rfl) ?_);obtain ⟨a8,e9,H⟩:=H;refine gq 9 1023 rfl (bG rfl e9) (gq 10 2047 rfl (ay (off:=0) Zp dN rfl) ?_);obtain ⟨y10,k11,H⟩:=H;refine gh 11 4095 rfl (aD Zu rfl) k11 (gq 12 8191 rfl (aw rfl) ?_);obtain ⟨a12,e13,H⟩:=H;refine gq 13 16383 rfl (bG rfl e13) (gq 14 32767 rfl (ay (off:=0) Zp dN rfl) ?_);obtain ⟨y14,k15,H⟩:=H;refine gh 15 65535 rfl (aD Zu rfl) k15 (gq 16 131071 rfl (bB (ts:=#[]) Zc (o:=y14.ptr) (n:=y14.len) (cap:=y14.cap) rfl) (gq 17 262143 rfl (cJ rfl rfl) ?_));obtain ⟨a16,e17,H⟩:=H;refine gq 18 524287 rfl (bf (s:=y10) Zc Zh rfl rfl e17) (gq 19 1048575 rfl (ay (off:=0) Z8 lC rfl) ?_);obtain ⟨y18,k19,H⟩:=H;refine gh 20 2097151 rfl (aD ZC rfl) k19 (gq 21 4194303 rfl (bN rfl rfl) (gq 22 8388607 rfl (aL rfl rfl) (gq 23 16777215 rfl (bp rfl) (g_d (by kernel_rfl) (aa ?_)))));exact ah [(12,(.bool (decide (x1<y18))))] ⟨rfl,tv⟩ ⟨_,rfl,H⟩
    ·replace H:=H.2 g7;refine gs 7 255 rfl (gs 8 511 rfl (gs 9 1023 rfl (gs 10 2047 rfl (gs 11 4095 rfl (gs 12 8191 rfl (gs 13 16383 rfl (gs 14 32767 rfl (gs 15 65535 rfl (gs 16 131071 rfl (gs 17 262143 rfl (gs 18 524287 rfl (gs 19 1048575 rfl (gs 20 2097151 rfl ?_)))))))))))));refine gs 21 4194303 rfl (gq 22 8388607 rfl (aH rfl rfl) (gq 23 16777215 rfl (bp rfl) (g_d (by kernel_rfl) (aa ?_))));exact ah [(12,(.bool false))] ⟨rfl,tv⟩ ⟨_,rfl,H⟩
 ·refine ai (qm rfl (tq (bN rfl rfl) (qm rfl ?_)));refine aT (t:=8) rfl (fun g20=>?_) (fun g20=>?_)
  ·replace H:=H.1 g20;refine ts (ts (tq (aL rfl rfl) (qa rfl (nt ?_))));exact ah [(0,(.pointer p0)),(1,(.int .i64 p1)),(5,(.bool true))] ⟨rfl,rfl,rfl,tv⟩ ⟨_,_,_,rfl,H⟩
  ·replace H:=H.2 g20;refine qm rfl (tq (df rfl rfl) (tq (aH rfl rfl) (qa rfl (nt ?_))));exact ah [(0,(.pointer p0)),(1,(.int .i64 p1)),(5,(.bool (decide (p1 > 1099511627776))))] ⟨rfl,rfl,rfl,tv⟩ ⟨_,_,_,rfl,H⟩
def F.xbn.j1 (Q:Int->H->Prop) (x0:Option Addr) (x3:Addr) (h:H):Prop:=
  nn x0 fun a3 =>
  ldL h (a3.add 0) fun y5 =>
  cr h x3 fun y7 =>
  fv h ((y7.cells).toArray) mT 1 fun s10 h9 =>
  aA h9 (a3.add 0)=some y5.enc ∧
  dA PP (Builtin.append_ #[162,162] 162 #[y5.enc,s10.enc]) h9 fun s13 h12 =>
  nn x0 fun a14 =>
  stH h12 (a14.add 0) [s13.enc] fun h16 =>
  Q 1 h16
def F.xbn.j2 (Q:Int->H->Prop) (x0:Option Addr) (x3:Addr) (x5:Int) (x26:Bool) (h:H):Prop:=
  (x26=true ->
  nn x0 fun a22 =>
  ldL h (a22.add 0) fun y24 =>
  cr h x3 fun y26 =>
  bD y24 (IntKind.wrap .i64 (x5-1)) 6 fun a28 =>
  stH h a28 y26.cells fun h30 =>
  Q 0 h30) ∧
  (x26=false ->
  F.xbn.j1 Q x0 x3 h)
def F.xbn (p0:Option Addr) (p1:aM) (h:H) (Q:Int->H->Prop):Prop:=
  new h p1.cells.toArray mT fun a2 h1 =>
  nn p0 fun a17 =>
  ldL h1 (a17.add 0) fun y19 =>
  ((decide ((y19.len:Int) > 0))=true ->
  nn p0 fun a32 =>
  ldL h1 (a32.add 0) fun y34 =>
  bD y34 (IntKind.wrap .i64 ((y19.len:Int)-1)) 6 fun a36 =>
  ldI .i64 h1 (a36.add 0) fun y38 =>
  ldI .i64 h1 (a2.add 0) fun y40 =>
  F.xbn.j2 Q p0 a2 (y19.len:Int) ((y38 == y40)) h1) ∧
  ((decide ((y19.len:Int) > 0))=false ->
  F.xbn.j2 Q p0 a2 (y19.len:Int) false h1)
theorem F.xbn_ok {p0:Option Addr}{p1:aM}{h:H}{Q:Int->H->Prop}(H:F.xbn p0 p1 h Q):Fn PP 96 ([(.pointer p0),(.agg p1.cells.toArray)]:List Value).toArray h fun r h'=>∃ r0,r=(.int .i64 r0)∧Q r0 h':=by
 unfold F.xbn at H;refine aV Tryz.func96 Tryz.ntmps96 rfl rfl fun w0=>(az [(0,(.pointer p0)),(1,(.agg p1.cells.toArray))] ⟨rfl,rfl,tv⟩ (sr (te (cb (cs:=p1.cells.toArray) rfl rfl H) ?_)));rintro _ h1 ⟨a2,rfl,H⟩;refine qa rfl (nt ?_);refine aG (fun L' h=>∃ (x0:Option Addr) (x3:Addr),L'=[(0,(.pointer x0)),(3,(.pointer (some x3)))]∧F.xbn.j1 Q x0 x3 h) ?_ ?_
 ·rintro L' h ⟨x0,x3,rfl,H⟩;unfold F.xbn.j1 at H;refine aj (bv mixed [0,0,2,6,14,0,32,126,255,511,1023] (by kernel_rfl) (gq 0 1 rfl (aw rfl) (gq 1 3 rfl (aw rfl) ?_)));obtain ⟨a3,e4,H⟩:=H;refine gq 2 7 rfl (bG rfl e4) (gq 3 15 rfl (ay (off:=0) Zp dN rfl) ?_);obtain ⟨y5,k6,H⟩:=H;refine gh 4 31 rfl (aD Zu rfl) k6 ?_;obtain ⟨y7,k8,H⟩:=H;refine gh 5 63 rfl (aQ ZBN Zh rfl rfl) k8 (g_e 6 127 [(4,fun h=>aA h (a3.add 0)=some y5.enc)] (by kernel_rfl) rfl (by kernel_rfl) (co (cs:=(y7.cells).toArray) rfl rfl (qq y7) H) rfl rfl ?_);rintro _ h9 ⟨s10,rfl,H⟩;obtain ⟨k11,H⟩:=H;refine ⟨And.intro k11 trivial,?_⟩;refine g_e 7 255 [] (by kernel_rfl) rfl (by kernel_rfl) (dV rfl H) rfl rfl ?_;rintro _ h12 ⟨s13,rfl,H⟩;refine ⟨trivial,?_⟩;obtain ⟨a14,e15,H⟩:=H;refine gq 8 511 rfl (bG rfl e15) (gq 9 1023 rfl (ay (off:=0) Zp dN rfl) (g_e 10 2047 [] (by kernel_rfl) rfl (by kernel_rfl) (aK (vs:=[s13.enc]) Tryz.sizeOf162 rfl rfl rfl rfl (de rfl) H) rfl rfl ?_));rintro _ h16 ⟨rfl,H⟩;refine ⟨trivial,?_⟩;refine g_d (by kernel_rfl) (aa (sr (qa rfl (nt (al ?_)))));exact an rfl rfl ⟨_,rfl,H⟩
 ·refine sr (qm rfl ?_);obtain ⟨a17,e18,H⟩:=H;refine tq (bG rfl e18) (tq (ay (off:=0) Zp dN rfl) ?_);obtain ⟨y19,k20,H⟩:=H;refine th (aD Zu rfl) k20 (tq (bB (ts:=#[]) Zc (o:=y19.ptr) (n:=y19.len) (cap:=y19.cap) rfl) (qa rfl (nt ?_)));refine aG (fun L' h=>∃ (x0:Option Addr) (x3:Addr) (x5:Int) (x26:Bool),L'=[(0,(.pointer x0)),(3,(.pointer (some x3))),(5,(.int .i64 x5)),(26,(.bool x26))]∧F.xbn.j2 Q x0 x3 x5 x26 h) ?_ ?_
  ·rintro L' h ⟨x0,x3,x5,x26,rfl,H⟩;unfold F.xbn.j2 at H;refine am rfl (fun g21=>?_) (fun g21=>?_)
   ·replace H:=H.1 g21;refine aj (bv mixed [0,1,3,7,0,16,0,127,255] (by kernel_rfl) (gq 0 1 rfl (aw rfl) ?_));obtain ⟨a22,e23,H⟩:=H;refine gq 1 3 rfl (bG rfl e23) (gq 2 7 rfl (ay (off:=0) Zp dN rfl) ?_);obtain ⟨y24,k25,H⟩:=H;refine gh 3 15 rfl (aD Zu rfl) k25 (gq 4 31 rfl (aw rfl) (gq 5 63 rfl (cJ rfl rfl) ?_));obtain ⟨y26,k27,H⟩:=H;refine gh 6 127 rfl (aQ ZBN Zh rfl rfl) k27 ?_;obtain ⟨a28,e29,H⟩:=H;refine gq 7 255 rfl (bf (s:=y24) Zc Zh rfl rfl e29) (g_e 8 511 [] (by kernel_rfl) rfl (by kernel_rfl) (aK (vs:=y26.cells) Zh rfl rfl ax rfl (by intro v hv;exact cG _ v hv) H) rfl rfl ?_);rintro _ h30 ⟨rfl,H⟩;refine ⟨trivial,?_⟩;refine g_d (by kernel_rfl) (aa (sr (qa rfl (nt (al (aq ?_))))));exact an rfl rfl ⟨_,rfl,H⟩
   ·replace H:=H.2 g21;refine au (aa ?_);exact ah [(0,(.pointer x0)),(3,(.pointer (some x3)))] ⟨rfl,rfl,tv⟩ ⟨_,_,rfl,H⟩
  ·refine bv mixed [0,1,3,7,15,31,63,7,135,511,1023,2047,7,4103,16383,32767] (by kernel_rfl) (gq 0 1 rfl (aw rfl) (gq 1 3 rfl (df rfl rfl) (gq 2 7 rfl (aw rfl) ?_)));refine eO (t:=13) rfl (fun g31=>?_) (fun g31=>?_)
   ·replace H:=H.1 g31;refine gq 3 15 rfl (aw rfl) ?_;obtain ⟨a32,e33,H⟩:=H;refine gq 4 31 rfl (bG rfl e33) (gq 5 63 rfl (ay (off:=0) Zp dN rfl) ?_);obtain ⟨y34,k35,H⟩:=H;refine gh 6 127 rfl (aD Zu rfl) k35 (gq 7 255 rfl (aw rfl) (gq 8 511 rfl (cJ rfl rfl) ?_));obtain ⟨a36,e37,H⟩:=H;refine gq 9 1023 rfl (bf (s:=y34) Zc Zh rfl rfl e37) (gq 10 2047 rfl (ay (off:=0) Z8 lC rfl) ?_);obtain ⟨y38,k39,H⟩:=H;refine gh 11 4095 rfl (aD ZC rfl) k39 (gq 12 8191 rfl (ay (off:=0) Z8 lC rfl) ?_);obtain ⟨y40,k41,H⟩:=H;refine gh 13 16383 rfl (aD ZC rfl) k41 (gq 14 32767 rfl (ct rfl rfl) (gq 15 65535 rfl (aL rfl rfl) (g_d (by kernel_rfl) (aa ?_))));exact ah [(0,(.pointer p0)),(3,(.pointer (some a2))),(5,(.int .i64 (y19.len:Int))),(26,(.bool ((y38 == y40))))] ⟨rfl,rfl,rfl,rfl,tv⟩ ⟨_,_,_,_,rfl,H⟩
   ·replace H:=H.2 g31;refine gs 3 15 rfl (gs 4 31 rfl (gs 5 63 rfl (gs 6 127 rfl (gs 7 255 rfl (gs 8 511 rfl (gs 9 1023 rfl (gs 10 2047 rfl (gs 11 4095 rfl (gs 12 8191 rfl (gs 13 16383 rfl (gs 14 32767 rfl (gq 15 65535 rfl (aH rfl rfl) (g_d (by kernel_rfl) ?_)))))))))))));refine aa ?_;exact ah [(0,(.pointer p0)),(3,(.pointer (some a2))),(5,(.int .i64 (y19.len:Int))),(26,(.bool false))] ⟨rfl,rfl,rfl,rfl,tv⟩ ⟨_,_,_,_,rfl,H⟩
def F.xeq (p0:Option Addr) (p1:Int) (p2:ag) (h:H) (Q:Int->Int->H->Prop):Prop:=
  new h p2.cells.toArray gz fun a2 h1 =>
  F.xbr p0 p1 h1 fun r4 h3 =>
  (((r4 != 0))=true ->
  Q 0 r4 h3) ∧
  (((r4 != 0))=false ->
  bh h3 a2 fun y6 =>
  F.xbn p0 (⟨p1,y6,false⟩:aM) h3 fun r9 h8 =>
  Q r9 0 h8)
theorem F.xeq_ok {p0:Option Addr}{p1:Int}{p2:ag}{h:H}{Q:Int->Int->H->Prop}(H:F.xeq p0 p1 p2 h Q):Fn PP 69 ([(.pointer p0),(.int .i64 p1),(.agg p2.cells.toArray)]:List Value).toArray h fun r h'=>∃ r0 r1,r=.tuple #[(.int .i64 r0),(.int .i64 r1)]∧Q r0 r1 h':=by
 unfold F.xeq at H;refine aV Tryz.func69 Tryz.ntmps69 rfl rfl fun w0=>(az [(0,(.pointer p0)),(1,(.int .i64 p1)),(2,(.agg p2.cells.toArray))] ⟨rfl,rfl,rfl,tv⟩ (sr (te (cb (cs:=p2.cells.toArray) rfl rfl H) ?_)));rintro _ h1 ⟨a2,rfl,H⟩;refine qa rfl (qa rfl (nt (aj (sr (qm rfl (qm rfl (te (av Tryz.call95 rfl (F.xbr_ok H)) ?_)))))));rintro _ h3 ⟨r4,rfl,H⟩;refine qa rfl (nt (sr (qm rfl (tq (ey rfl rfl) (nt ?_)))));refine am rfl (fun g5=>?_) (fun g5=>?_)
 ·replace H:=H.1 g5;refine sr (qm rfl (qa rfl (qa rfl (nt (al (aq ?_))))));exact cw rfl rfl rfl ⟨_,_,rfl,H⟩
 ·replace H:=H.2 g5;refine au (aa (sr (qm rfl (qm rfl ?_))));obtain ⟨y6,k7,H⟩:=H;refine th (aQ ZK ZD rfl rfl) k7 (tq (bO rfl (vO p1 y6)) (te (av Tryz.call96 rfl (F.xbn_ok H)) ?_));rintro _ h8 ⟨r9,rfl,H⟩;refine qa rfl (qa rfl (nt (al ?_)));exact cw rfl rfl rfl ⟨_,_,rfl,H⟩
def F.xee  (h:H) (Q:(Option Addr)->H->Prop):Prop:=
  new h ((⟨(⟨none,0,0⟩:Sl)⟩:dM).cells.toArray) Dr fun a2 h1 =>
  Q (some a2) h1
theorem F.xee_ok  {h:H}{Q:(Option Addr)->H->Prop}(H:F.xee  h Q):Fn PP 67 ([]:List Value).toArray h fun r h'=>∃ r0,r=(.pointer r0)∧Q r0 h':=by
 unfold F.xee at H;refine aV Tryz.func67 Tryz.ntmps67 rfl rfl fun w0=>(az [] trivial (sr (qa rfl (nt (sr (tq (bO rfl (Ba )) (te (cb (cs:=(⟨(⟨none,0,0⟩:Sl)⟩:dM).cells.toArray) rfl rfl H) ?_)))))));rintro _ h1 ⟨a2,rfl,H⟩;refine qa rfl (nt (al ?_));exact an rfl rfl ⟨_,rfl,H⟩
def F.xfd (p0:Option Addr) (h:H) (Q:Int->H->Prop):Prop:=
  nn p0 fun a1 =>
  ldL h (a1.add 1) fun y3 =>
  nn p0 fun a5 =>
  ldI .i64 h (a5.add 2) fun y7 =>
  Q (IntKind.wrap .i64 ((y3.len:Int)-y7)) h
theorem F.xfd_ok {p0:Option Addr}{h:H}{Q:Int->H->Prop}(H:F.xfd p0 h Q):Fn PP 128 ([(.pointer p0)]:List Value).toArray h fun r h'=>∃ r0,r=(.int .i64 r0)∧Q r0 h':=by
 unfold F.xfd at H;refine aV Tryz.func128 Tryz.ntmps128 rfl rfl fun w0=>(az [(0,(.pointer p0))] ⟨rfl,tv⟩ (sr (qa rfl (nt (aj (bv mixed [0,1,3,7,15,0,32,96,224,511,1023] (by kernel_rfl) (gq 0 1 rfl (aw rfl) ?_)))))));obtain ⟨a1,e2,H⟩:=H;refine gq 1 3 rfl (bG rfl e2) (gq 2 7 rfl (ay (off:=1) ZF eT rfl) ?_);obtain ⟨y3,k4,H⟩:=H;refine gh 3 15 rfl (aD ZN rfl) k4 (gq 4 31 rfl (bB (ts:=#[]) ZR (o:=y3.ptr) (n:=y3.len) (cap:=y3.cap) rfl) (gq 5 63 rfl (aw rfl) ?_));obtain ⟨a5,e6,H⟩:=H;refine gq 6 127 rfl (bG rfl e6) (gq 7 255 rfl (ay (off:=2) ZF iM rfl) ?_);obtain ⟨y7,k8,H⟩:=H;refine gh 8 511 rfl (aD ZC rfl) k8 (gq 9 1023 rfl (cJ rfl rfl) (gq 10 2047 rfl (bp rfl) (g_d (by kernel_rfl) (aa (al ?_)))));exact an rfl rfl ⟨_,rfl,H⟩
def F.xag.j3 (Q:Int->H->Prop) (C1:(Option Addr)->Int->H->Prop) (x0:Option Addr) (x1:Int) (h:H):Prop:=
  C1 x0 (IntKind.wrap .i64 (x1-1)) h
def F.xag.j4 (Q:Int->H->Prop) (C1:(Option Addr)->Int->H->Prop) (x0:Option Addr) (x1:Int) (h:H):Prop:=
  nn x0 fun a1 =>
  ldI .i64 h (a1.add 2) fun y3 =>
  nn x0 fun a5 =>
  stH h (a5.add 2) [(.int .i64 (IntKind.wrap .i64 (y3+1)))] fun h7 =>
  F.xag.j3 Q C1 x0 x1 h7
def F.xag.j2 (Q:Int->H->Prop) (C1:(Option Addr)->Int->H->Prop) (x0:Option Addr) (x1:Int) (h:H):Prop:=
  nn x0 fun a8 =>
  ldL h (a8.add 1) fun y10 =>
  nn x0 fun a12 =>
  ldI .i64 h (a12.add 2) fun y14 =>
  bD y10 y14 3 fun a16 =>
  ldI .u8 h (a16.add 0) fun y18 =>
  (((y18 == 1))=true ->
  nn x0 fun a21 =>
  ldL h (a21.add 0) fun y23 =>
  ldS h (a16.add 1) fun y25 =>
  F.xaj y23 y25 h fun r28 r29 h27 =>
  nn x0 fun a30 =>
  ldL h27 (a30.add 0) fun y32 =>
  dj h27 a16 fun y34 =>
  bD y32 r28 3 fun a36 =>
  stH h27 a36 y34.cells fun h38 =>
  stH h38 a16 ((⟨2,(⟨#[]⟩:ByteArray),none⟩:aE).cells) fun h39 =>
  F.xag.j4 Q C1 x0 x1 h39) ∧
  (((y18 == 1))=false ->
  F.xag.j4 Q C1 x0 x1 h)
def F.xag.j6 (Q:Int->H->Prop) (x0:Option Addr) (h:H):Prop:=
  F.xfd x0 h fun r42 h41 =>
  Q r42 h41
def F.xag.j5 (Q:Int->H->Prop) (C1:(Option Addr)->Int->H->Prop) (x0:Option Addr) (x1:Int) (x21:Bool) (h:H):Prop:=
  (x21=true ->
  F.xag.j2 Q C1 x0 x1 h) ∧
  (x21=false ->
  nn x0 fun a43 =>
  ldI .i64 h (a43.add 2) fun y45 =>
  nn x0 fun a47 =>
  ldL h (a47.add 1) fun y49 =>
  (((y45 == (y49.len:Int)))=true ->
  nn x0 fun a52 =>
  stH h (a52.add 1) [(⟨none,0,0⟩:Sl).enc] fun h54 =>
  nn x0 fun a55 =>
  stH h54 (a55.add 2) [(.int .i64 0)] fun h57 =>
  F.xag.j6 Q x0 h57) ∧
  (((y45 == (y49.len:Int)))=false ->
  F.xag.j6 Q x0 h))
def F.xag.l1 (Q:Int->H->Prop):Nat->(Option Addr)->Int->H->Prop
  | 0,_,_,_=>False
  | q1+1,x0,x1,h =>
    ((decide (x1 > 0))=true ->
    nn x0 fun a59 =>
    ldI .i64 h (a59.add 2) fun y61 =>
    nn x0 fun a63 =>
    ldL h (a63.add 1) fun y65 =>
    F.xag.j5 Q (F.xag.l1 Q q1) x0 x1 (decide (y61<(y65.len:Int))) h) ∧
    ((decide (x1 > 0))=false ->
    F.xag.j5 Q (F.xag.l1 Q q1) x0 x1 false h)
def F.xag (p0:Option Addr) (p1:Int) (h:H) (Q:Int->H->Prop):Prop:=
  ∃ m,F.xag.l1 Q m p0 p1 h
theorem F.xag_ok {p0:Option Addr}{p1:Int}{h:H}{Q:Int->H->Prop}(H:F.xag p0 p1 h Q):Fn PP 101 ([(.pointer p0),(.int .i64 p1)]:List Value).toArray h fun r h'=>∃ r0,r=(.int .i64 r0)∧Q r0 h':=by
 unfold F.xag at H;refine aV Tryz.func101 Tryz.ntmps101 rfl rfl fun w0=>(az [(0,(.pointer p0)),(1,(.int .i64 p1))] ⟨rfl,rfl,tv⟩ (sr (qa rfl (nt (aj (aB ?_))))));obtain ⟨m67,H⟩:=H;refine az [(0,(.pointer p0)),(1,(.int .i64 p1))] ⟨rfl,rfl,tv⟩ ?_;refine aY (fun m L' h=>∃ (x0:Option Addr) (x1:Int),L'=[(0,(.pointer x0)),(1,(.int .i64 x1))]∧F.xag.l1 Q m x0 x1 h) ?_ ?_ m67 ⟨_,_,rfl,H⟩
 ·rintro L' h ⟨_,_,_,H⟩;exact H
 ·rintro q1 L' h ⟨x0,x1,rfl,H⟩;unfold F.xag.l1 at H;refine aG (fun L' h=>∃ (x0:Option Addr) (x1:Int),L'=[(0,(.pointer x0)),(1,(.int .i64 x1))]∧F.xag.j2 Q (F.xag.l1 Q q1) x0 x1 h) ?_ ?_
  ·rintro L' h ⟨x0,x1,rfl,H⟩;unfold F.xag.j2 at H;refine aG (fun L' h=>∃ (x0:Option Addr) (x1:Int),L'=[(0,(.pointer x0)),(1,(.int .i64 x1))]∧F.xag.j3 Q (F.xag.l1 Q q1) x0 x1 h) ?_ ?_
   ·rintro L' h ⟨x0,x1,rfl,H⟩;unfold F.xag.j3 at H;refine ai (qm rfl (tq (cJ rfl rfl) (qa rfl (nt ?_))));exact ah [(0,(.pointer x0)),(1,(.int .i64 (IntKind.wrap .i64 (x1-1))))] ⟨rfl,rfl,tv⟩ ⟨_,_,rfl,H⟩
   ·refine aB ?_;refine aG (fun L' h=>∃ (x0:Option Addr) (x1:Int),L'=[(0,(.pointer x0)),(1,(.int .i64 x1))]∧F.xag.j4 Q (F.xag.l1 Q q1) x0 x1 h) ?_ ?_
    ·rintro L' h ⟨x0,x1,rfl,H⟩;unfold F.xag.j4 at H;refine ai (qm rfl ?_);obtain ⟨a1,e2,H⟩:=H;refine tq (bG rfl e2) (tq (ay (off:=2) ZF iM rfl) ?_);obtain ⟨y3,k4,H⟩:=H;refine th (aD ZC rfl) k4 (tq (bE rfl rfl) ?_);obtain ⟨a5,e6,H⟩:=H;refine tq (bG rfl e6) (tq (ay (off:=2) ZF iM rfl) (te (aK (vs:=[(.int .i64 (IntKind.wrap .i64 (y3+1)))]) ZQ rfl rfl rfl rfl (de rfl) H) ?_));rintro _ h7 ⟨rfl,H⟩;refine bo (aI (aa ?_));exact ah [(0,(.pointer x0)),(1,(.int .i64 x1))] ⟨rfl,rfl,tv⟩ ⟨_,_,rfl,H⟩
    ·refine aj (bv mixed [0,1,3,7,0,16,48,112,255,511] (by kernel_rfl) (gq 0 1 rfl (aw rfl) ?_));obtain ⟨a8,e9,H⟩:=H;refine gq 1 3 rfl (bG rfl e9) (gq 2 7 rfl (ay (off:=1) ZF eT rfl) ?_);obtain ⟨y10,k11,H⟩:=H;refine gh 3 15 rfl (aD ZN rfl) k11 (gq 4 31 rfl (aw rfl) ?_);obtain ⟨a12,e13,H⟩:=H;refine gq 5 63 rfl (bG rfl e13) (gq 6 127 rfl (ay (off:=2) ZF iM rfl) ?_);obtain ⟨y14,k15,H⟩:=H;refine gh 7 255 rfl (aD ZC rfl) k15 ?_;obtain ⟨a16,e17,H⟩:=H;refine gq 8 511 rfl (bf (s:=y10) ZR ZT rfl rfl e17) (gq 9 1023 rfl (bp rfl) (g_d (by kernel_rfl) (aa (sr (qm rfl (tq (nX rfl) (tq (ay (off:=0) Zx lD rfl) ?_)))))));obtain ⟨y18,k19,H⟩:=H;refine th (aD Tryz.isAgg5 rfl) k19 (tq (ct rfl rfl) (nt ?_));refine am rfl (fun g20=>?_) (fun g20=>?_)
     ·replace H:=H.1 g20;refine aj (bv mixed [0,1,3,7,0,16,48,112,255,511,1023,1023,2047,8191] (by kernel_rfl) (gq 0 1 rfl (aw rfl) ?_));obtain ⟨a21,e22,H⟩:=H;refine gq 1 3 rfl (bG rfl e22) (gq 2 7 rfl (ay (off:=0) ZF dt rfl) ?_);obtain ⟨y23,k24,H⟩:=H;refine gh 3 15 rfl (aD ZN rfl) k24 (gq 4 31 rfl (aw rfl) (gq 5 63 rfl (nX rfl) (gq 6 127 rfl (ay (off:=1) Zx nv rfl) ?_)));obtain ⟨y25,k26,H⟩:=H;refine gh 7 255 rfl (aD ZP rfl) k26 (g_e 8 511 [] (by kernel_rfl) rfl (by kernel_rfl) (av Tryz.call102 rfl (F.xaj_ok H)) rfl rfl ?_);rintro _ h27 ⟨r28,r29,rfl,H⟩;refine ⟨trivial,?_⟩;refine gq 9 1023 rfl (aw rfl) (gq 10 2047 rfl (bW rfl rfl) (gq 11 4095 rfl (bW rfl rfl) (gq 12 8191 rfl (bp rfl) (gq 13 16383 rfl (bp rfl) (g_d (by kernel_rfl) (aa (aj (bv mixed [0,1,3,7,0,0,32,96,255,511] (by kernel_rfl) (gq 0 1 rfl (aw rfl) ?_)))))))));obtain ⟨a30,e31,H⟩:=H;refine gq 1 3 rfl (bG rfl e31) (gq 2 7 rfl (ay (off:=0) ZF dt rfl) ?_);obtain ⟨y32,k33,H⟩:=H;refine gh 3 15 rfl (aD ZN rfl) k33 (gq 4 31 rfl (aw rfl) (gq 5 63 rfl (aw rfl) (gq 6 127 rfl (nX rfl) ?_)));obtain ⟨y34,k35,H⟩:=H;refine gh 7 255 rfl (aQ Tryz.isAgg156 ZT rfl rfl) k35 ?_;obtain ⟨a36,e37,H⟩:=H;refine gq 8 511 rfl (bf (s:=y32) ZR ZT rfl rfl e37) (g_e 9 1023 [] (by kernel_rfl) rfl (by kernel_rfl) (aK (vs:=y34.cells) ZT rfl rfl ax rfl (by intro v hv;exact bM _ v hv) H) rfl rfl ?_);rintro _ h38 ⟨rfl,H⟩;refine ⟨trivial,?_⟩;refine g_d (by kernel_rfl) (aa (ai (qm rfl (tq (bO rfl (uv 2)) (tq (nX rfl) (te (aK (vs:=(⟨2,(⟨#[]⟩:ByteArray),none⟩:aE).cells) ZT rfl rfl ax rfl (by intro v hv;exact bM _ v hv) H) ?_))))));rintro _ h39 ⟨rfl,H⟩;refine nt ?_;exact ah [(0,(.pointer x0)),(1,(.int .i64 x1))] ⟨rfl,rfl,tv⟩ ⟨_,_,rfl,H⟩
     ·replace H:=H.2 g20;refine au (aa ?_);exact ah [(0,(.pointer x0)),(1,(.int .i64 x1))] ⟨rfl,rfl,tv⟩ ⟨_,_,rfl,H⟩
  ·refine aG (fun L' h=>∃ (x0:Option Addr) (x1:Int) (x21:Bool),L'=[(0,(.pointer x0)),(1,(.int .i64 x1)),(21,(.bool x21))]∧F.xag.j5 Q (F.xag.l1 Q q1) x0 x1 x21 h) ?_ ?_
   ·rintro L' h ⟨x0,x1,x21,rfl,H⟩;unfold F.xag.j5 at H;refine am rfl (fun g40=>?_) (fun g40=>?_)
    ·replace H:=H.1 g40;refine au (aa ?_);exact ah [(0,(.pointer x0)),(1,(.int .i64 x1))] ⟨rfl,rfl,tv⟩ ⟨_,_,rfl,H⟩
    ·replace H:=H.2 g40;refine bC (aF (aF (bV (aa ?_))));refine aG (fun L' h=>∃ (x0:Option Addr),L'=[(0,(.pointer x0))]∧F.xag.j6 Q x0 h) ?_ ?_
     ·rintro L' h ⟨x0,rfl,H⟩;unfold F.xag.j6 at H;refine sr (qm rfl (te (av Tryz.call128 rfl (F.xfd_ok H)) ?_));rintro _ h41 ⟨r42,rfl,H⟩;refine qa rfl (nt (al ?_));exact an rfl rfl ⟨_,rfl,H⟩
     ·refine aj (bv mixed [0,1,3,7,0,16,48,112,240,511] (by kernel_rfl) (gq 0 1 rfl (aw rfl) ?_));obtain ⟨a43,e44,H⟩:=H;refine gq 1 3 rfl (bG rfl e44) (gq 2 7 rfl (ay (off:=2) ZF iM rfl) ?_);obtain ⟨y45,k46,H⟩:=H;refine gh 3 15 rfl (aD ZC rfl) k46 (gq 4 31 rfl (aw rfl) ?_);obtain ⟨a47,e48,H⟩:=H;refine gq 5 63 rfl (bG rfl e48) (gq 6 127 rfl (ay (off:=1) ZF eT rfl) ?_);obtain ⟨y49,k50,H⟩:=H;refine gh 7 255 rfl (aD ZN rfl) k50 (gq 8 511 rfl (bB (ts:=#[]) ZR (o:=y49.ptr) (n:=y49.len) (cap:=y49.cap) rfl) (gq 9 1023 rfl (ct rfl rfl) (g_d (by kernel_rfl) (aa ?_))));refine am rfl (fun g51=>?_) (fun g51=>?_)
      ·replace H:=H.1 g51;refine ai (qm rfl (qm rfl ?_));obtain ⟨a52,e53,H⟩:=H;refine tq (bG rfl e53) (tq (ay (off:=1) ZF eT rfl) (te (aK (vs:=[(⟨none,0,0⟩:Sl).enc]) Tryz.sizeOf146 rfl rfl rfl rfl (de rfl) H) ?_));rintro _ h54 ⟨rfl,H⟩;obtain ⟨a55,e56,H⟩:=H;refine tq (bG rfl e56) (tq (ay (off:=2) ZF iM rfl) (te (aK (vs:=[(.int .i64 0)]) ZQ rfl rfl rfl rfl (de rfl) H) ?_));rintro _ h57 ⟨rfl,H⟩;refine nt ?_;exact ah [(0,(.pointer x0))] ⟨rfl,tv⟩ ⟨_,rfl,H⟩
      ·replace H:=H.2 g51;refine au (aa ?_);exact ah [(0,(.pointer x0))] ⟨rfl,tv⟩ ⟨_,rfl,H⟩
   ·refine bv mixed [0,1,3,7,15,31,63,7,135,391,903,1927,4095,8191] (by kernel_rfl) (gq 0 1 rfl (aw rfl) (gq 1 3 rfl (df rfl rfl) (gq 2 7 rfl (aw rfl) ?_)));refine eO (t:=10) rfl (fun g58=>?_) (fun g58=>?_)
    ·replace H:=H.1 g58;refine gq 3 15 rfl (aw rfl) ?_;obtain ⟨a59,e60,H⟩:=H;refine gq 4 31 rfl (bG rfl e60) (gq 5 63 rfl (ay (off:=2) ZF iM rfl) ?_);obtain ⟨y61,k62,H⟩:=H;refine gh 6 127 rfl (aD ZC rfl) k62 (gq 7 255 rfl (aw rfl) ?_);obtain ⟨a63,e64,H⟩:=H;refine gq 8 511 rfl (bG rfl e64) (gq 9 1023 rfl (ay (off:=1) ZF eT rfl) ?_);obtain ⟨y65,k66,H⟩:=H;refine gh 10 2047 rfl (aD ZN rfl) k66 (gq 11 4095 rfl (bB (ts:=#[]) ZR (o:=y65.ptr) (n:=y65.len) (cap:=y65.cap) rfl) (gq 12 8191 rfl (bN rfl rfl) (gq 13 16383 rfl (aL rfl rfl) (g_d (by kernel_rfl) (aa ?_)))));exact ah [(0,(.pointer x0)),(1,(.int .i64 x1)),(21,(.bool (decide (y61<(y65.len:Int)))))] ⟨rfl,rfl,rfl,tv⟩ ⟨_,_,_,rfl,H⟩
    ·replace H:=H.2 g58;refine gs 3 15 rfl (gs 4 31 rfl (gs 5 63 rfl (gs 6 127 rfl (gs 7 255 rfl (gs 8 511 rfl (gs 9 1023 rfl (gs 10 2047 rfl (gs 11 4095 rfl (gs 12 8191 rfl (gq 13 16383 rfl (aH rfl rfl) (g_d (by kernel_rfl) (aa ?_))))))))))));exact ah [(0,(.pointer x0)),(1,(.int .i64 x1)),(21,(.bool false))] ⟨rfl,rfl,rfl,tv⟩ ⟨_,_,_,rfl,H⟩
def F.xcs.j1 (Q:H->Prop) (x0:Option Addr) (x1:ByteArray) (x2:Option Addr) (h:H):Prop:=
  nn x0 fun a9 =>
  ldL h (a9.add 0) fun y11 =>
  F.xaj y11 x1 h fun r14 r15 h13 =>
  nn x0 fun a16 =>
  ldL h13 (a16.add 0) fun y18 =>
  bD y18 r14 3 fun a20 =>
  stH h13 a20 ((⟨1,x1,x2⟩:aE).cells) fun h22 =>
  nn x0 fun a23 =>
  ldI .i64 h22 (a23.add 3) fun y25 =>
  nn x0 fun a27 =>
  stH h22 (a27.add 3) [(.int .i64 (IntKind.wrap .i64 (y25+1)))] fun h29 =>
  Q h29
def F.xcs (p0:Option Addr) (p1:ByteArray) (p2:Option Addr) (h:H) (Q:H->Prop):Prop:=
  F.xag p0 4 h fun r2 h1 =>
  F.xea p0 p1 h1 fun r4 h3 =>
  ((!r4.isNone)=true ->
  nn r4 fun a6 =>
  stH h3 (a6.add 2) [(.pointer p2)] fun h8 =>
  Q h8) ∧
  ((!r4.isNone)=false ->
  nn p0 fun a30 =>
  ldI .i64 h3 (a30.add 3) fun y32 =>
  nn p0 fun a34 =>
  ldL h3 (a34.add 0) fun y36 =>
  ((decide ((IntKind.wrap .i64 (4*(IntKind.wrap .i64 (y32+1)))) > (IntKind.wrap .i64 (3*(y36.len:Int)))))=true ->
  nn p0 fun a39 =>
  ldL h3 (a39.add 1) fun y41 =>
  F.xag p0 (y41.len:Int) h3 fun r44 h43 =>
  nn p0 fun a45 =>
  ldL h43 (a45.add 0) fun y47 =>
  nn p0 fun a49 =>
  ldL h43 (a49.add 0) fun y51 =>
  dA PP (Instr.makeSlice 146 (.int .i64 (IntKind.wrap .i64 (2*(y47.len:Int)))) (.int .i64 (IntKind.wrap .i64 (2*(y47.len:Int))))) h43 fun s54 h53 =>
  aA h53 (a49.add 0)=some y51.enc ∧
  nn p0 fun a56 =>
  stH h53 (a56.add 0) [s54.enc] fun h58 =>
  nn p0 fun a59 =>
  stH h58 (a59.add 1) [y51.enc] fun h61 =>
  nn p0 fun a62 =>
  stH h61 (a62.add 2) [(.int .i64 0)] fun h64 =>
  F.xcs.j1 Q p0 p1 p2 h64) ∧
  ((decide ((IntKind.wrap .i64 (4*(IntKind.wrap .i64 (y32+1)))) > (IntKind.wrap .i64 (3*(y36.len:Int)))))=false ->
  F.xcs.j1 Q p0 p1 p2 h3))
theorem F.xcs_ok {p0:Option Addr}{p1:ByteArray}{p2:Option Addr}{h:H}{Q:H->Prop}(H:F.xcs p0 p1 p2 h Q):Fn PP 68 ([(.pointer p0),(.string p1),(.pointer p2)]:List Value).toArray h fun r h'=>r=.tuple #[]∧Q  h':=by
 unfold F.xcs at H;refine aV Tryz.func68 Tryz.ntmps68 rfl rfl fun w0=>(az [(0,(.pointer p0)),(1,(.string p1)),(2,(.pointer p2))] ⟨rfl,rfl,rfl,tv⟩ (sr (qm rfl (te (av Tryz.call101 rfl (F.xag_ok H)) ?_))));rintro _ h1 ⟨r2,rfl,H⟩;refine nt (aj (sr (qm rfl (qm rfl (te (av Tryz.call107 rfl (F.xea_ok H)) ?_)))));rintro _ h3 ⟨r4,rfl,H⟩;refine qa rfl (nt (sr (qm rfl (tq (mW Tryz.runUnderlying174 rfl rfl) (nt ?_)))));refine am rfl (fun g5=>?_) (fun g5=>?_)
 ·replace H:=H.1 g5;refine sr (qm rfl (qm rfl ?_));obtain ⟨a6,e7,H⟩:=H;refine tq (bG rfl e7) (tq (ay (off:=2) Zx lE rfl) (te (aK (vs:=[(.pointer p2)]) Tryz.sizeOf107 rfl rfl rfl rfl (de rfl) H) ?_));rintro _ h8 ⟨rfl,H⟩;refine nt (al (aq ?_));exact uj rfl ⟨rfl,H⟩
 ·replace H:=H.2 g5;refine au (aa ?_);refine aG (fun L' h=>∃ (x0:Option Addr) (x1:ByteArray) (x2:Option Addr),L'=[(0,(.pointer x0)),(1,(.string x1)),(2,(.pointer x2))]∧F.xcs.j1 Q x0 x1 x2 h) ?_ ?_
  ·rintro L' h ⟨x0,x1,x2,rfl,H⟩;unfold F.xcs.j1 at H;refine sr (qm rfl ?_);obtain ⟨a9,e10,H⟩:=H;refine tq (bG rfl e10) (tq (ay (off:=0) ZF dt rfl) ?_);obtain ⟨y11,k12,H⟩:=H;refine th (aD ZN rfl) k12 (qm rfl (te (av Tryz.call102 rfl (F.xaj_ok H)) ?_));rintro _ h13 ⟨r14,r15,rfl,H⟩;refine qm rfl (tq (bW rfl rfl) (tq (bW rfl rfl) (qa rfl (qa rfl (nt (sr (qm rfl ?_)))))));obtain ⟨a16,e17,H⟩:=H;refine tq (bG rfl e17) (tq (ay (off:=0) ZF dt rfl) ?_);obtain ⟨y18,k19,H⟩:=H;refine th (aD ZN rfl) k19 (qm rfl (qm rfl (qm rfl (tq (bO rfl (tj 1 x1 x2)) ?_))));obtain ⟨a20,e21,H⟩:=H;refine tq (bf (s:=y18) ZR ZT rfl rfl e21) (te (aK (vs:=(⟨1,x1,x2⟩:aE).cells) ZT rfl rfl ax rfl (by intro v hv;exact bM _ v hv) H) ?_);rintro _ h22 ⟨rfl,H⟩;refine nt (ai (qm rfl ?_));obtain ⟨a23,e24,H⟩:=H;refine tq (bG rfl e24) (tq (ay (off:=3) ZF iN rfl) ?_);obtain ⟨y25,k26,H⟩:=H;refine th (aD ZC rfl) k26 (tq (bE rfl rfl) ?_);obtain ⟨a27,e28,H⟩:=H;refine tq (bG rfl e28) (tq (ay (off:=3) ZF iN rfl) (te (aK (vs:=[(.int .i64 (IntKind.wrap .i64 (y25+1)))]) ZQ rfl rfl rfl rfl (de rfl) H) ?_));rintro _ h29 ⟨rfl,H⟩;refine bo ?_;exact jk rfl ⟨rfl,H⟩
  ·refine aj (bv mixed [0,1,3,7,15,31,0,64,192,448,960,1984,4095] (by kernel_rfl) (gq 0 1 rfl (aw rfl) ?_));obtain ⟨a30,e31,H⟩:=H;refine gq 1 3 rfl (bG rfl e31) (gq 2 7 rfl (ay (off:=3) ZF iN rfl) ?_);obtain ⟨y32,k33,H⟩:=H;refine gh 3 15 rfl (aD ZC rfl) k33 (gq 4 31 rfl (bE rfl rfl) (gq 5 63 rfl (i8 rfl rfl) (gq 6 127 rfl (aw rfl) ?_)));obtain ⟨a34,e35,H⟩:=H;refine gq 7 255 rfl (bG rfl e35) (gq 8 511 rfl (ay (off:=0) ZF dt rfl) ?_);obtain ⟨y36,k37,H⟩:=H;refine gh 9 1023 rfl (aD ZN rfl) k37 (gq 10 2047 rfl (bB (ts:=#[]) ZR (o:=y36.ptr) (n:=y36.len) (cap:=y36.cap) rfl) (gq 11 4095 rfl (i8 rfl rfl) (gq 12 8191 rfl (df rfl rfl) (g_d (by kernel_rfl) (aa ?_)))));refine am rfl (fun g38=>?_) (fun g38=>?_)
   ·replace H:=H.1 g38;refine sr (qm rfl (qm rfl ?_));obtain ⟨a39,e40,H⟩:=H;refine tq (bG rfl e40) (tq (ay (off:=1) ZF eT rfl) ?_);obtain ⟨y41,k42,H⟩:=H;refine th (aD ZN rfl) k42 (tq (bB (ts:=#[]) ZR (o:=y41.ptr) (n:=y41.len) (cap:=y41.cap) rfl) (te (av Tryz.call101 rfl (F.xag_ok H)) ?_));rintro _ h43 ⟨r44,rfl,H⟩;refine nt (bv mixed [0,0,0,0,8,24,56,120,248,504,0,1024,3072,7168,16377,32761,65529,131067,262139,524283,1048575,2097151,4194303] (by kernel_rfl) (gq 0 1 rfl (aw rfl) (gq 1 3 rfl (aw rfl) (gq 2 7 rfl (aw rfl) (gq 3 15 rfl (aw rfl) ?_)))));obtain ⟨a45,e46,H⟩:=H;refine gq 4 31 rfl (bG rfl e46) (gq 5 63 rfl (ay (off:=0) ZF dt rfl) ?_);obtain ⟨y47,k48,H⟩:=H;refine gh 6 127 rfl (aD ZN rfl) k48 (gq 7 255 rfl (bB (ts:=#[]) ZR (o:=y47.ptr) (n:=y47.len) (cap:=y47.cap) rfl) (gq 8 511 rfl (i8 rfl rfl) (gq 10 1535 rfl (aw rfl) ?_)));obtain ⟨a49,e50,H⟩:=H;refine gq 11 3583 rfl (bG rfl e50) (gq 12 7679 rfl (ay (off:=0) ZF dt rfl) ?_);obtain ⟨y51,k52,H⟩:=H;refine gh 13 15871 rfl (aD ZN rfl) k52 (g_e 9 16383 [(13,fun h=>aA h (a49.add 0)=some y51.enc)] (by kernel_rfl) rfl (by kernel_rfl) (mD rfl rfl H) rfl rfl ?_);rintro _ h53 ⟨s54,rfl,H⟩;obtain ⟨k55,H⟩:=H;refine ⟨And.intro k55 trivial,?_⟩;obtain ⟨a56,e57,H⟩:=H;refine gq 14 32767 rfl (bG rfl e57) (gq 15 65535 rfl (ay (off:=0) ZF dt rfl) (g_e 16 131071 [] (by kernel_rfl) rfl (by kernel_rfl) (aK (vs:=[s54.enc]) Tryz.sizeOf146 rfl rfl rfl rfl (de rfl) H) rfl rfl ?_));rintro _ h58 ⟨rfl,H⟩;refine ⟨trivial,?_⟩;obtain ⟨a59,e60,H⟩:=H;refine gq 17 262143 rfl (bG rfl e60) (gq 18 524287 rfl (ay (off:=1) ZF eT rfl) (g_e 19 1048575 [] (by kernel_rfl) rfl (by kernel_rfl) (aK (vs:=[y51.enc]) Tryz.sizeOf146 rfl rfl rfl rfl (de rfl) H) rfl rfl ?_));rintro _ h61 ⟨rfl,H⟩;refine ⟨trivial,?_⟩;obtain ⟨a62,e63,H⟩:=H;refine gq 20 2097151 rfl (bG rfl e63) (gq 21 4194303 rfl (ay (off:=2) ZF iM rfl) (g_e 22 8388607 [] (by kernel_rfl) rfl (by kernel_rfl) (aK (vs:=[(.int .i64 0)]) ZQ rfl rfl rfl rfl (de rfl) H) rfl rfl ?_));rintro _ h64 ⟨rfl,H⟩;refine ⟨trivial,?_⟩;refine g_d (by kernel_rfl) (aa ?_);exact ah [(0,(.pointer p0)),(1,(.string p1)),(2,(.pointer p2))] ⟨rfl,rfl,rfl,tv⟩ ⟨_,_,_,rfl,H⟩
   ·replace H:=H.2 g38;refine au (aa ?_);exact ah [(0,(.pointer p0)),(1,(.string p1)),(2,(.pointer p2))] ⟨rfl,rfl,rfl,tv⟩ ⟨_,_,_,rfl,H⟩
def F.xew (p0:Int) (p1:Int) (h:H) (Q:Int->Int->H->Prop):Prop:=
  0<=(32:Int) ∧
  0<=(32:Int) ∧
  0<=(32:Int) ∧
  0<=(32:Int) ∧
  0<=(32:Int) ∧
  Q (IntKind.wrap .u64 ((IntKind.wrap .u64 ((IntKind.wrap .u64 ((Int.fdiv p0 (2 ^ (min (32:Int).toNat (IntKind.bits .u64)):Int))*(Int.fdiv p1 (2 ^ (min (32:Int).toNat (IntKind.bits .u64)):Int))))+(Int.fdiv (IntKind.wrap .u64 ((IntKind.wrap .u64 ((Int.fdiv p0 (2 ^ (min (32:Int).toNat (IntKind.bits .u64)):Int))*(cj .and .u64 p1 4294967295)))+(Int.fdiv (IntKind.wrap .u64 ((cj .and .u64 p0 4294967295)*(cj .and .u64 p1 4294967295))) (2 ^ (min (32:Int).toNat (IntKind.bits .u64)):Int)))) (2 ^ (min (32:Int).toNat (IntKind.bits .u64)):Int))))+(Int.fdiv (IntKind.wrap .u64 ((cj .and .u64 (IntKind.wrap .u64 ((IntKind.wrap .u64 ((Int.fdiv p0 (2 ^ (min (32:Int).toNat (IntKind.bits .u64)):Int))*(cj .and .u64 p1 4294967295)))+(Int.fdiv (IntKind.wrap .u64 ((cj .and .u64 p0 4294967295)*(cj .and .u64 p1 4294967295))) (2 ^ (min (32:Int).toNat (IntKind.bits .u64)):Int)))) 4294967295)+(IntKind.wrap .u64 ((cj .and .u64 p0 4294967295)*(Int.fdiv p1 (2 ^ (min (32:Int).toNat (IntKind.bits .u64)):Int)))))) (2 ^ (min (32:Int).toNat (IntKind.bits .u64)):Int)))) (IntKind.wrap .u64 (p0*p1)) h
theorem F.xew_ok {p0:Int}{p1:Int}{h:H}{Q:Int->Int->H->Prop}(H:F.xew p0 p1 h Q):Fn PP 129 ([(.int .u64 p0),(.int .u64 p1)]:List Value).toArray h fun r h'=>∃ r0 r1,r=.tuple #[(.int .u64 r0),(.int .u64 r1)]∧Q r0 r1 h':=by
 unfold F.xew at H;refine aV Tryz.func129 Tryz.ntmps129 rfl rfl fun w0=>(az [(0,(.int .u64 p0)),(1,(.int .u64 p1))] ⟨rfl,rfl,tv⟩ (sr (qa rfl (qa rfl (nt (sr (qm rfl (tq (tc rfl rfl) (qa rfl (bo ?_))))))))));refine aa (sr (qm rfl ?_));obtain ⟨e1,H⟩:=H;refine tq (li rfl rfl e1) (qa rfl (nt (sr (qm rfl (tq (tc rfl rfl) (qa rfl (nt (sr (qm rfl ?_)))))))));obtain ⟨e2,H⟩:=H;refine tq (li rfl rfl e2) (qa rfl (nt (sr (qm rfl (qm rfl (tq (i8 rfl rfl) (qa rfl (nt (sr ?_)))))))));refine qm rfl (qm rfl (tq (i8 rfl rfl) (qm rfl ?_)));obtain ⟨e3,H⟩:=H;refine tq (li rfl rfl e3) (tq (bE rfl rfl) (qa rfl (nt (sr (qm rfl (tq (tc rfl rfl) (qa rfl (nt (sr ?_)))))))));refine qm rfl ?_;obtain ⟨e4,H⟩:=H;refine tq (li rfl rfl e4) (qa rfl (nt (sr (qm rfl (qm rfl (qm rfl (tq (i8 rfl rfl) (tq (bE rfl rfl) (qa rfl (nt ?_))))))))));refine sr (qm rfl (qm rfl (tq (i8 rfl rfl) (qm rfl (tq (bE rfl rfl) (qm rfl ?_))))));obtain ⟨e5,H⟩:=H;refine tq (li rfl rfl e5) (tq (bE rfl rfl) (qa rfl (nt (sr (qm rfl (qm rfl (tq (i8 rfl rfl) (qa rfl (nt (al ?_))))))))));exact cw rfl rfl rfl ⟨_,_,rfl,H⟩
def F.xaz.j1 (Q:aP->H->Prop) (x4:Addr) (x5:Int) (x6:Int) (h:H):Prop:=
  stH h x4 ((⟨(IntKind.wrap .i64 x5),x6⟩:aP).cells) fun h6 =>
  fx h6 x4 fun y7 =>
  Q y7 h6
def F.xaz (p0:Int) (p1:Int) (h:H) (Q:aP->H->Prop):Prop:=
  new h (((⟨0,0⟩:aP):aP).cells.toArray) jF fun a2 h1 =>
  F.xew (IntKind.wrap .u64 p0) (IntKind.wrap .u64 p1) h1 fun r4 r5 h3 =>
  ((decide (p1<0))=true ->
  F.xaz.j1 Q a2 (IntKind.wrap .u64 (r4-(IntKind.wrap .u64 p0))) r5 h3) ∧
  ((decide (p1<0))=false ->
  F.xaz.j1 Q a2 r4 r5 h3)
theorem F.xaz_ok {p0:Int}{p1:Int}{h:H}{Q:aP->H->Prop}(H:F.xaz p0 p1 h Q):Fn PP 104 ([(.int .i64 p0),(.int .i64 p1)]:List Value).toArray h fun r h'=>∃ r0,r=(.agg r0.cells.toArray)∧Q r0 h':=by
 unfold F.xaz at H;refine aV Tryz.func104 Tryz.ntmps104 rfl rfl fun w0=>(az [(0,(.int .i64 p0)),(1,(.int .i64 p1))] ⟨rfl,rfl,tv⟩ (sr (te (bJ (cs:=((⟨0,0⟩:aP):aP).cells.toArray) ZBO rfl H) ?_)));rintro _ h1 ⟨a2,rfl,H⟩;refine nt (sr (qm rfl (tq (fN ZBA Zl rfl) (qm rfl (tq (fN ZBA Zl rfl) (te (av Tryz.call129 rfl (F.xew_ok H)) ?_))))));rintro _ h3 ⟨r4,r5,rfl,H⟩;refine qm rfl (tq (bW rfl rfl) (tq (bW rfl rfl) (qa rfl (qa rfl (nt ?_)))));refine aG (fun L' h=>∃ (x4:Addr) (x5:Int) (x6:Int),L'=[(4,(.pointer (some x4))),(5,(.int .u64 x5)),(6,(.int .u64 x6))]∧F.xaz.j1 Q x4 x5 x6 h) ?_ ?_
 ·rintro L' h ⟨x4,x5,x6,rfl,H⟩;unfold F.xaz.j1 at H;refine sr (qm rfl (tq (fN Zl ZBA rfl) (qm rfl (tq (bO rfl (qn (IntKind.wrap .i64 x5) x6)) (te (aK (vs:=(⟨(IntKind.wrap .i64 x5),x6⟩:aP).cells) Z1 rfl rfl ax rfl (by intro v hv;exact d9 _ v hv) H) ?_)))));rintro _ h6 ⟨rfl,H⟩;refine nt (al ?_);obtain ⟨y7,k8,H⟩:=H;exact eY rfl (bY Tryz.isAgg170 Z1 rfl rfl k8) ⟨_,rfl,H⟩
 ·refine sr (qm rfl (tq (bN rfl rfl) (nt ?_)));refine am rfl (fun g9=>?_) (fun g9=>?_)
  ·replace H:=H.1 g9;refine ai (qm rfl (qm rfl (tq (fN ZBA Zl rfl) (tq (cJ rfl rfl) (qa rfl (nt ?_))))));exact ah [(4,(.pointer (some a2))),(5,(.int .u64 (IntKind.wrap .u64 (r4-(IntKind.wrap .u64 p0))))),(6,(.int .u64 r5))] ⟨rfl,rfl,rfl,tv⟩ ⟨_,_,_,rfl,H⟩
  ·replace H:=H.2 g9;refine au (aa ?_);exact ah [(4,(.pointer (some a2))),(5,(.int .u64 r4)),(6,(.int .u64 r5))] ⟨rfl,rfl,rfl,tv⟩ ⟨_,_,_,rfl,H⟩
def F.xci (p0:aP) (p1:aP) (h:H) (Q:aP->H->Prop):Prop:=
  new h p0.cells.toArray jF fun a2 h1 =>
  new h1 p1.cells.toArray jF fun a4 h3 =>
  new h3 (((⟨0,0⟩:aP):aP).cells.toArray) jF fun a6 h5 =>
  ldI .u64 h5 (a2.add 1) fun y7 =>
  ldI .u64 h5 (a4.add 1) fun y9 =>
  ldI .i64 h5 (a2.add 0) fun y11 =>
  ldI .i64 h5 (a4.add 0) fun y13 =>
  stH h5 a6 ((⟨(IntKind.wrap .i64 ((IntKind.wrap .i64 (y11+y13))+(IntKind.wrap .i64 (vH y7 y9)))),(vI y7 y9)⟩:aP).cells) fun h15 =>
  fx h15 a6 fun y16 =>
  Q y16 h15
theorem F.xci_ok {p0:aP}{p1:aP}{h:H}{Q:aP->H->Prop}(H:F.xci p0 p1 h Q):Fn PP 105 ([(.agg p0.cells.toArray),(.agg p1.cells.toArray)]:List Value).toArray h fun r h'=>∃ r0,r=(.agg r0.cells.toArray)∧Q r0 h':=by
 unfold F.xci at H;refine aV Tryz.func105 Tryz.ntmps105 rfl rfl fun w0=>(az [(0,(.agg p0.cells.toArray)),(1,(.agg p1.cells.toArray))] ⟨rfl,rfl,tv⟩ (sr (te (cb (cs:=p0.cells.toArray) rfl rfl H) ?_)));rintro _ h1 ⟨a2,rfl,H⟩;refine te (cb (cs:=p1.cells.toArray) rfl rfl H) ?_;rintro _ h3 ⟨a4,rfl,H⟩;refine te (bJ (cs:=((⟨0,0⟩:aP):aP).cells.toArray) ZBO rfl H) ?_;rintro _ h5 ⟨a6,rfl,H⟩;refine nt (sr (tq (ay (off:=1) Z9 nw rfl) ?_));obtain ⟨y7,k8,H⟩:=H;refine th (aD ZV rfl) k8 (tq (ay (off:=1) Z9 nw rfl) ?_);obtain ⟨y9,k10,H⟩:=H;refine th (aD ZV rfl) k10 (tq (B7 vJ rfl) (qm rfl (tq (bW rfl rfl) (tq (bW rfl rfl) (qa rfl (qa rfl (nt (sr (tq (ay (off:=0) Z9 kj rfl) ?_)))))))));obtain ⟨y11,k12,H⟩:=H;refine th (aD ZE rfl) k12 (tq (ay (off:=0) Z9 kj rfl) ?_);obtain ⟨y13,k14,H⟩:=H;refine th (aD ZE rfl) k14 (tq (bE rfl rfl) (qm rfl (tq (fN Zl ZBA rfl) (tq (bE rfl rfl) (qm rfl (tq (bO rfl (qn (IntKind.wrap .i64 ((IntKind.wrap .i64 (y11+y13))+(IntKind.wrap .i64 (vH y7 y9)))) (vI y7 y9))) (te (aK (vs:=(⟨(IntKind.wrap .i64 ((IntKind.wrap .i64 (y11+y13))+(IntKind.wrap .i64 (vH y7 y9)))),(vI y7 y9)⟩:aP).cells) Z1 rfl rfl ax rfl (by intro v hv;exact d9 _ v hv) H) ?_)))))));rintro _ h15 ⟨rfl,H⟩;refine nt (al ?_);obtain ⟨y16,k17,H⟩:=H;exact eY rfl (bY Tryz.isAgg170 Z1 rfl rfl k17) ⟨_,rfl,H⟩
def F.xdw (p0:aP) (p1:aP) (h:H) (Q:Bool->H->Prop):Prop:=
  new h p0.cells.toArray jF fun a2 h1 =>
  new h1 p1.cells.toArray jF fun a4 h3 =>
  ldI .i64 h3 (a2.add 0) fun y5 =>
  ldI .i64 h3 (a4.add 0) fun y7 =>
  ((decide (y5<y7))=true ->
  Q true h3) ∧
  ((decide (y5<y7))=false ->
  ldI .i64 h3 (a2.add 0) fun y10 =>
  ldI .i64 h3 (a4.add 0) fun y12 =>
  (((y10 == y12))=true ->
  ldI .u64 h3 (a2.add 1) fun y15 =>
  ldI .u64 h3 (a4.add 1) fun y17 =>
  Q (decide (y15<=y17)) h3) ∧
  (((y10 == y12))=false ->
  Q false h3))
theorem F.xdw_ok {p0:aP}{p1:aP}{h:H}{Q:Bool->H->Prop}(H:F.xdw p0 p1 h Q):Fn PP 106 ([(.agg p0.cells.toArray),(.agg p1.cells.toArray)]:List Value).toArray h fun r h'=>∃ r0,r=(.bool r0)∧Q r0 h':=by
 unfold F.xdw at H;refine aV Tryz.func106 Tryz.ntmps106 rfl rfl fun w0=>(az [(0,(.agg p0.cells.toArray)),(1,(.agg p1.cells.toArray))] ⟨rfl,rfl,tv⟩ (sr (te (cb (cs:=p0.cells.toArray) rfl rfl H) ?_)));rintro _ h1 ⟨a2,rfl,H⟩;refine te (cb (cs:=p1.cells.toArray) rfl rfl H) ?_;rintro _ h3 ⟨a4,rfl,H⟩;refine qa rfl (nt (sr (tq (ay (off:=0) Z9 kj rfl) ?_)));obtain ⟨y5,k6,H⟩:=H;refine th (aD ZE rfl) k6 (tq (ay (off:=0) Z9 kj rfl) ?_);obtain ⟨y7,k8,H⟩:=H;refine th (aD ZE rfl) k8 (tq (bN rfl rfl) (qm rfl ?_));refine aT (t:=10) rfl (fun g9=>?_) (fun g9=>?_)
 ·replace H:=H.1 g9;refine ts (ts (ts (ts (ts (ts (ts (ts (ts (ts (ts (ts (tq (aL rfl rfl) (qa rfl ?_)))))))))))));refine nt (al ?_);exact an rfl rfl ⟨_,rfl,H⟩
 ·replace H:=H.2 g9;refine tq (ay (off:=0) Z9 kj rfl) ?_;obtain ⟨y10,k11,H⟩:=H;refine th (aD ZE rfl) k11 (tq (ay (off:=0) Z9 kj rfl) ?_);obtain ⟨y12,k13,H⟩:=H;refine th (aD ZE rfl) k13 (tq (ct rfl rfl) (qm rfl ?_));refine aT (t:=16) rfl (fun g14=>?_) (fun g14=>?_)
  ·replace H:=H.1 g14;refine tq (ay (off:=1) Z9 nw rfl) ?_;obtain ⟨y15,k16,H⟩:=H;refine th (aD ZV rfl) k16 (tq (ay (off:=1) Z9 nw rfl) ?_);obtain ⟨y17,k18,H⟩:=H;refine th (aD ZV rfl) k18 (tq (lh rfl rfl) (tq (aL rfl rfl) (tq (aH rfl rfl) (qa rfl (nt (al ?_))))));exact an rfl rfl ⟨_,rfl,H⟩
  ·replace H:=H.2 g14;refine ts (ts (ts (ts (ts (tq (aH rfl rfl) (tq (aH rfl rfl) (qa rfl (nt (al ?_)))))))));exact an rfl rfl ⟨_,rfl,H⟩
def F.xca.j1 (Q:Bool->H->Prop) (x1:Addr) (x3:Addr) (h:H):Prop:=
  ldI .i64 h (x1.add 1) fun y25 =>
  F.xaz 1 y25 h fun r28 h27 =>
  new h27 (((⟨0,0⟩:aP):aP).cells.toArray) jF fun a30 h29 =>
  stH h29 a30 r28.cells fun h31 =>
  fx h31 x3 fun y32 =>
  ldI .i64 h31 (x1.add 0) fun y34 =>
  ldI .i64 h31 (x1.add 2) fun y36 =>
  fx h31 a30 fun y38 =>
  F.xaz (IntKind.wrap .i64 (y34-2)) y36 h31 fun r41 h40 =>
  Cells h40 a30 y38.cells ∧
  Cells h40 x3 y32.cells ∧
  F.xci y32 r41 h40 fun r45 h44 =>
  Cells h44 a30 y38.cells ∧
  F.xdw r45 y38 h44 fun r48 h47 =>
  (r48=true ->
  fx h47 a30 fun y50 =>
  fx h47 x3 fun y52 =>
  ldI .i64 h47 (x1.add 0) fun y54 =>
  ldI .i64 h47 (x1.add 3) fun y56 =>
  F.xaz (IntKind.wrap .i64 (y54-2)) y56 h47 fun r59 h58 =>
  Cells h58 x3 y52.cells ∧
  Cells h58 a30 y50.cells ∧
  F.xci y52 r59 h58 fun r63 h62 =>
  Cells h62 a30 y50.cells ∧
  F.xdw y50 r63 h62 fun r66 h65 =>
  Q r66 h65) ∧
  (r48=false ->
  Q false h47)
def F.xca (p0:ag) (h:H) (Q:Bool->H->Prop):Prop:=
  new h p0.cells.toArray gz fun a2 h1 =>
  ldI .i64 h1 (a2.add 0) fun y3 =>
  ((decide (y3<=0))=true ->
  bh h1 a2 fun y6 =>
  Q ((y6.Count == (⟨0,0,0,0⟩:ag).Count) && ((y6.Sum == (⟨0,0,0,0⟩:ag).Sum) && ((y6.Min == (⟨0,0,0,0⟩:ag).Min) && ((y6.Max == (⟨0,0,0,0⟩:ag).Max) && true)))) h1) ∧
  ((decide (y3<=0))=false ->
  ldI .i64 h1 (a2.add 0) fun y8 =>
  (((y8 == 1))=true ->
  ldI .i64 h1 (a2.add 2) fun y11 =>
  ldI .i64 h1 (a2.add 1) fun y13 =>
  (((y11 == y13))=true ->
  ldI .i64 h1 (a2.add 3) fun y16 =>
  ldI .i64 h1 (a2.add 1) fun y18 =>
  Q ((y16 == y18)) h1) ∧
  (((y11 == y13))=false ->
  Q false h1)) ∧
  (((y8 == 1))=false ->
  ldI .i64 h1 (a2.add 2) fun y20 =>
  ldI .i64 h1 (a2.add 3) fun y22 =>
  ((decide (y20 > y22))=true ->
  Q false h1) ∧
  ((decide (y20 > y22))=false ->
  ldI .i64 h1 (a2.add 2) fun y67 =>
  ldI .i64 h1 (a2.add 3) fun y69 =>
  (F.xaz 1 y67 h1 fun r72 h71 =>
  aA h71 (a2.add 3)=some (.int .i64 y69) ∧
  (F.xaz 1 y69 h71 fun r75 h74 =>
  (F.xci r72 r75 h74 fun r77 h76 =>
  new h76 (((⟨0,0⟩:aP):aP).cells.toArray) jF fun a79 h78 =>
  stH h78 a79 r77.cells fun h80 =>
  F.xca.j1 Q a2 a79 h80) ∧
  (new h74 (((⟨0,0⟩:aP):aP).cells.toArray) jF fun a82 h81 =>
  F.xci r72 r75 h81 fun r84 h83 =>
  stH h83 a82 r84.cells fun h85 =>
  F.xca.j1 Q a2 a82 h85)) ∧
  (new h71 (((⟨0,0⟩:aP):aP).cells.toArray) jF fun a87 h86 =>
  aA h86 (a2.add 3)=some (.int .i64 y69) ∧
  F.xaz 1 y69 h86 fun r90 h89 =>
  F.xci r72 r90 h89 fun r92 h91 =>
  stH h91 a87 r92.cells fun h93 =>
  F.xca.j1 Q a2 a87 h93)) ∧
  (new h1 (((⟨0,0⟩:aP):aP).cells.toArray) jF fun a95 h94 =>
  aA h94 (a2.add 3)=some (.int .i64 y69) ∧
  aA h94 (a2.add 2)=some (.int .i64 y67) ∧
  F.xaz 1 y67 h94 fun r99 h98 =>
  aA h98 (a2.add 3)=some (.int .i64 y69) ∧
  F.xaz 1 y69 h98 fun r102 h101 =>
  F.xci r99 r102 h101 fun r104 h103 =>
  stH h103 a95 r104.cells fun h105 =>
  F.xca.j1 Q a2 a95 h105))))
theorem F.xca_ok {p0:ag}{h:H}{Q:Bool->H->Prop}(H:F.xca p0 h Q):Fn PP 63 ([(.agg p0.cells.toArray)]:List Value).toArray h fun r h'=>∃ r0,r=(.bool r0)∧Q r0 h':=by
 unfold F.xca at H;refine aV Tryz.func63 Tryz.ntmps63 rfl rfl fun w0=>(az [(0,(.agg p0.cells.toArray))] ⟨rfl,tv⟩ (sr (te (cb (cs:=p0.cells.toArray) rfl rfl H) ?_)));rintro _ h1 ⟨a2,rfl,H⟩;refine qa rfl (nt (aj (aB (sr (tq (ay (off:=0) ZM iI rfl) ?_)))));obtain ⟨y3,k4,H⟩:=H;refine th (aD ZE rfl) k4 (tq (lh rfl rfl) (qa rfl (nt ?_)));refine am rfl (fun g5=>?_) (fun g5=>?_)
 ·replace H:=H.1 g5;refine sr ?_;obtain ⟨y6,k7,H⟩:=H;refine th (aQ ZK ZD rfl rfl) k7 (tq (bO rfl (od )) (tq (kX (b:=((y6.Count == (⟨0,0,0,0⟩:ag).Count) && ((y6.Sum == (⟨0,0,0,0⟩:ag).Sum) && ((y6.Min == (⟨0,0,0,0⟩:ag).Min) && ((y6.Max == (⟨0,0,0,0⟩:ag).Max) && true))))) tE (fun w=>ns y6 (⟨0,0,0,0⟩:ag) 9998 w) rfl rfl) (qa rfl (nt (al (aS (aq ?_)))))));exact an rfl rfl ⟨_,rfl,H⟩
 ·replace H:=H.2 g5;refine sr (tq (ay (off:=0) ZM iI rfl) ?_);obtain ⟨y8,k9,H⟩:=H;refine th (aD ZE rfl) k9 (tq (ct rfl rfl) (qa rfl (nt ?_)));refine am rfl (fun g10=>?_) (fun g10=>?_)
  ·replace H:=H.1 g10;refine sr (tq (ay (off:=2) ZM jM rfl) ?_);obtain ⟨y11,k12,H⟩:=H;refine th (aD ZE rfl) k12 (tq (ay (off:=1) ZM jL rfl) ?_);obtain ⟨y13,k14,H⟩:=H;refine th (aD ZE rfl) k14 (tq (ct rfl rfl) (qm rfl ?_));refine aT (t:=21) rfl (fun g15=>?_) (fun g15=>?_)
   ·replace H:=H.1 g15;refine tq (ay (off:=3) ZM jN rfl) ?_;obtain ⟨y16,k17,H⟩:=H;refine th (aD ZE rfl) k17 (tq (ay (off:=1) ZM jL rfl) ?_);obtain ⟨y18,k19,H⟩:=H;refine th (aD ZE rfl) k19 (tq (ct rfl rfl) (tq (aL rfl rfl) (qa rfl (nt (al (aS (aq ?_)))))));exact an rfl rfl ⟨_,rfl,H⟩
   ·replace H:=H.2 g15;refine ts (ts (ts (ts (ts (tq (aH rfl rfl) (qa rfl (nt (al (aS (aq ?_))))))))));exact an rfl rfl ⟨_,rfl,H⟩
  ·replace H:=H.2 g10;refine sr (tq (ay (off:=2) ZM jM rfl) ?_);obtain ⟨y20,k21,H⟩:=H;refine th (aD ZE rfl) k21 (tq (ay (off:=3) ZM jN rfl) ?_);obtain ⟨y22,k23,H⟩:=H;refine th (aD ZE rfl) k23 (tq (df rfl rfl) (qa rfl (nt ?_)));refine am rfl (fun g24=>?_) (fun g24=>?_)
   ·replace H:=H.1 g24;refine sr (qa rfl (nt (al (aS (aq ?_)))));exact an rfl rfl ⟨_,rfl,H⟩
   ·replace H:=H.2 g24;refine au (aI (aa ?_));refine aG (fun L' h=>∃ (x1:Addr) (x3:Addr),L'=[(1,(.pointer (some x1))),(3,(.pointer (some x3)))]∧F.xca.j1 Q x1 x3 h) ?_ ?_
    ·rintro L' h ⟨x1,x3,rfl,H⟩;unfold F.xca.j1 at H;refine sr (tq (ay (off:=1) ZM jL rfl) ?_);obtain ⟨y25,k26,H⟩:=H;refine th (aD ZE rfl) k26 (te (av ZBI rfl (F.xaz_ok H)) ?_);rintro _ h27 ⟨r28,rfl,H⟩;refine te (bJ (cs:=((⟨0,0⟩:aP):aP).cells.toArray) ZBO rfl H) ?_;rintro _ h29 ⟨a30,rfl,H⟩;refine te (aK (vs:=r28.cells) Z1 rfl rfl ax rfl (by intro v hv;exact d9 _ v hv) H) ?_;rintro _ h31 ⟨rfl,H⟩;refine nt (aj (bv mixed [0,0,2,6,0,16,62,127,0,511,1023,2047,2047,2047,10239,26623,2047,67583,255999,522239,1048575,2097151,4194303] (by kernel_rfl) ?_));obtain ⟨y32,k33,H⟩:=H;refine gh 0 1 rfl (aQ Tryz.isAgg170 Z1 rfl rfl) k33 (gq 1 3 rfl (ay (off:=0) ZM iI rfl) ?_);obtain ⟨y34,k35,H⟩:=H;refine gh 2 7 rfl (aD ZE rfl) k35 (gq 3 15 rfl (cJ rfl rfl) (gq 4 31 rfl (ay (off:=2) ZM jM rfl) ?_));obtain ⟨y36,k37,H⟩:=H;refine gh 5 63 rfl (aD ZE rfl) k37 ?_;obtain ⟨y38,k39,H⟩:=H;refine gh 8 319 rfl (aQ Tryz.isAgg170 Z1 rfl rfl) k39 (g_e 6 383 [(8,fun h=>Cells h a30 y38.cells),(0,fun h=>Cells h x3 y32.cells)] (by kernel_rfl) rfl (by kernel_rfl) (av ZBI rfl (F.xaz_ok H)) rfl rfl ?_);rintro _ h40 ⟨r41,rfl,H⟩;obtain ⟨k42,k43,H⟩:=H;refine ⟨And.intro k42 (And.intro k43 trivial),?_⟩;refine g_e 7 511 [(8,fun h=>Cells h a30 y38.cells)] (by kernel_rfl) rfl (by kernel_rfl) (av Tryz.call105 rfl (F.xci_ok H)) rfl rfl ?_;rintro _ h44 ⟨r45,rfl,H⟩;obtain ⟨k46,H⟩:=H;refine ⟨And.intro k46 trivial,?_⟩;refine g_e 9 1023 [] (by kernel_rfl) rfl (by kernel_rfl) (av Tryz.call106 rfl (F.xdw_ok H)) rfl rfl ?_;rintro _ h47 ⟨r48,rfl,H⟩;refine ⟨trivial,?_⟩;refine gq 10 2047 rfl (aw rfl) ?_;refine eO (t:=54) rfl (fun g49=>?_) (fun g49=>?_)
     ·replace H:=H.1 g49;obtain ⟨y50,k51,H⟩:=H;refine gh 11 4095 rfl (aQ Tryz.isAgg170 Z1 rfl rfl) k51 ?_;obtain ⟨y52,k53,H⟩:=H;refine gh 12 8191 rfl (aQ Tryz.isAgg170 Z1 rfl rfl) k53 (gq 13 16383 rfl (ay (off:=0) ZM iI rfl) ?_);obtain ⟨y54,k55,H⟩:=H;refine gh 14 32767 rfl (aD ZE rfl) k55 (gq 15 65535 rfl (cJ rfl rfl) (gq 16 131071 rfl (ay (off:=3) ZM jN rfl) ?_));obtain ⟨y56,k57,H⟩:=H;refine gh 17 262143 rfl (aD ZE rfl) k57 (g_e 18 524287 [(12,fun h=>Cells h x3 y52.cells),(11,fun h=>Cells h a30 y50.cells)] (by kernel_rfl) rfl (by kernel_rfl) (av ZBI rfl (F.xaz_ok H)) rfl rfl ?_);rintro _ h58 ⟨r59,rfl,H⟩;obtain ⟨k60,k61,H⟩:=H;refine ⟨And.intro k60 (And.intro k61 trivial),?_⟩;refine g_e 19 1048575 [(11,fun h=>Cells h a30 y50.cells)] (by kernel_rfl) rfl (by kernel_rfl) (av Tryz.call105 rfl (F.xci_ok H)) rfl rfl ?_;rintro _ h62 ⟨r63,rfl,H⟩;obtain ⟨k64,H⟩:=H;refine ⟨And.intro k64 trivial,?_⟩;refine g_e 20 2097151 [] (by kernel_rfl) rfl (by kernel_rfl) (av Tryz.call106 rfl (F.xdw_ok H)) rfl rfl ?_;rintro _ h65 ⟨r66,rfl,H⟩;refine ⟨trivial,?_⟩;refine gq 21 4194303 rfl (aL rfl rfl) (gq 22 8388607 rfl (bp rfl) (g_d (by kernel_rfl) (aa (al ?_))));exact an rfl rfl ⟨_,rfl,H⟩
     ·replace H:=H.2 g49;refine gs 11 4095 rfl (gs 12 8191 rfl (gs 13 16383 rfl (gs 14 32767 rfl (gs 15 65535 rfl (gs 16 131071 rfl (gs 17 262143 rfl (gs 18 524287 rfl (gs 19 1048575 rfl (gs 20 2097151 rfl (gq 21 4194303 rfl (aH rfl rfl) (gq 22 8388607 rfl (bp rfl) (g_d (by kernel_rfl) (aa ?_)))))))))))));refine al ?_;exact an rfl rfl ⟨_,rfl,H⟩
    ·refine bv mixed [0,1,3,0,8,31,63,0,255] (by kernel_rfl) (gq 0 1 rfl (ay (off:=2) ZM jM rfl) ?_);obtain ⟨y67,k68,H⟩:=H;refine gh 1 3 rfl (aD ZE rfl) k68 (gq 3 11 rfl (ay (off:=3) ZM jN rfl) ?_);obtain ⟨y69,k70,H⟩:=H;refine gh 4 27 rfl (aD ZE rfl) k70 ?_;refine rF 2 31 7 155 [(4,fun h=>aA h (a2.add 3)=some (.int .i64 y69))] [(4,fun h=>aA h (a2.add 3)=some (.int .i64 y69)),(1,fun h=>aA h (a2.add 2)=some (.int .i64 y67))] (by kernel_rfl) (by kernel_rfl) (by kernel_rfl) (by kernel_rfl) (by kernel_rfl) rfl rfl rfl rfl rfl rfl ?_ ?_
     ·replace H:=H.1;refine ⟨_,(av ZBI rfl (F.xaz_ok H)),?_⟩;rintro _ h71 ⟨r72,rfl,H⟩;obtain ⟨k73,H⟩:=H;refine ⟨And.intro k73 trivial,?_⟩;refine rF 5 63 7 159 [] [(4,fun h=>aA h (a2.add 3)=some (.int .i64 y69))] (by kernel_rfl) (by kernel_rfl) (by kernel_rfl) (by kernel_rfl) (by kernel_rfl) rfl rfl rfl rfl rfl rfl ?_ ?_
      ·replace H:=H.1;refine ⟨_,(av ZBI rfl (F.xaz_ok H)),?_⟩;rintro _ h74 ⟨r75,rfl,H⟩;refine ⟨trivial,?_⟩;refine rF 6 127 7 191 [] [] (by kernel_rfl) (by kernel_rfl) (by kernel_rfl) (by kernel_rfl) (by kernel_rfl) rfl rfl rfl rfl rfl rfl ?_ ?_
       ·replace H:=H.1;refine ⟨_,(av Tryz.call105 rfl (F.xci_ok H)),?_⟩;rintro _ h76 ⟨r77,rfl,H⟩;refine ⟨trivial,?_⟩;refine g_e 7 255 [] (by kernel_rfl) rfl (by kernel_rfl) (bJ (cs:=((⟨0,0⟩:aP):aP).cells.toArray) ZBO rfl H) rfl rfl ?_;rintro _ h78 ⟨a79,rfl,H⟩;refine ⟨trivial,?_⟩;refine g_e 8 511 [] (by kernel_rfl) rfl (by kernel_rfl) (aK (vs:=r77.cells) Z1 rfl rfl ax rfl (by intro v hv;exact d9 _ v hv) H) rfl rfl ?_;rintro _ h80 ⟨rfl,H⟩;refine ⟨trivial,?_⟩;refine g_d (by kernel_rfl) (aa ?_);exact ah [(1,(.pointer (some a2))),(3,(.pointer (some a79)))] ⟨rfl,rfl,tv⟩ ⟨_,_,rfl,H⟩
       ·replace H:=H.2;refine ⟨_,(bJ (cs:=((⟨0,0⟩:aP):aP).cells.toArray) ZBO rfl H),?_⟩;rintro _ h81 ⟨a82,rfl,H⟩;refine ⟨trivial,?_⟩;refine g_e 6 255 [] (by kernel_rfl) rfl (by kernel_rfl) (av Tryz.call105 rfl (F.xci_ok H)) rfl rfl ?_;rintro _ h83 ⟨r84,rfl,H⟩;refine ⟨trivial,?_⟩;refine g_e 8 511 [] (by kernel_rfl) rfl (by kernel_rfl) (aK (vs:=r84.cells) Z1 rfl rfl ax rfl (by intro v hv;exact d9 _ v hv) H) rfl rfl ?_;rintro _ h85 ⟨rfl,H⟩;refine ⟨trivial,?_⟩;refine g_d (by kernel_rfl) (aa ?_);exact ah [(1,(.pointer (some a2))),(3,(.pointer (some a82)))] ⟨rfl,rfl,tv⟩ ⟨_,_,rfl,H⟩
      ·replace H:=H.2;refine ⟨_,(bJ (cs:=((⟨0,0⟩:aP):aP).cells.toArray) ZBO rfl H),?_⟩;rintro _ h86 ⟨a87,rfl,H⟩;obtain ⟨k88,H⟩:=H;refine ⟨And.intro k88 trivial,?_⟩;refine g_e 5 191 [] (by kernel_rfl) rfl (by kernel_rfl) (av ZBI rfl (F.xaz_ok H)) rfl rfl ?_;rintro _ h89 ⟨r90,rfl,H⟩;refine ⟨trivial,?_⟩;refine g_e 6 255 [] (by kernel_rfl) rfl (by kernel_rfl) (av Tryz.call105 rfl (F.xci_ok H)) rfl rfl ?_;rintro _ h91 ⟨r92,rfl,H⟩;refine ⟨trivial,?_⟩;refine g_e 8 511 [] (by kernel_rfl) rfl (by kernel_rfl) (aK (vs:=r92.cells) Z1 rfl rfl ax rfl (by intro v hv;exact d9 _ v hv) H) rfl rfl ?_;rintro _ h93 ⟨rfl,H⟩;refine ⟨trivial,?_⟩;refine g_d (by kernel_rfl) (aa ?_);exact ah [(1,(.pointer (some a2))),(3,(.pointer (some a87)))] ⟨rfl,rfl,tv⟩ ⟨_,_,rfl,H⟩
     ·replace H:=H.2;refine ⟨_,(bJ (cs:=((⟨0,0⟩:aP):aP).cells.toArray) ZBO rfl H),?_⟩;rintro _ h94 ⟨a95,rfl,H⟩;obtain ⟨k96,k97,H⟩:=H;refine ⟨And.intro k96 (And.intro k97 trivial),?_⟩;refine g_e 2 159 [(4,fun h=>aA h (a2.add 3)=some (.int .i64 y69))] (by kernel_rfl) rfl (by kernel_rfl) (av ZBI rfl (F.xaz_ok H)) rfl rfl ?_;rintro _ h98 ⟨r99,rfl,H⟩;obtain ⟨k100,H⟩:=H;refine ⟨And.intro k100 trivial,?_⟩;refine g_e 5 191 [] (by kernel_rfl) rfl (by kernel_rfl) (av ZBI rfl (F.xaz_ok H)) rfl rfl ?_;rintro _ h101 ⟨r102,rfl,H⟩;refine ⟨trivial,?_⟩;refine g_e 6 255 [] (by kernel_rfl) rfl (by kernel_rfl) (av Tryz.call105 rfl (F.xci_ok H)) rfl rfl ?_;rintro _ h103 ⟨r104,rfl,H⟩;refine ⟨trivial,?_⟩;refine g_e 8 511 [] (by kernel_rfl) rfl (by kernel_rfl) (aK (vs:=r104.cells) Z1 rfl rfl ax rfl (by intro v hv;exact d9 _ v hv) H) rfl rfl ?_;rintro _ h105 ⟨rfl,H⟩;refine ⟨trivial,?_⟩;refine g_d (by kernel_rfl) (aa ?_);exact ah [(1,(.pointer (some a2))),(3,(.pointer (some a95)))] ⟨rfl,rfl,tv⟩ ⟨_,_,rfl,H⟩
def F.xam.j3 (Q:Int->H->Prop) (x0:Option Addr) (x1:Int) (x5:Addr) (x9:Option Addr) (x11:Bool) (h:H):Prop:=
  bh h (x5.add 3) fun y31 =>
  F.xeq x9 x1 y31 h fun r34 r35 h33 =>
  nn x0 fun a36 =>
  ldI .i64 h33 ((a36.add 0).add 0) fun y38 =>
  nn x0 fun a40 =>
  stH h33 ((a40.add 0).add 0) [(.int .i64 (IntKind.wrap .i64 (y38+r34)))] fun h42 =>
  ((!x11)=true ->
  nn x0 fun a44 =>
  ldI .i64 h42 ((a44.add 0).add 0) fun y46 =>
  nn x0 fun a48 =>
  stH h42 ((a48.add 0).add 0) [(.int .i64 (IntKind.wrap .i64 (y46+1)))] fun h50 =>
  nn x0 fun a51 =>
  ldI .i64 h50 ((a51.add 0).add 1) fun y53 =>
  nn x0 fun a55 =>
  stH h50 ((a55.add 0).add 1) [(.int .i64 (IntKind.wrap .i64 (y53+1)))] fun h57 =>
  Q 0 h57) ∧
  ((!x11)=false ->
  Q 0 h42)
def F.xam.j2 (Q:Int->H->Prop) (x0:Option Addr) (x1:Int) (x5:Addr) (x7:ByteArray) (x9:Option Addr) (x10:Bool) (x11:Bool) (h:H):Prop:=
  nn x0 fun a16 =>
  ldI .i64 h ((a16.add 0).add 0) fun y18 =>
  ak h (x5.add 0) fun y20 =>
  nn x0 fun a22 =>
  ldI .i64 h ((a22.add 0).add 2) fun y24 =>
  F.xbp x0 x1 y20 h fun r27 h26 =>
  aA h26 ((a22.add 0).add 2)=some (.int .i64 y24) ∧
  aA h26 ((a16.add 0).add 0)=some (.int .i64 y18) ∧
  ((decide ((IntKind.wrap .i64 (y18+r27)) > y24))=true ->
  Q 31 h26) ∧
  ((decide ((IntKind.wrap .i64 (y18+r27)) > y24))=false ->
  ((!x10)=true ->
  F.xee  h26 fun r60 h59 =>
  nn x0 fun a61 =>
  ldP h59 (a61.add 3) fun y63 =>
  F.xcs y63 x7 r60 h59 fun h65 =>
  F.xam.j3 Q x0 x1 x5 r60 x11 h65) ∧
  ((!x10)=false ->
  F.xam.j3 Q x0 x1 x5 x9 x11 h26))
def F.xam.j1 (Q:Int->H->Prop) (x0:Option Addr) (x1:Int) (x5:Addr) (x7:ByteArray) (h:H):Prop:=
  nn x0 fun a9 =>
  ldP h (a9.add 3) fun y11 =>
  F.xdy y11 x7 h fun r14 r15 h13 =>
  (r15=true ->
  F.xdc r14 h13 fun r68 r69 r70 h67 =>
  ((decide (r69 > x1))=true ->
  Q 32 h67) ∧
  ((decide (r69 > x1))=false ->
  F.xam.j2 Q x0 x1 x5 x7 r14 r15 r70 h67)) ∧
  (r15=false ->
  F.xam.j2 Q x0 x1 x5 x7 r14 r15 false h13)
def F.xam.j4 (Q:Int->H->Prop) (x0:Option Addr) (x1:Int) (x5:Addr) (x7:ByteArray) (x41:Bool) (h:H):Prop:=
  (x41=true ->
  Q 1 h) ∧
  (x41=false ->
  F.xam.j1 Q x0 x1 x5 x7 h)
def F.xam (p0:Option Addr) (p1:Int) (p2:aO) (h:H) (Q:Int->H->Prop):Prop:=
  new h p2.cells.toArray mx fun a2 h1 =>
  ak h1 (a2.add 0) fun y3 =>
  F.xak y3 h1 fun r6 r7 h5 =>
  (((r7 != 0))=true ->
  Q r7 h5) ∧
  (((r7 != 0))=false ->
  ((decide (p1<1))=true ->
  F.xam.j4 Q p0 p1 a2 r6 true h5) ∧
  ((decide (p1<1))=false ->
  ((decide (p1 > 1099511627776))=true ->
  F.xam.j4 Q p0 p1 a2 r6 true h5) ∧
  ((decide (p1 > 1099511627776))=false ->
  ldI .i64 h5 ((a2.add 3).add 0) fun y75 =>
  (((y75 == 0))=true ->
  F.xam.j4 Q p0 p1 a2 r6 true h5) ∧
  (((y75 == 0))=false ->
  bh h5 (a2.add 3) fun y78 =>
  F.xca y78 h5 fun r81 h80 =>
  F.xam.j4 Q p0 p1 a2 r6 (!r81) h80))))
theorem F.xam_ok {p0:Option Addr}{p1:Int}{p2:aO}{h:H}{Q:Int->H->Prop}(H:F.xam p0 p1 p2 h Q):Fn PP 30 ([(.pointer p0),(.int .i64 p1),(.agg p2.cells.toArray)]:List Value).toArray h fun r h'=>∃ r0,r=(.int .i64 r0)∧Q r0 h':=by
 unfold F.xam at H;refine aV Tryz.func30 Tryz.ntmps30 rfl rfl fun w0=>(az [(0,(.pointer p0)),(1,(.int .i64 p1)),(2,(.agg p2.cells.toArray))] ⟨rfl,rfl,rfl,tv⟩ (sr (te (cb (cs:=p2.cells.toArray) rfl rfl H) ?_)));rintro _ h1 ⟨a2,rfl,H⟩;refine qa rfl (nt (sr (tq (ay (off:=0) Zq gZ rfl) ?_)));obtain ⟨y3,k4,H⟩:=H;refine th (aQ ZB ZA rfl rfl) k4 (te (av Tryz.call56 rfl (F.xak_ok H)) ?_);rintro _ h5 ⟨r6,r7,rfl,H⟩;refine qm rfl (tq (bW rfl rfl) (tq (bW rfl rfl) (qa rfl (qa rfl (nt (aj (sr (qm rfl (tq (ey rfl rfl) (nt ?_))))))))));refine am rfl (fun g8=>?_) (fun g8=>?_)
 ·replace H:=H.1 g8;refine sr (qm rfl (qa rfl (nt (al (aq ?_)))));exact an rfl rfl ⟨_,rfl,H⟩
 ·replace H:=H.2 g8;refine au (aa ?_);refine aG (fun L' h=>∃ (x0:Option Addr) (x1:Int) (x5:Addr) (x7:ByteArray),L'=[(0,(.pointer x0)),(1,(.int .i64 x1)),(5,(.pointer (some x5))),(7,(.string x7))]∧F.xam.j1 Q x0 x1 x5 x7 h) ?_ ?_
  ·rintro L' h ⟨x0,x1,x5,x7,rfl,H⟩;unfold F.xam.j1 at H;refine sr (qm rfl ?_);obtain ⟨a9,e10,H⟩:=H;refine tq (bG rfl e10) (tq (ay (off:=3) ZU kR rfl) ?_);obtain ⟨y11,k12,H⟩:=H;refine th (aD Tryz.isAgg72 rfl) k12 (qm rfl (te (av Tryz.call64 rfl (F.xdy_ok H)) ?_));rintro _ h13 ⟨r14,r15,rfl,H⟩;refine qm rfl (tq (bW rfl rfl) (tq (bW rfl rfl) (qa rfl (qa rfl (nt (sr (qa rfl (nt ?_))))))));refine aG (fun L' h=>∃ (x0:Option Addr) (x1:Int) (x5:Addr) (x7:ByteArray) (x9:Option Addr) (x10:Bool) (x11:Bool),L'=[(0,(.pointer x0)),(1,(.int .i64 x1)),(5,(.pointer (some x5))),(7,(.string x7)),(9,(.pointer x9)),(10,(.bool x10)),(11,(.bool x11))]∧F.xam.j2 Q x0 x1 x5 x7 x9 x10 x11 h) ?_ ?_
   ·rintro L' h ⟨x0,x1,x5,x7,x9,x10,x11,rfl,H⟩;unfold F.xam.j2 at H;refine aj (aj (bv mixed [0,1,3,7,15,0,0,0,128,480,1023,0,2048,6144,14336,30720,65535] (by kernel_rfl) (gq 0 1 rfl (aw rfl) ?_)));obtain ⟨a16,e17,H⟩:=H;refine gq 1 3 rfl (bG rfl e17) (gq 2 7 rfl (ay (off:=0) ZU er rfl) (gq 3 15 rfl (ay (off:=0) Zr hC rfl) ?_));obtain ⟨y18,k19,H⟩:=H;refine gh 4 31 rfl (aD ZC rfl) k19 (gq 5 63 rfl (aw rfl) (gq 6 127 rfl (aw rfl) (gq 7 255 rfl (ay (off:=0) Zq gZ rfl) ?_)));obtain ⟨y20,k21,H⟩:=H;refine gh 8 511 rfl (aQ ZB ZA rfl rfl) k21 (gq 11 2559 rfl (aw rfl) ?_);obtain ⟨a22,e23,H⟩:=H;refine gq 12 6655 rfl (bG rfl e23) (gq 13 14847 rfl (ay (off:=0) ZU er rfl) (gq 14 31231 rfl (ay (off:=2) Zr xk rfl) ?_));obtain ⟨y24,k25,H⟩:=H;refine gh 15 63999 rfl (aD ZC rfl) k25 (g_e 9 64511 [(15,fun h=>aA h ((a22.add 0).add 2)=some (.int .i64 y24)),(4,fun h=>aA h ((a16.add 0).add 0)=some (.int .i64 y18))] (by kernel_rfl) rfl (by kernel_rfl) (av Tryz.call66 rfl (F.xbp_ok H)) rfl rfl ?_);rintro _ h26 ⟨r27,rfl,H⟩;obtain ⟨k28,k29,H⟩:=H;refine ⟨And.intro k28 (And.intro k29 trivial),?_⟩;refine gq 10 65535 rfl (bE rfl rfl) (gq 16 131071 rfl (df rfl rfl) (g_d (by kernel_rfl) (aa ?_)));refine am rfl (fun g30=>?_) (fun g30=>?_)
    ·replace H:=H.1 g30;refine sr (qa rfl (nt (al (aq ?_))));exact an rfl rfl ⟨_,rfl,H⟩
    ·replace H:=H.2 g30;refine au (aa ?_);refine aG (fun L' h=>∃ (x0:Option Addr) (x1:Int) (x5:Addr) (x9:Option Addr) (x11:Bool),L'=[(0,(.pointer x0)),(1,(.int .i64 x1)),(5,(.pointer (some x5))),(9,(.pointer x9)),(11,(.bool x11))]∧F.xam.j3 Q x0 x1 x5 x9 x11 h) ?_ ?_
     ·rintro L' h ⟨x0,x1,x5,x9,x11,rfl,H⟩;unfold F.xam.j3 at H;refine sr (qm rfl (qm rfl (tq (ay (off:=3) Zq kQ rfl) ?_)));obtain ⟨y31,k32,H⟩:=H;refine th (aQ ZK ZD rfl rfl) k32 (te (av Tryz.call69 rfl (F.xeq_ok H)) ?_);rintro _ h33 ⟨r34,r35,rfl,H⟩;refine qm rfl (tq (bW rfl rfl) (tq (bW rfl rfl) (qa rfl (qa rfl (nt (sr (qm rfl ?_)))))));obtain ⟨a36,e37,H⟩:=H;refine tq (bG rfl e37) (tq (ay (off:=0) ZU er rfl) (tq (ay (off:=0) Zr hC rfl) ?_));obtain ⟨y38,k39,H⟩:=H;refine th (aD ZC rfl) k39 (qm rfl (tq (bE rfl rfl) ?_));obtain ⟨a40,e41,H⟩:=H;refine tq (bG rfl e41) (tq (ay (off:=0) ZU er rfl) (tq (ay (off:=0) Zr hC rfl) (te (aK (vs:=[(.int .i64 (IntKind.wrap .i64 (y38+r34)))]) ZQ rfl rfl rfl rfl (de rfl) H) ?_)));rintro _ h42 ⟨rfl,H⟩;refine nt (aj (sr (qm rfl (tq (eI rfl) (nt ?_)))));refine am rfl (fun g43=>?_) (fun g43=>?_)
      ·replace H:=H.1 g43;refine sr (qm rfl ?_);obtain ⟨a44,e45,H⟩:=H;refine tq (bG rfl e45) (tq (ay (off:=0) ZU er rfl) (tq (ay (off:=0) Zr hC rfl) ?_));obtain ⟨y46,k47,H⟩:=H;refine th (aD ZC rfl) k47 (tq (bE rfl rfl) ?_);obtain ⟨a48,e49,H⟩:=H;refine tq (bG rfl e49) (tq (ay (off:=0) ZU er rfl) (tq (ay (off:=0) Zr hC rfl) (te (aK (vs:=[(.int .i64 (IntKind.wrap .i64 (y46+1)))]) ZQ rfl rfl rfl rfl (de rfl) H) ?_)));rintro _ h50 ⟨rfl,H⟩;refine nt (ai (qm rfl ?_));obtain ⟨a51,e52,H⟩:=H;refine tq (bG rfl e52) (tq (ay (off:=0) ZU er rfl) (tq (ay (off:=1) Zr nz rfl) ?_));obtain ⟨y53,k54,H⟩:=H;refine th (aD ZC rfl) k54 (tq (bE rfl rfl) ?_);obtain ⟨a55,e56,H⟩:=H;refine tq (bG rfl e56) (tq (ay (off:=0) ZU er rfl) (tq (ay (off:=1) Zr nz rfl) (te (aK (vs:=[(.int .i64 (IntKind.wrap .i64 (y53+1)))]) ZQ rfl rfl rfl rfl (de rfl) H) ?_)));rintro _ h57 ⟨rfl,H⟩;refine nt (sr (qa rfl (nt (al ?_))));exact an rfl rfl ⟨_,rfl,H⟩
      ·replace H:=H.2 g43;refine au (aa (sr (qa rfl (nt (al ?_)))));exact an rfl rfl ⟨_,rfl,H⟩
     ·refine sr (qm rfl (tq (eI rfl) (nt ?_)));refine am rfl (fun g58=>?_) (fun g58=>?_)
      ·replace H:=H.1 g58;refine sr (te (av Tryz.call67 rfl (F.xee_ok H)) ?_);rintro _ h59 ⟨r60,rfl,H⟩;refine qa rfl (nt (ai (qm rfl ?_)));obtain ⟨a61,e62,H⟩:=H;refine tq (bG rfl e62) (tq (ay (off:=3) ZU kR rfl) ?_);obtain ⟨y63,k64,H⟩:=H;refine th (aD Tryz.isAgg72 rfl) k64 (qm rfl (qm rfl (te (av Tryz.call68 rfl (F.xcs_ok H)) ?_)));rintro _ h65 ⟨rfl,H⟩;refine nt ?_;exact ah [(0,(.pointer x0)),(1,(.int .i64 x1)),(5,(.pointer (some x5))),(9,(.pointer r60)),(11,(.bool x11))] ⟨rfl,rfl,rfl,rfl,rfl,tv⟩ ⟨_,_,_,_,_,rfl,H⟩
      ·replace H:=H.2 g58;refine au (aa ?_);exact ah [(0,(.pointer x0)),(1,(.int .i64 x1)),(5,(.pointer (some x5))),(9,(.pointer x9)),(11,(.bool x11))] ⟨rfl,rfl,rfl,rfl,rfl,tv⟩ ⟨_,_,_,_,_,rfl,H⟩
   ·refine sr (qm rfl (nt ?_));refine am rfl (fun g66=>?_) (fun g66=>?_)
    ·replace H:=H.1 g66;refine sr (qa rfl (nt (sr (qm rfl (te (av Tryz.call65 rfl (F.xdc_ok H)) ?_)))));rintro _ h67 ⟨r68,r69,r70,rfl,H⟩;refine qm rfl (tq (bW rfl rfl) (tq (bW rfl rfl) (tq (bW rfl rfl) (qa rfl (qa rfl (nt (sr (qm rfl (qm rfl (tq (df rfl rfl) (bo ?_)))))))))));refine aa ?_;refine am rfl (fun g71=>?_) (fun g71=>?_)
     ·replace H:=H.1 g71;refine sr (qa rfl (nt (al (aq ?_))));exact an rfl rfl ⟨_,rfl,H⟩
     ·replace H:=H.2 g71;refine au (aa ?_);exact ah [(0,(.pointer x0)),(1,(.int .i64 x1)),(5,(.pointer (some x5))),(7,(.string x7)),(9,(.pointer r14)),(10,(.bool r15)),(11,(.bool r70))] ⟨rfl,rfl,rfl,rfl,rfl,rfl,rfl,tv⟩ ⟨_,_,_,_,_,_,_,rfl,H⟩
    ·replace H:=H.2 g66;refine au (aa ?_);exact ah [(0,(.pointer x0)),(1,(.int .i64 x1)),(5,(.pointer (some x5))),(7,(.string x7)),(9,(.pointer r14)),(10,(.bool r15)),(11,(.bool false))] ⟨rfl,rfl,rfl,rfl,rfl,rfl,rfl,tv⟩ ⟨_,_,_,_,_,_,_,rfl,H⟩
  ·refine aG (fun L' h=>∃ (x0:Option Addr) (x1:Int) (x5:Addr) (x7:ByteArray) (x41:Bool),L'=[(0,(.pointer x0)),(1,(.int .i64 x1)),(5,(.pointer (some x5))),(7,(.string x7)),(41,(.bool x41))]∧F.xam.j4 Q x0 x1 x5 x7 x41 h) ?_ ?_
   ·rintro L' h ⟨x0,x1,x5,x7,x41,rfl,H⟩;unfold F.xam.j4 at H;refine am rfl (fun g72=>?_) (fun g72=>?_)
    ·replace H:=H.1 g72;refine sr (qa rfl (nt (al (aq ?_))));exact an rfl rfl ⟨_,rfl,H⟩
    ·replace H:=H.2 g72;refine au (aa ?_);exact ah [(0,(.pointer x0)),(1,(.int .i64 x1)),(5,(.pointer (some x5))),(7,(.string x7))] ⟨rfl,rfl,rfl,rfl,tv⟩ ⟨_,_,_,_,rfl,H⟩
   ·refine ai (qm rfl (tq (bN rfl rfl) (qm rfl ?_)));refine aT (t:=26) rfl (fun g73=>?_) (fun g73=>?_)
    ·replace H:=H.1 g73;refine ts (ts (tq (aL rfl rfl) (qm rfl (ts (ts (ts (ts (tq (aL rfl rfl) (qm rfl (ts (ts (ts (ts ?_)))))))))))));refine tq (aL rfl rfl) (nt ?_);exact ah [(0,(.pointer p0)),(1,(.int .i64 p1)),(5,(.pointer (some a2))),(7,(.string r6)),(41,(.bool true))] ⟨rfl,rfl,rfl,rfl,rfl,tv⟩ ⟨_,_,_,_,_,rfl,H⟩
    ·replace H:=H.2 g73;refine qm rfl (tq (df rfl rfl) (tq (aH rfl rfl) (qm rfl ?_)));refine aT (t:=30) rfl (fun g74=>?_) (fun g74=>?_)
     ·replace H:=H.1 g74;refine ts (ts (ts (ts (tq (aL rfl rfl) (qm rfl (ts (ts (ts (ts (tq (aL rfl rfl) (nt ?_)))))))))));exact ah [(0,(.pointer p0)),(1,(.int .i64 p1)),(5,(.pointer (some a2))),(7,(.string r6)),(41,(.bool true))] ⟨rfl,rfl,rfl,rfl,rfl,tv⟩ ⟨_,_,_,_,_,rfl,H⟩
     ·replace H:=H.2 g74;refine tq (ay (off:=3) Zq kQ rfl) (tq (ay (off:=0) ZM iI rfl) ?_);obtain ⟨y75,k76,H⟩:=H;refine th (aD ZE rfl) k76 (tq (ct rfl rfl) (tq (aH rfl rfl) (qm rfl ?_)));refine aT (t:=36) rfl (fun g77=>?_) (fun g77=>?_)
      ·replace H:=H.1 g77;refine ts (ts (ts (ts (tq (aL rfl rfl) (nt ?_)))));exact ah [(0,(.pointer p0)),(1,(.int .i64 p1)),(5,(.pointer (some a2))),(7,(.string r6)),(41,(.bool true))] ⟨rfl,rfl,rfl,rfl,rfl,tv⟩ ⟨_,_,_,_,_,rfl,H⟩
      ·replace H:=H.2 g77;refine tq (ay (off:=3) Zq kQ rfl) ?_;obtain ⟨y78,k79,H⟩:=H;refine th (aQ ZK ZD rfl rfl) k79 (te (av Tryz.call63 rfl (F.xca_ok H)) ?_);rintro _ h80 ⟨r81,rfl,H⟩;refine tq (eI rfl) (tq (aH rfl rfl) (nt ?_));exact ah [(0,(.pointer p0)),(1,(.int .i64 p1)),(5,(.pointer (some a2))),(7,(.string r6)),(41,(.bool (!r81)))] ⟨rfl,rfl,rfl,rfl,rfl,tv⟩ ⟨_,_,_,_,_,rfl,H⟩
def F.xdh (p0:Option Addr) (p1:Int) (p2:aO) (h:H) (Q:Int->H->Prop):Prop:=
  new h p2.cells.toArray mx fun a2 h1 =>
  ak h1 (a2.add 0) fun y3 =>
  ec h1 a2 fun y5 =>
  F.xda p0 y3 h1 fun r8 h7 =>
  Cells h7 a2 y5.cells ∧
  F.xam r8 p1 y5 h7 fun r11 h10 =>
  Q r11 h10
theorem F.xdh_ok {p0:Option Addr}{p1:Int}{p2:aO}{h:H}{Q:Int->H->Prop}(H:F.xdh p0 p1 p2 h Q):Fn PP 14 ([(.pointer p0),(.int .i64 p1),(.agg p2.cells.toArray)]:List Value).toArray h fun r h'=>∃ r0,r=(.int .i64 r0)∧Q r0 h':=by
 unfold F.xdh at H;refine aV Tryz.func14 Tryz.ntmps14 rfl rfl fun w0=>(az [(0,(.pointer p0)),(1,(.int .i64 p1)),(2,(.agg p2.cells.toArray))] ⟨rfl,rfl,rfl,tv⟩ (sr (te (cb (cs:=p2.cells.toArray) rfl rfl H) ?_)));rintro _ h1 ⟨a2,rfl,H⟩;refine qa rfl (nt (aj (bv mixed [0,0,2,7,0,0,63,127] (by kernel_rfl) (gq 0 1 rfl (aw rfl) (gq 1 3 rfl (ay (off:=0) Zq gZ rfl) ?_)))));obtain ⟨y3,k4,H⟩:=H;refine gh 2 7 rfl (aQ ZB ZA rfl rfl) k4 (gq 4 23 rfl (aw rfl) ?_);obtain ⟨y5,k6,H⟩:=H;refine gh 5 55 rfl (aQ ZBJ ZZ rfl rfl) k6 (g_e 3 63 [(5,fun h=>Cells h a2 y5.cells)] (by kernel_rfl) rfl (by kernel_rfl) (av Tryz.call46 rfl (F.xda_ok H)) rfl rfl ?_);rintro _ h7 ⟨r8,rfl,H⟩;obtain ⟨k9,H⟩:=H;refine ⟨And.intro k9 trivial,?_⟩;refine g_e 6 127 [] (by kernel_rfl) rfl (by kernel_rfl) (av Tryz.call30 rfl (F.xam_ok H)) rfl rfl ?_;rintro _ h10 ⟨r11,rfl,H⟩;refine ⟨trivial,?_⟩;refine gq 7 255 rfl (bp rfl) (g_d (by kernel_rfl) (aa (al ?_)));exact an rfl rfl ⟨_,rfl,H⟩
def F.xck (p0:Int) (h:H) (Q:Bool->H->Prop):Prop:=
  Q ((p0 != p0)) h
theorem F.xck_ok {p0:Int}{h:H}{Q:Bool->H->Prop}(H:F.xck p0 h Q):Fn PP 89 ([(.int .i64 p0)]:List Value).toArray h fun r h'=>∃ r0,r=(.bool r0)∧Q r0 h':=by
 unfold F.xck at H;refine aV Tryz.func89 Tryz.ntmps89 rfl rfl fun w0=>(az [(0,(.int .i64 p0))] ⟨rfl,tv⟩ (sr (qa rfl (nt (sr (qm rfl (qm rfl (tq (ey rfl rfl) (qa rfl (bo ?_))))))))));refine aa (al ?_);exact an rfl rfl ⟨_,rfl,H⟩
def F.xcm (p0:Int) (p1:Int) (h:H) (Q:Int->H->Prop):Prop:=
  F.xck p0 h fun r2 h1 =>
  F.xck p1 h1 fun r4 h3 =>
  (r2=true ->
  (r4=true ->
  Q 0 h3) ∧
  (r4=false ->
  Q (-1) h3)) ∧
  (r2=false ->
  (r4=true ->
  Q 1 h3) ∧
  (r4=false ->
  ((decide (p0<p1))=true ->
  Q (-1) h3) ∧
  ((decide (p0<p1))=false ->
  ((decide (p0 > p1))=true ->
  Q 1 h3) ∧
  ((decide (p0 > p1))=false ->
  Q 0 h3))))
theorem F.xcm_ok {p0:Int}{p1:Int}{h:H}{Q:Int->H->Prop}(H:F.xcm p0 p1 h Q):Fn PP 48 ([(.int .i64 p0),(.int .i64 p1)]:List Value).toArray h fun r h'=>∃ r0,r=(.int .i64 r0)∧Q r0 h':=by
 unfold F.xcm at H;refine aV Tryz.func48 Tryz.ntmps48 rfl rfl fun w0=>(az [(0,(.int .i64 p0)),(1,(.int .i64 p1))] ⟨rfl,rfl,tv⟩ (sr (qa rfl (nt (sr (qm rfl (te (av Tryz.call89 rfl (F.xck_ok H)) ?_)))))));rintro _ h1 ⟨r2,rfl,H⟩;refine qa rfl (nt (sr (qm rfl (te (av Tryz.call89 rfl (F.xck_ok H)) ?_))));rintro _ h3 ⟨r4,rfl,H⟩;refine qa rfl (nt (aj (sr (qm rfl (nt ?_)))));refine am rfl (fun g5=>?_) (fun g5=>?_)
 ·replace H:=H.1 g5;refine aj (sr (qm rfl (nt ?_)));refine am rfl (fun g6=>?_) (fun g6=>?_)
  ·replace H:=H.1 g6;refine sr (qa rfl (nt (al (aq (aq ?_)))));exact an rfl rfl ⟨_,rfl,H⟩
  ·replace H:=H.2 g6;refine au (aa (sr (qa rfl (nt (al (aq ?_))))));exact an rfl rfl ⟨_,rfl,H⟩
 ·replace H:=H.2 g5;refine au (aa (aj (sr (qm rfl (nt ?_)))));refine am rfl (fun g7=>?_) (fun g7=>?_)
  ·replace H:=H.1 g7;refine sr (qa rfl (nt (al (aq ?_))));exact an rfl rfl ⟨_,rfl,H⟩
  ·replace H:=H.2 g7;refine au (aa (aj (sr (qm rfl (qm rfl (tq (bN rfl rfl) (nt ?_)))))));refine am rfl (fun g8=>?_) (fun g8=>?_)
   ·replace H:=H.1 g8;refine sr (qa rfl (nt (al (aq ?_))));exact an rfl rfl ⟨_,rfl,H⟩
   ·replace H:=H.2 g8;refine au (aa (aj (sr (qm rfl (qm rfl (tq (df rfl rfl) (nt ?_)))))));refine am rfl (fun g9=>?_) (fun g9=>?_)
    ·replace H:=H.1 g9;refine sr (qa rfl (nt (al (aq ?_))));exact an rfl rfl ⟨_,rfl,H⟩
    ·replace H:=H.2 g9;refine au (aa (sr (qa rfl (nt (al ?_)))));exact an rfl rfl ⟨_,rfl,H⟩
def F.xfi (p0:ByteArray) (p1:ByteArray) (h:H) (Q:Int->H->Prop):Prop:=
  Q (qv p0 p1) h
theorem F.xfi_ok {p0:ByteArray}{p1:ByteArray}{h:H}{Q:Int->H->Prop}(H:F.xfi p0 p1 h Q):Fn PP 90 ([(.string p0),(.string p1)]:List Value).toArray h fun r h'=>∃ r0,r=(.int .i64 r0)∧Q r0 h':=by
 unfold F.xfi at H;refine aV Tryz.func90 Tryz.ntmps90 rfl rfl fun w0=>(az [(0,(.string p0)),(1,(.string p1))] ⟨rfl,rfl,tv⟩ (sr (qa rfl (nt (sr (qm rfl (qm rfl (tq (Dt zG rfl) (qa rfl (bo ?_))))))))));refine aa (al ?_);exact an rfl rfl ⟨_,rfl,H⟩
end Go.Proofs.YtjjchpaomgmmdaaGreat.V
