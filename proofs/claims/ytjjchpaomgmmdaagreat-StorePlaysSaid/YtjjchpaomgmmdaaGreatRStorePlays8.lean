/- Parts of the proof of StorePlays; no condition. -/
import Derived.Test.YtjjchpaomgmmdaaGreatRStorePlays7
namespace Go.Proofs.YtjjchpaomgmmdaaGreat.V.S
open Go Go.Proofs.YtjjchpaomgmmdaaGreat.V Go.Proofs.YtjjchpaomgmmdaaGreat.V.M
set_option linter.unusedVariables false
set_option linter.unusedSimpArgs false
set_option maxRecDepth 20000
section
variable {h:H}{a:Addr}{x:St0}
theorem a0 (a:Addr) (i:Nat):(a.add 0).add i=a.add i:=by simp [Addr.add]
theorem dv (c:Cells h a (c0 x)):aA h ((a.add 0).add 1)=some (.int .i64 x.y.x.Epoch):=by rw [a0];exact c 1 _ rfl
theorem iX (c:Cells h a (c0 x)):aA h ((a.add 0).add 9)=some x.y.x.Cells.enc:=by rw [a0];exact c 9 _ rfl
theorem nQ (c:Cells h a (c0 x)):aA h ((a.add 0).add 10)=some x.y.x.Held.enc:=by rw [a0];exact c 10 _ rfl
theorem iE (c:Cells h a (c0 x)):aA h ((a.add 0).add 14)=some (.int .i64 x.y.x.Most):=by rw [a0];exact c 14 _ rfl
theorem iY (c:Cells h a (c0 x)):aA h (a.add 15)=some (.int .i64 x.n):=c 15 _ rfl
theorem oW (c:Cells h a (c0 x)):aA h (((a.add 0).add 2).add 1)=some (.string x.y.x.Cell.Key):=by
 have e:((a.add 0).add 2).add 1=a.add 3:=by simp [Addr.add]
 rw [e];exact c 3 _ rfl
theorem yS (c:Cells h a (c0 x)):Cells h ((a.add 0).add 5) x.y.x.Agg.cells:=fun i v hv=>by
 have hi:i<4:=(List.getElem?_eq_some_iff.1 hv).1
 have e:((a.add 0).add 5).add i=a.add (5+i):=by simp [Addr.add,Nat.add_assoc]
 rw [e]
 exact c (5+i) v (by
  match i,hi,hv with
  | 0,_,hv=>exact hv
  | 1,_,hv=>exact hv
  | 2,_,hv=>exact hv
  | 3,_,hv=>exact hv)
theorem kC (c:Cells h a (c0 x)):Cells h ((a.add 0).add 11) x.y.x.To.cells:=fun i v hv=>by
 have hi:i<3:=(List.getElem?_eq_some_iff.1 hv).1
 have e:((a.add 0).add 11).add i=a.add (11+i):=by simp [Addr.add,Nat.add_assoc]
 rw [e]
 exact c (11+i) v (by
  match i,hi,hv with
  | 0,_,hv=>exact hv
  | 1,_,hv=>exact hv
  | 2,_,hv=>exact hv)
end
theorem mj:¬ ShE dP:=by unfold ShE;decide
theorem xq:¬ ShE eX:=by unfold ShE;decide
theorem Bd:¬ ShE aJ:=by unfold ShE;decide
theorem rg {R:Nat->Prop}{h h':H}{m:Nat}{c:Array Value}{e:TypeId}(o:cX R h h') (b:Blk h m c e) (he:¬ ShE e):Blk h' m c e:=o.block b fun hh=>iw b he hh.2
theorem CE {base h0 h:H}{p:Nat}{l:Sl}{ps:List Nat}{S:SL}{slots:Nat}{i:Int}{b n c:Nat}{E:List Int}{Q:Int->H->Prop}(t:TI base h0 p l ps S slots) (e:Ext h0 h) (rd:bS h ⟨some ⟨b,0,none⟩,n,c⟩ 1 (E.flatMap cI)) (hE:E.length<1073741824)
  (hb0:h0.size<=b) (hb:b<h.size) (k:∀ h',TI base h' p l ps (jA ps.length i S E) slots->rR base h h'->Q ((aR (dZ ps.length i S):Int)-aR (dp (dZ ps.length i S) E)) h'):F.xef (some ⟨p,0,none⟩) i ⟨some ⟨b,0,none⟩,n,c⟩ h Q:=by
 obtain ⟨R,t1,hR⟩:=t.t
 refine CJ (t1.ext e) rd hE (fun _ x hx=>?_) fun h' R' t' o hR'=>?_
 ·have hx:b=x:=by simpa [Sl.blk] using hx
  subst hx
  exact ⟨hb,fun g=>by have:=t1.lt _ g;omega⟩
 ·have e0:=t.e.trans e
  exact k h' ⟨⟨R',t',fun x hx=>(hR' x hx).elim (hR x) fun g=>Nat.le_trans e0.size g⟩,o.base e0 hR,t.hp,t.hl⟩ (o.mono fun x _ g=>⟨hR x g.1,g.2⟩)
structure PQ (base h:H) (p:Nat) (l:Sl) (ps:List Nat) (d:Nat) (l':Sl) (ds:List Nat) (S:SL) (slots:Nat):Prop where
 t:TI base h p l ps S slots
 z:DS h d l' ds S slots
 hl:ds.length=ps.length
 hq:∀ q∈ds,base.size<=q
 hd:base.size<=d
section
variable {base h h':H}{p:Nat}{l:Sl}{ps:List Nat}{d:Nat}{l':Sl}{ds:List Nat}{S S':SL}{slots:Nat}
theorem TI.doc (t:TI base h p l ps S slots) (z:DS h d l' ds S' slots) (hq:∀ q∈ds,base.size<=q) (o:bI (·∈ds) h h'):TI base h' p l ps S slots:=
 t.keep (t.e.step o fun x hx hb=>by have:=hq x hb;omega) o (fun b _ ht hb=>by
  obtain ⟨c,hc⟩:=z.typ hb
  exact iw hc D4 ht) (fun hb=>by
  obtain ⟨c,hc⟩:=z.typ hb
  have:=t.sb.symm.trans hc
  simp at this
  exact absurd this.2 (by decide)) fun b hb hs=>by
  obtain ⟨c,hc⟩:=z.typ hs
  exact fz t.own hc (by decide) hb
theorem DS.kp (z:DS h d l' ds S slots) (o:bI (·∈ds) h h'){m:Nat}{c:Array Value}{e:TypeId}(b:Blk h m c e) (he:e≠tS7):Blk h' m c e:=o.block b fun hb=>by
 obtain ⟨c',hc⟩:=z.typ hb
 have:=hc.symm.trans b
 simp at this
 exact he this.2.symm
theorem DS.kpo (z:DS h d l' ds S slots) (o:bI (·∈ds) h h'){s:Sl}{e:TypeId}{k:Nat}{cs:List Value}(w:aU h s e k cs) (he:e≠tS7):aU h' s e k cs:=w.only o fun b hb hs=>by
 obtain ⟨c,hc⟩:=z.typ hs
 exact fz w hc he hb
theorem PQ.ext (q:PQ base h p l ps d l' ds S slots) (e:Ext h h'):PQ base h' p l ps d l' ds S slots:=⟨q.t.ext e,q.z.ext e,q.hl,q.hq,q.hd⟩
theorem PQ.aok (q:PQ base h p l ps d l' ds S slots):AOk ds.length S slots:=by
 obtain ⟨R,t1,_⟩:=q.t.t
 rw [q.hl];exact t1.aok
theorem PQ.both (q:PQ base h p l ps d l' ds S slots){h2:H}(t:TI base h' p l ps S' slots) (o:rR base h h') (z:DS h2 d l' ds S' slots) (o2:bI (·∈ds) h' h2):PQ base h2 p l ps d l' ds S' slots:=
 ⟨t.doc (q.z.sonly o) q.hq o2,z,q.hl,q.hq,q.hd⟩
theorem PQ.oth (q:PQ base h p l ps d l' ds S slots){b:Nat}{c:Array Value}{t:TypeId}(o:bI (·=b) h h') (hb:Blk h b c t) (h1:¬ ShE t∧t≠tSt∧t≠tPs) (h2:t≠tS7∧t≠tH7∧t≠tV7) (h3:t≠tSd) (h4:t≠tPd) (hbb:base.size<=b):PQ base h' p l ps d l' ds S slots:=
 ⟨q.t.blk o hb h1 hbb,q.z.blk o hb h2 h3 h4,q.hl,q.hq,q.hd⟩
theorem BW {h0:H}{y:St0}{Q:Bool->H->Prop}(yok:pc h0 y) (k:∀ h',Ext h h'->Q (decide (y.y.C.length<=100∧y.y.E.length<=100)) h'):F.xer ⟨y.y.x,y.n⟩ h Q:=by
 have hc:=cz dr (by omega) yok.ok.rc
 have he:=cz fZ (by omega) yok.ok.re
 unfold F.xer
 refine aN fun m h1 hm b1 e1 s1=>?_
 have cc:Cells h1 ⟨m,0,none⟩ (c0 y):=Blk.cells (cs:=c0 y) b1
 have k:=k h1 e1
 refine dJ (iX cc) ?_
 rw [hc]
 refine ⟨fun g=>?_,fun g=>?_⟩
 ·refine dJ (nQ cc) ?_
  rw [he]
  have g:=of_decide_eq_true g
  rw [show decide (y.y.C.length<=100∧y.y.E.length<=100)=decide ((y.y.E.length:Int)<=100) by rw [decide_eq_decide];omega] at k
  exact k
 ·have g:=of_decide_eq_false g
  rw [decide_eq_false (by omega)] at k
  exact k
theorem A4 {Q:Bool->H->Prop}(q:PQ base h p l ps d l' ds S slots) (k:∀ h',Ext h h'->Q true h'):F.xcz (some ⟨p,0,none⟩) (some ⟨d,0,none⟩) h Q:=by
 unfold F.xcz
 refine ⟨ds.length+3,?_⟩
 have a:=q.aok
 have n2:=a.n2
 have key:∀ (f:Nat) (i:Int),-1<=i->i<=ds.length+1->ds.length+1-i<f->F.xcz.l1 Q f (some ⟨p,0,none⟩) (some ⟨d,0,none⟩) i h:=by
  intro f
  induction f with
  | zero=>intro i _ _ hm;omega
  | succ f ih =>
   intro i h1 h2 hm
   unfold F.xcz.l1
   simp only [aZ,aC,Nat.add_zero]
   refine q.z.ldl ?_
   rw [q.z.len]
   refine ⟨fun g=>?_,fun g=>?_⟩
   ·have g:=of_decide_eq_true g
    refine CH q.t (CC q.z a ?_)
    rw [q.hl]
    refine ⟨fun g=>by simp at g,fun _=>?_⟩
    rw [w64 (by omega) (by omega)]
    exact ih (i+1) (by omega) (by omega) (by omega)
   ·refine CD q.t (Cz q.z a ⟨fun _=>DI q.t fun h16 e16=>DC (q.z.ext e16) a ?_,fun g=>by simp at g⟩)
    have:=k h16 e16
    simpa using this
 exact key _ (-1) (by omega) (by omega) (by omega)
theorem A6 {y:St0}{Q:Bool->H->Prop}(q:PQ base h p l ps d l' ds S slots) (yok:pc base y) (hS:S.length<99999) (hc100:y.y.C.length<=100) (he100:y.y.E.length<=100)
  (k:∀ h' S',PQ base h' p l ps d l' ds S' slots->S'.length<=S.length+1->Q true h'):F.xbu (some ⟨p,0,none⟩) (some ⟨d,0,none⟩) ⟨y.y.x,y.n⟩ h Q:=by
 have a:=q.aok
 have hl:=q.hl
 have hck:=yok.key
 unfold F.xbu
 refine aN fun m h1 hm b1 e1 s1=>?_
 have q1:=q.ext e1
 have b1':Blk h1 m (c0 y).toArray dP:=b1
 have cc1:Cells h1 ⟨m,0,none⟩ (c0 y):=Blk.cells b1'
 have ce:∀ {h2:H},Ext h1 h2->Cells h2 ⟨m,0,none⟩ (c0 y):=fun e=>cc1.ext e
 have stay:∀ {S':SL},PQ base h1 p l ps d l' ds S slots->True:=fun _=>trivial
 refine aW (wF cc1) ⟨fun _=>?_,fun _=>⟨fun _=>?_,fun _=>⟨fun _=>?_,fun _=>⟨fun _=>?_,fun _=>⟨fun _=>?_,fun _=>⟨fun _=>?_,fun _=>k h1 S q1 (by omega)⟩⟩⟩⟩⟩⟩
 ·-- put
  refine ⟨y.y.x.Cell,dD cc1,y.y.x.Agg,yS cc1,aN fun r h10 hr b10 e10 s10=>?_⟩
  refine cC (vs:=cW (⟨y.y.x.Cell,y.y.x.Agg⟩:Rw)) b10 (Nat.le_refl 7) fun h12 b12 o12 s12=>?_
  rw [cE (by rfl)] at b12
  have e12:Ext h1 h12:=e10.step o12 fun x hx hb=>by omega
  have q12:=q1.ext e12
  have m12:Blk h12 m (c0 y).toArray dP:=e12.block b1' fun f=>f
  obtain ⟨a1,a2,a3,a4⟩:=yok.ok.agg
  refine aW (dv (ce e12)) ⟨(⟨y.y.x.Cell,y.y.x.Agg⟩:Rw),Blk.cells b12,aW (dv (ce e12)) ⟨(⟨y.y.x.Cell,y.y.x.Agg⟩:Rw),Blk.cells b12,?_⟩⟩
  refine Eh (x:=⟨y.y.x.Cell,y.y.x.Agg⟩) q12.t hck (yK a1 a2 a3 a4) fun h21 t21 o21=>⟨Blk.cells (rg o21 b12 Dd),dv (Blk.cells (rg o21 m12 mj)),?_⟩
  have z21:=q12.z.sonly o21
  refine Ef (x:=⟨y.y.x.Cell,y.y.x.Agg⟩) z21 a hck a1 a2 a3 a4 (fun g h25 e25=>?_) fun g h25 z25 o25=>?_
  ·rw [hl] at g ⊢
   rw [if_neg g] at t21
   have:=k h25 S ⟨t21.ext e25,z21.ext e25,hl,q.hq,q.hd⟩ (by omega)
   simpa using this
  ·rw [hl] at g
   rw [g] at t21 ⊢
   rw [if_pos rfl] at t21
   have:=k h25 _ (q12.both t21 o21 z25 o25) (Az _ _ _)
   simpa using this
 ·-- kill
  refine aW (dv cc1) ⟨y.y.x.Cell,dD cc1,aW (dv cc1) ⟨y.y.x.Cell,dD cc1,?_⟩⟩
  refine DG q1.t hck fun h36 t36 o36=>⟨dD (Blk.cells (rg o36 b1' mj)),dv (Blk.cells (rg o36 b1' mj)),?_⟩
  have z36:=q1.z.sonly o36
  refine DB z36 a hck (fun g h40 e40=>?_) fun g h40 z40 o40=>?_
  ·rw [if_neg g] at t36
   have:=k h40 S ⟨t36.ext e40,z36.ext e40,hl,q.hq,q.hd⟩ (by omega)
   simpa using this
  ·rw [if_pos g] at t36
   rw [g]
   have:=k h40 _ (q1.both t36 o36 z40 o40) (yy _ _)
   simpa using this
 ·-- pruned
  refine dJ (nQ cc1) (vB (yok.ok.re.ext q1.t.e) (by omega) fun b c h45 w45 hb45 e45=>?_)
  have q45:=q1.ext e45
  have hsz:=q1.t.e.size
  obtain ⟨c',bl45⟩:∃ c',Blk h45 b c' eX:=ie w45 rfl
  have m45:Blk h45 m (c0 y).toArray dP:=e45.block b1' fun f=>f
  refine aW (iY (Blk.cells m45)) ?_
  refine CE q1.t e45 (qg.reads w45).reads (by omega) hb45 (dx bl45) fun h49 t49 o49=>?_
  have z49:=q45.z.sonly o49
  have m49:=rg o49 m45 mj
  have w49:=o49.owns w45 xq
  have e049:=t49.e
  refine aW (iY (Blk.cells m49)) (dJ (nQ (Blk.cells m49)) ?_)
  refine CA z49 a (yok.ok.re.ext e049) (by omega) fun h55 z55 o55=>?_
  rw [hl] at z55 ⊢
  refine ⟨fun _=>?_,fun g=>by simp at g⟩
  have q55:=q45.both t49 o49 z55 o55
  have m55:=z49.kp o55 m49 (by decide)
  have w55:qg h55 b c y.y.E:=z49.kpo o55 w49 (by decide)
  refine dJ (nQ (Blk.cells m55)) ?_
  obtain ⟨c55,bl55⟩:∃ c',Blk h55 b c' eX:=ie w55 rfl
  refine rA w55 (yok.ok.re.ext q55.t.e) (fun hne hb'=>?_) (by omega) fun h60 o60=>?_
  ·have:=yok.ok.be hne b hb'
   omega
  ·exact k h60 _ (q55.oth o60 bl55 ⟨xq,by decide,by decide⟩ (by decide) (by decide) (by decide) (by omega)) (Nat.le_succ_of_le wq)
 ·-- told
  refine ⟨y.y.x.Cell,dD cc1,y.y.x.Cell,dD cc1,Eg q1.t hck fun h67 e67=>⟨dD (ce e67),DAt (q1.z.ext e67) a hck fun h70 e70=>⟨fun _=>?_,fun g=>by rw [zr.2 rfl] at g;cases g⟩⟩⟩
  have x70:=e67.trans e70
  refine ⟨y.y.x.Cell,dD (ce x70),aW (dv (ce x70)) ⟨y.y.x.Cell,dD (ce x70),aW (dv (ce x70)) (IAt (q1.t.ext x70) hck fun h81 e81=>?_)⟩⟩
  have x81:=x70.trans e81
  refine ⟨dv (ce x81),dD (ce x81),DAt (q1.z.ext x81) a hck fun h85 e85=>⟨fun _=>?_,fun g=>by rw [zr.2 rfl] at g;cases g⟩⟩
  have x85:=x81.trans e85
  refine jU (oW (ce x85)) (jU (oW (ce x85)) (CG (q1.t.ext x85) hck fun h92 e92=>⟨oW (ce (x85.trans e92)),vv (q1.z.ext (x85.trans e92)) a.pos a.n2 hck ?_⟩))
  rw [hl]
  have:=k h92 S (q1.ext (x85.trans e92)) (by omega)
  simpa using this
 ·-- fits
  have j2t:F.xbu.j2 Q (some ⟨p,0,none⟩) (some ⟨d,0,none⟩) ⟨m,0,none⟩ true h1:=by
   unfold F.xbu.j2
   exact ⟨fun _=>k h1 S q1 (by omega),fun g=>by cases g⟩
  refine aW (dv cc1) ⟨fun _=>j2t,fun g=>aW (dv cc1) ?_⟩
  have g:=of_decide_eq_false g
  by_cases g2:y.y.x.Epoch > 1099511627776
  ·rw [decide_eq_true g2];exact j2t
  rw [decide_eq_false g2]
  unfold F.xbu.j2 F.xbu.j1
  refine ⟨fun g=>(by cases g),fun _=>?_⟩
  have hkc:∀ c∈y.y.C,gH c:=fun c hc=>by
   have:=(yok.ok.oc c hc).2.2
   simp only [maxLen] at this;show c.Key.size<=_;omega
  refine dJ (iX cc1) (qe (yok.ok.rc.ext q1.t.e) (by omega) fun b c h100 w100 hb100 e100=>?_)
  have q100:=q1.ext e100
  refine aW (dv (ce e100)) (aW (dv (ce e100)) (dJ (iX (ce e100)) ?_))
  refine DF q100.t (qf.reads w100).reads (by omega) hkc fun h108 e108=>?_
  have x108:=e100.trans e108
  refine ⟨iX (ce x108),dv (ce x108),DA (q1.z.ext x108) a (by omega) (yok.ok.rc.ext (q1.t.e.trans x108)) (by omega) hkc fun h112 e112=>?_⟩
  rw [hl]
  have x112:=x108.trans e112
  refine ⟨fun _=>?_,fun g=>by simp at g⟩
  have w112:qf h112 b c y.y.C:=aU.ext w100 (e108.trans e112)
  obtain ⟨c112,bl112⟩:∃ c',Blk h112 b c' aJ:=ie w112 rfl
  have hsz:=q1.t.e.size
  refine dJ (iX (ce x112)) (qd w112 (yok.ok.rc.ext (q1.t.e.trans x112)) (fun hne hb'=>by have:=yok.ok.bc hne b hb';omega) (by omega) fun h117 o117=>?_)
  exact k h117 S ((q1.ext x112).oth o117 bl112 ⟨Bd,by decide,by decide⟩ (by decide) (by decide) (by decide) (by omega)) (by omega)
 ·-- ranges
  have c1:=cc1
  refine aW (iY c1) (aW (dv c1) ⟨y.y.x.Cell,dD c1,y.y.x.To,kC c1,aW (iE c1) (aW (iY c1) (aW (dv c1) ⟨y.y.x.Cell,dD c1,y.y.x.To,kC c1,aW (iE c1) (CF q1.t fun r h146 w146 m146 e146=>?_)⟩))⟩)
  have c2:=ce e146
  refine ⟨iE c2,kC c2,dD c2,dv c2,iY c2,CB (q1.z.ext e146) a fun r2 h153 w153 m153 e153=>?_⟩
  rw [hl] at w153
  have hpl:∀ i,(dZ ps.length i S).length<=S.length:=fun i=>by
   unfold dZ;split
   ·exact Av
   ·exact Nat.zero_le _
  have hrl:=wC (dZ ps.length y.n S) y.y.x.Epoch y.y.x.Cell y.y.x.To
  have hp1:=hpl y.n
  refine ms (w146.ext e153).reads w153.reads (by rw [List.length_take];omega) (fun _=>⟨fun _=>?_,fun g=>by cases g⟩) fun hne=>absurd rfl hne
  have x153:=e146.trans e153
  have c3:=ce x153
  refine aW (dv c3) ⟨y.y.x.Cell,dD c3,y.y.x.To,kC c3,aW (iE c3) (aW (dv c3) ⟨y.y.x.Cell,dD c3,y.y.x.To,kC c3,aW (iE c3) (DJ (q1.t.ext x153) (by omega) fun r3 h174 w174 m174 e174=>?_)⟩)⟩
  have x174:=x153.trans e174
  have c4:=ce x174
  have hrl2:=wC S y.y.x.Epoch y.y.x.Cell y.y.x.To
  refine ⟨iE c4,kC c4,dD c4,dv c4,DE (q1.z.ext x174) a (by omega) fun r4 h180 w180 e180=>?_⟩
  refine ms (w174.ext e180).reads w180 (by rw [List.length_take];omega) (fun _=>k h180 S (q1.ext (x174.trans e180)) (by omega)) fun hne=>absurd rfl hne
end
theorem pC {sh slots0:Int}{l0:Sl}{L:List St0}{h:H}{Q:Bool->H->Prop}(rd:bS h l0 16 (L.flatMap c0)) (ok:∀ y∈L,pc h y) (hL:L.length<=9223372036854775807) (k:∀ h',Ext h h'->Q true h'):F.xac sh slots0 l0 h Q:=by
 unfold F.xac
 have hlen:=cz tu (by omega) rd
 refine DN (fun g=>?_) fun g1 g2 g3 g4 h1 p l ps R hps t1 e1 hR1 hp1 hl1=>?_
 ·-- none
  refine DD (fun _ h4 e4=>⟨fun g=>by simp at g,fun _=>?_⟩) fun g1 g2 g3 g4=>by omega
  unfold F.xac.j7 F.xac.j1
  refine ⟨fun g=>by simp at g,fun _=>⟨1,?_⟩⟩
  unfold F.xac.l2
  have hh:∀ C1,F.xac.j6 Q C1 l0 none none 0 false h4:=fun C1=>by
   unfold F.xac.j6
   exact ⟨fun g=>(by cases g),fun _=>zZ fun h' e'=>k h' (e4.trans e')⟩
  exact ⟨fun _=>⟨fun _=>hh _,fun _=>hh _⟩,fun _=>hh _⟩
 refine DD (fun g=>by omega) fun _ _ _ _ h4 d l' ds hds z4 e4 hd hq=>⟨fun g=>by simp at g,fun _=>?_⟩
 have hn:ds.length=ps.length:=by omega
 have hz1:=e1.size
 generalize hsl:slots0.toNat=slots at t1 z4
 have t4:TI h h4 p l ps [] slots:=⟨⟨R,t1.ext e4,hR1⟩,e1.trans e4,hp1,hl1⟩
 unfold F.xac.j7 F.xac.j1
 refine ⟨fun g=>by simp at g,fun _=>⟨L.length+1,?_⟩⟩
 have steps:∀ (f i:Nat) (S:SL) (hh:H),i<=L.length->L.length-i<f->PQ h hh p l ps d l' ds S slots->S.length<=i->i<=150->F.xac.l2 Q f l0 (some ⟨p,0,none⟩) (some ⟨d,0,none⟩) (i:Int) hh:=by
  intro f
  induction f with
  | zero=>intro i _ _ _ hm;omega
  | succ f ih =>
   intro i S hh hi hm q hS h150
   unfold F.xac.l2
   rw [hlen]
   have done:∀ C1,F.xac.j6 Q C1 l0 (some ⟨p,0,none⟩) (some ⟨d,0,none⟩) (i:Int) false hh:=fun C1=>by
    unfold F.xac.j6
    exact ⟨fun g=>(by cases g),fun _=>zZ fun h' e'=>k h' (q.t.e.trans e')⟩
   refine ⟨fun gg=>⟨fun g150=>?_,fun _=>done _⟩,fun _=>done _⟩
   have gg:=of_decide_eq_true gg
   have g150:=of_decide_eq_true g150
   obtain ⟨y,hy⟩:∃ y,L[i]?=some y:=⟨_,List.getElem?_eq_getElem (by omega)⟩
   have yok:=ok y (List.mem_of_getElem? hy)
   have next:∀ (h':H) (S':SL),PQ h h' p l ps d l' ds S' slots->S'.length<=i+1->F.xac.j5 Q (F.xac.l2 Q f) l0 (some ⟨p,0,none⟩) (some ⟨d,0,none⟩) (i:Int) false h':=fun h' S' q' hS'=>by
    unfold F.xac.j5 F.xac.j4
    refine ⟨fun g=>(by cases g),fun _=>?_⟩
    rw [w64 (by omega) (by omega)]
    exact ih (i+1) S' h' (by omega) (by omega) q' hS' (by omega)
   unfold F.xac.j6 F.xac.j3
   refine ⟨fun _=>vj rd q.t.e hy fun a ca=>⟨⟨y.y.x,y.n⟩,ca,BW yok fun h12 e12=>⟨fun g=>?_,fun g=>next h12 S (q.ext e12) (by omega)⟩⟩,fun g=>by simp at g⟩
   have g:=of_decide_eq_true g
   have q12:=q.ext e12
   refine vj rd q12.t.e hy fun a2 ca2=>⟨⟨y.y.x,y.n⟩,ca2,A6 q12 yok (by omega) g.1 g.2 fun h19 S' q19 hS'=>⟨fun g=>(by cases g),fun _=>A4 q19 fun h22 e22=>?_⟩⟩
   exact next h22 S' (q19.ext e22) (by omega)
 exact steps _ 0 [] h4 (by omega) (by omega) ⟨t4,z4,hn,fun q hq'=>Nat.le_trans hz1 (hq q hq'),Nat.le_trans hz1 hd⟩ (by simp) (by omega)
end Go.Proofs.YtjjchpaomgmmdaaGreat.V.S
