/- Parts of the proof of StorePlays; no condition. -/
import Derived.ArgAppend
import Derived.ChangeSlices
import Derived.OpenShut
import Derived.Shelf.SlLaysF0
import Derived.Sort.KeysCollected
import Derived.Test.YtjjchpaomgmmdaaGreatProg
import Derived.Test.YtjjchpaomgmmdaaGreatRStorePlays5
namespace Go.Proofs.YtjjchpaomgmmdaaGreat.V.P
open Go Go.Proofs.YtjjchpaomgmmdaaGreat.V
set_option linter.unusedVariables false
set_option linter.unusedSimpArgs false
set_option maxRecDepth 20000
def tkL (R:List (Pl (Option Addr))):List (ByteArray×Value):=(R.filter fun p=>decide (p.is_=1)).map fun p=>(p.key,.pointer p.value)
theorem mn (A B:List (Pl (Option Addr))):tkL (A ++ B)=tkL A ++ tkL B:=by simp [tkL]
theorem xI {p:Pl (Option Addr)}(h:p.is_=1):tkL [p]=[(p.key,.pointer p.value)]:=by simp [tkL,h]
theorem Dl {p:Pl (Option Addr)}(h:p.is_≠1):tkL [p]=[]:=by simp [tkL,h]
def KU (W:List (Pl (Option Addr))):Prop:=((tkL W).map (·.1)).Nodup
theorem zk {T:Tb (Option Addr)}(t:TOk T):KU (T.row ++ T.elder):=by
 unfold KU tkL
 rw [List.map_map]
 unfold List.Nodup
 rw [List.pairwise_map,List.pairwise_filter,List.pairwise_append]
 have one:∀ {R:List (Pl (Option Addr))},ew R->R.Pairwise fun a b=>decide (a.is_=1)=true->decide (b.is_=1)=true->((fun x:ByteArray×Value=>x.1)∘fun p:Pl (Option Addr)=>(p.key,Value.pointer p.value)) a≠((fun x:ByteArray×Value=>x.1)∘fun p:Pl (Option Addr)=>(p.key,Value.pointer p.value)) b:=fun {R} r=>by
  rw [List.pairwise_iff_getElem]
  intro i j hi hj hij h1 h2 he
  have:=r.uniq i j R[i] R[j] (List.getElem?_eq_getElem hi) (List.getElem?_eq_getElem hj) (by simpa using h1) (by simpa using h2) (congrArg kL he)
  omega
 refine ⟨one t.row,one t.elder,fun a ha b hb h1 h2 he=>?_⟩
 obtain ⟨i,hi⟩:=List.mem_iff_getElem?.1 ha
 obtain ⟨j,hj⟩:=List.mem_iff_getElem?.1 hb
 exact t.apart i j a b hi hj (by simpa using h1) (by simpa using h2) (congrArg kL he)
noncomputable def xY (T:Tb (Option Addr)):List (ByteArray×Option Addr):=(ii ((tkL (T.row ++ T.elder)).map (·.1))).map fun k=>(k,(dO T k).getD iv)
theorem uh {T:Tb (Option Addr)}(t:TOk T){k:ByteArray}{v:Value}(h:(k,v)∈tkL (T.row ++ T.elder)):∃ n,dO T k=some n∧v=.pointer n:=by
 unfold tkL at h
 obtain ⟨p,hp,he⟩:=List.mem_map.1 h
 cases he
 rw [List.mem_filter] at hp
 obtain ⟨hp,h1⟩:=hp
 have h1:p.is_=1:=by simpa using h1
 refine ⟨p.value,?_,rfl⟩
 rcases List.mem_append.1 hp with hp | hp
 ·obtain ⟨i,hi⟩:=List.mem_iff_getElem?.1 hp
  exact nA t hi h1 rfl
 ·obtain ⟨i,hi⟩:=List.mem_iff_getElem?.1 hp
  exact lZ t (fun j ⟨q,g1,g2,g3⟩=>t.apart j i q p g1 hi g2 h1 g3) hi h1 rfl
theorem AS {T:Tb (Option Addr)}(t:TOk T):(tkL (T.row ++ T.elder)).length=T.count:=by
 unfold tkL
 rw [List.length_map,← List.countP_eq_length_filter,List.countP_append,← t.cnt]
 rfl
structure pB (h:H) (ka ma b:Nat) (r:Sl) (L:List (ByteArray×Option Addr)):Prop where
 kb:Blk h ka #[r.enc] dE
 ko:aU h r 9 1 ((L.map (·.1)).flatMap cT)
 mb:Blk h ma #[.map (some b)] bw
 mp:∃ M,lj h b M∧∀ p∈L,dI M p.1=some (.pointer p.2)
 len:L.length<1073741824
theorem pB.only {S:Nat->Prop}{h h':H}{ka ma b:Nat}{r:Sl}{L:List (ByteArray×Option Addr)}(s:pB h ka ma b r L) (o:bI S h h') (hn:∀ n,SQF ka ma b r n->¬ S n):pB h' ka ma b r L:=by
 obtain ⟨M,m1,m2⟩:=s.mp
 exact ⟨o.block s.kb (hn _ (.inl rfl)),s.ko.only o fun n e=>hn n (.inr (.inr (.inr e))),o.block s.mb (hn _ (.inr (.inl rfl))),⟨M,m1.only o (hn _ (.inr (.inr (.inl rfl)))),m2⟩,s.len⟩
theorem pB.lt {h:H}{ka ma b:Nat}{r:Sl}{L:List (ByteArray×Option Addr)}(s:pB h ka ma b r L):∀ n,SQF ka ma b r n->n<h.size:=fun n hn=>by
 obtain ⟨M,m1,m2⟩:=s.mp
 rcases hn with rfl | rfl | rfl | hn
 ·exact dx s.kb
 ·exact dx s.mb
 ·exact m1.lt
 ·exact s.ko.blk_lt hn
theorem pJ {h hs:H}{Q:Value->H->Prop}{s22 s28:Sl}{x23 x24:Int}{C1:Addr->Sl->Int->Int->H->Prop}{ma b:Nat}{pre R:List (Pl (Option Addr))}(hm0:h.size<=ma) (hb0:h.size<=b) (hmb:ma≠b) (hR:R.length<=BIG) (ku:KU (pre ++ R))
  (k:∀ h',Ext h h'->bI (·=b) hs h'->Blk h' ma #[.map (some b)] bw->lj h' b (tkL (pre ++ R))->C1 ⟨ma,0,none⟩ s22 x23 (IntKind.wrap .i64 (x24+1)) h') (hrd:bS h s28 3 (R.flatMap cP)) :
  ∀ (m i:Nat) (h':H),Ext h h'->bI (·=b) hs h'->Blk h' ma #[.map (some b)] bw->lj h' b (tkL (pre ++ R.take i))->i<=R.length->R.length-i<m->F.xai.l2 Q C1 m ⟨ma,0,none⟩ s22 x23 x24 s28 (s28.len:Int) (i:Int) h'
 | 0,i,h',e,eo,bm,mp,hi,hm=>by omega
 | m+1,i,h',e,eo,bm,mp,hi,hm=>by
  unfold F.xai.l2
  have hlen:=cz gD (by omega) hrd
  rw [hlen]
  simp only [decide_eq_true_eq,decide_eq_false_iff_not]
  simp only [BIG] at hR
  refine ⟨fun g=>?_,fun g=>?_⟩
  ·obtain ⟨p,hp⟩:∃ p,R[i]?=some p:=⟨_,List.getElem?_eq_getElem (by omega)⟩
   obtain ⟨a,q1,q2,q3⟩:=gw gD (by omega) (hrd.ext e) hp
   refine dK q1 (by omega) rfl ?_
   refine ⟨⟨(p.is_:Int),p.key,p.value⟩,q3,?_⟩
   refine aN fun n h1 hn b1 e1 _=>?_
   refine cC b1 (by simp [aE.cells]) fun h2 b2 e2 _=>?_
   rw [cE (by simp [aE.cells])] at b2
   have x2:Ext h' h2:=e1.step e2 fun j hj hf=>by omega
   simp only [aC,Nat.zero_add]
   rw [bA (b2.cell (i:=0) rfl)]
   have htk:R.take (i+1)=R.take i ++ [p]:=by rw [List.take_add_one,hp];rfl
   rw [w64 (by omega) (by omega),show (i:Int)+1=((i+1:Nat):Int) from by omega]
   simp only [beq_iff_eq,beq_eq_false_iff_ne]
   refine ⟨fun g1=>?_,fun g1=>?_⟩
   ·have h1:p.is_=1:=by have:(p.is_:Int)=1:=g1;omega
    have bm2:=x2.block bm (fun f=>f)
    rw [pT ((show Blk h2 ma #[.map (some b)] bw from bm2).cell (i:=0) rfl),eP (b2.cell (i:=1) rfl),gB (b2.cell (i:=2) rfl)]
    refine B5 (kt:=9) (et:=_) cK ZBF (mp.only x2 (fun f=>f)) fun h3 m3 e3 _=>?_
    have hnew:p.key∉(tkL (pre ++ R.take i)).map (·.1):=fun hin=>by
     have hs:R=R.take i ++ p :: R.drop (i+1):=by
      have:=List.take_append_drop i R
      rw [List.drop_eq_getElem_cons (show i<R.length by omega)] at this
      have hpe:R[i]=p:=(List.getElem?_eq_some_iff.1 hp).2
      rw [hpe] at this
      exact this.symm
     unfold KU at ku
     rw [hs,← List.append_assoc,mn,List.map_append,List.nodup_append] at ku
     have:p.key∈(tkL (p :: R.drop (i+1))).map (·.1):=by
      rw [show p :: R.drop (i+1)=[p] ++ R.drop (i+1) from rfl,mn,xI h1]
      simp
     exact ku.2.2 _ hin _ this rfl
    rw [BL hnew] at m3
    have hM:tkL (pre ++ R.take (i+1))=tkL (pre ++ R.take i) ++ [(p.key,.pointer p.value)]:=by rw [htk,← List.append_assoc,mn,xI h1]
    have:=pJ (Q:=Q) hm0 hb0 hmb (by simp only [BIG];omega) ku k hrd m (i+1) h3 ((e.trans x2).step e3 fun j hj hf=>by omega) ((eo.ext x2).trans e3 fun _ _ e=>e) (e3.block bm2 hmb) (by rw [hM];exact m3) (by omega) (by omega)
    rw [hlen] at this
    exact this
   ·have h1:p.is_≠1:=fun h=>g1 (by show (p.is_:Int)=1;omega)
    have hM:tkL (pre ++ R.take (i+1))=tkL (pre ++ R.take i):=by rw [htk,← List.append_assoc,mn,Dl h1,List.append_nil]
    have:=pJ (Q:=Q) hm0 hb0 hmb (by simp only [BIG];omega) ku k hrd m (i+1) h2 (e.trans x2) (eo.ext x2) (x2.block bm (fun f=>f)) (by rw [hM];exact mp.only x2 (fun f=>f)) (by omega) (by omega)
    rw [hlen] at this
    exact this
  ·have hi':i=R.length:=by omega
   subst hi'
   rw [List.take_length] at mp
   exact k h' e eo bm mp
theorem qc {h:H}{n:Nat}{rs es:Sl}{T:Tb (Option Addr)}{Q:Value->H->Prop}(t:TH h n rs es T) (ok:TOk T) (hsm:T.count<1073741824)
  (k:∀ h' ka ma b r,pB h' ka ma b r (xY T)->Ext h h'->(∀ m,SQF ka ma b r m->h.size<=m)->(ka≠ma∧ka≠b∧ma≠b∧r.blk≠some ka∧r.blk≠some ma∧r.blk≠some b)->Q (.func (.func cM) #[] #[.pointer (some ⟨ka,0,none⟩),.pointer (some ⟨ma,0,none⟩)]) h'):F.xai (some ⟨n,0,none⟩) h Q:=by
 unfold F.xai
 simp only [aZ,aC,Nat.zero_add]
 rw [bA t.c3]
 refine Ai (.inr ⟨⟨_,_,rfl⟩,cK⟩) fun mp1 e1=>?_
 generalize hb1:h.push (.map #[] 0)=h1 at mp1 e1 ⊢
 refine ⟨_,rfl,?_⟩
 refine aN fun ma h2 hma b2 e2 sz2=>?_
 have hs1:h1.size=h.size+1:=by rw [← hb1];simp
 have hmb:ma≠h.size:=by omega
 refine cC b2 (by simp) fun h3 b3 e3 _=>?_
 rw [cE (by simp)] at b3
 have x3:Ext h h3:=(e1.trans e2).step e3 fun j hj hf=>by omega
 have t3:=t.ext x3
 rw [bj t3.c0,bj t3.c1]
 refine dT fun sl h4 hsl b4 e4 _=>?_
 have x4:=x3.trans e4
 have t4:=t.ext x4
 have mp4:lj h4 h.size []:=((mp1.only e2 (fun f=>f)).only e3 (fun e=>hmb e.symm)).only e4 (fun f=>f)
 have bm4:=e4.block b3 (fun f=>f)
 have ku:=zk ok
 refine ⟨3,?_⟩
 have hbr:=t.br
 have hbe:=t.be
 have tail:∀ h5,bI (·=h.size) h4 h5->Blk h5 ma #[.map (some h.size)] bw->lj h5 h.size (tkL (T.row ++ T.elder))->F.xai.l1 Q 1 ⟨ma,0,none⟩ ⟨some ⟨sl,0,none⟩,2,2⟩ 2 2 h5:=fun h5 e5 b5 m5=>by
  unfold F.xai.l1
  refine ⟨fun g=>by simp at g,fun _=>?_⟩
  rw [pT ((show Blk h5 ma #[.map (some h.size)] bw from b5).cell (i:=0) rfl)]
  unfold F.xbv
  refine aN fun kc h6 hkc b6 e6 _=>?_
  have hML:(tkL (T.row ++ T.elder)).length<1073741824:=by rw [AS ok];exact hsm
  refine pH b6 (m5.only e6 (fun f=>f)) hML (fun p hp=>?_) fun r h7 D hD o7 e7 m7=>?_
  ·obtain ⟨v,_,hv⟩:=uh ok (k:=p.1) (v:=p.2) hp
   exact ⟨v,hv⟩
  ·refine aN fun ka h8 hka b8 e8 _=>?_
   refine cC b8 (by simp) fun h9 b9 e9 _=>?_
   rw [cE (by simp)] at b9
   have x5:Ext h h5:=x4.step e5 fun j hj hf=>by omega
   have x7:=(x5.trans e6).trans e7
   have x9:Ext h h9:=(x7.trans e8).step e9 fun j hj hf=>by have:=x7.size;omega
   have hmlt:=(mp4.lt)
   have s5:=e5.size
   have s6:=e6.size
   have s7:=e7.size
   have hml:ma<h4.size:=dx bm4
   have hks:ii (D.map (·.1))=ii ((tkL (T.row ++ T.elder)).map (·.1)):=rh (hD.map _)
   have hL:(xY T).map (·.1)=ii ((tkL (T.row ++ T.elder)).map (·.1)):=by
    unfold xY;rw [List.map_map];simp [Function.comp_def]
   have e59:bI (·=ka) h5 h9:=((e6.trans e7).trans e8).only.trans e9 fun _ _ e=>e
   have hr9:∀ j,r.blk=some j->h6.size<=j∧j<h7.size:=fun j hj=>⟨m7 j hj,o7.blk_lt hj⟩
   refine k h9 ka ma h.size r ⟨b9,?_,e59.block b5 (by omega),⟨_,m5.only e59 (by omega),fun p hp=>?_⟩,?_⟩ x9 (fun j hj=>?_) ⟨by omega,by omega,by omega,fun e=>?_,fun e=>?_,fun e=>?_⟩
   ·rw [hL,← hks]
    exact (o7.ext e8).only e9 fun j hj hf=>by have:=hr9 j hj;omega
   ·unfold xY at hp
    obtain ⟨key,hkey,rfl⟩:=List.mem_map.1 hp
    rw [yQ] at hkey
    obtain ⟨q,hq,rfl⟩:=List.mem_map.1 hkey
    obtain ⟨v,hv1,hv2⟩:=uh ok (k:=q.1) (v:=q.2) hq
    rw [gm ku (v:=q.2) hq,hv2,hv1];rfl
   ·have:=congrArg List.length hL
    simp only [List.length_map,oV] at this
    omega
   ·rcases hj with rfl | rfl | rfl | hj
    ·have:=x7.size;omega
    ·omega
    ·omega
    ·have:=hr9 j hj;have:=x5.size;omega
   ·have:=hr9 _ e;omega
   ·have:=hr9 _ e;omega
   ·have:=hr9 _ e;have:=x5.size;omega
 have hidx:∀ (h5:H),bI (·=h.size) h4 h5->∀ (i:Nat) (s:Sl),([rs,es]:List Sl)[i]?=some s->aA h5 ⟨sl,i*1,none⟩=some s.enc:=fun h5 e5 i s hs=>by
  have b5:Blk h5 sl #[rs.enc,es.enc] ea:=e5.block b4 (by have:=e3.size;omega)
  rw [Nat.mul_one]
  rcases i with _ | _ | i
  ·simp at hs;subst hs;exact b5.cell rfl
  ·simp at hs;subst hs;exact b5.cell rfl
  ·simp at hs
 have second:∀ h5,bI (·=h.size) h4 h5->Blk h5 ma #[.map (some h.size)] bw->lj h5 h.size (tkL T.row)->F.xai.l1 Q 2 ⟨ma,0,none⟩ ⟨some ⟨sl,0,none⟩,2,2⟩ 2 1 h5:=fun h5 e5 b5 m5=>by
  unfold F.xai.l1
  refine ⟨fun _=>?_,fun g=>by simp at g⟩
  refine cl (b:=sl) (i:=1) rfl (by simp) rfl ?_
  rw [bj (hidx h5 e5 1 es rfl)]
  refine ⟨T.elder.length+1,?_⟩
  have x5:Ext h h5:=x4.step e5 fun j hj hf=>by omega
  exact pJ (Q:=Q) (h:=h) (hs:=h5) (pre:=T.row) (R:=T.elder) (C1:=F.xai.l1 Q 1) (by omega) (Nat.le_refl _) hmb hbe ku (fun h6 e6 o6 b6 m6=>by
   rw [w64 (by omega) (by omega)]
   exact tail h6 (e5.trans o6 fun _ _ e=>e) b6 m6) t.el.reads _ 0 h5 x5 (.refl _) b5 (by simpa using m5) (by omega) (by omega)
 unfold F.xai.l1
 refine ⟨fun _=>?_,fun g=>by simp at g⟩
 refine cl (b:=sl) (i:=0) rfl (by simp) rfl ?_
 rw [bj (hidx h4 (.refl _) 0 rs rfl)]
 refine ⟨T.row.length+1,?_⟩
 refine pJ (Q:=Q) (h:=h) (hs:=h4) (pre:=[]) (R:=T.row) (C1:=F.xai.l1 Q 2) (by omega) (Nat.le_refl _) hmb hbr ?_ (fun h6 e6 o6 b6 m6=>?_) t.row.reads _ 0 h4 x4 (.refl _) bm4 (by simpa [tkL] using mp4) (by omega) (by omega)
 ·have:=ku
  unfold KU at this
  rw [mn,List.map_append,List.nodup_append] at this
  exact this.1
 ·rw [w64 (by omega) (by omega)]
  exact second h6 o6 b6 m6
abbrev Es (ka ma:Nat):Value:=.func (.func cM) #[] #[.pointer (some ⟨ka,0,none⟩),.pointer (some ⟨ma,0,none⟩)]
theorem AD {h1:H}{ka ma b l:Nat}{r:Sl}{L:List (ByteArray×Option Addr)}{js:List Code}{R:LoopState->Option Code->Obj}{BB:Nat->ByteArray->Option Addr->H->(H->Prop)->(Nat->H->Prop)->Prop}{Kn:H->Prop}{Kj:Nat->H->Prop}(I:Nat->H->Prop) (E:Nat->H->Prop) (hR:∀ s p,∃ r,R s p=.loop r)
  (hst:∀ i h' h'',I i h'->bI (·=l) h' h''->I i h'') (hstE:∀ j h' h'',E j h'->bI (·=l) h' h''->E j h'') (hown:∀ i h',I i h'->pB h' ka ma b r L)
  (hB:∀ (X:Obj) (i:Nat) (x:ByteArray×Option Addr) (h5:H) (K:H->Prop) (J:Nat->H->Prop),(∃ r,X=.loop r)->I i h5->h5[l]?=some X->L[i]?=some x->(∀ h2,I (i+1) h2->h2[l]?=some X->K h2)->(∀ j h2,E j h2->h2[l]?=some X->J j h2)->BB l x.1 x.2 h5 K J)
  (hn:∀ h',I L.length h'->Kn h') (hj:∀ j h',E j h'->∃ c,js[j]?=some c∧Kj j h')
  (hy:uo PP R l js (fun bg l args h' K J=>∃ (k:ByteArray),∃ (v:Option Addr),args=[.string k,.pointer v]∧bg h' fun h5=>BB l k v h5 K J)) (h0:I 0 h1) (hr:h1[l]?=some (R .ready none)) :
  F.xdb (.func (.yield l) #[] #[]) ⟨ka,0,none⟩ ⟨ma,0,none⟩ h1 (q9 R l js Kn Kj):=by
 unfold F.xdb
 have s0:=hown 0 h1 h0
 rw [bj (s0.kb.cell (i:=0) rfl)]
 have hlen:=s0.len
 have hrl:=bH i4 (by omega) s0.ko
 rw [List.length_map] at hrl
 refine ⟨L.length+1,?_⟩
 rw [hrl]
 have key:∀ (m i:Nat) (h':H),i<=L.length->L.length-i<m->I i h'->h'[l]?=some (R .ready none)->F.xdb.l1 (q9 R l js Kn Kj) m (.func (.yield l) #[] #[]) ⟨ma,0,none⟩ r (L.length:Int) (i:Int) h':=by
  intro m
  induction m with
  | zero=>intro i h' _ hm;omega
  | succ m ih =>
   intro i h' hi hm hI hrd
   unfold F.xdb.l1
   simp only [decide_eq_true_eq,decide_eq_false_iff_not]
   refine ⟨fun g=>?_,fun g=>?_⟩
   ·obtain ⟨x,hx⟩:∃ x,L[i]?=some x:=⟨_,List.getElem?_eq_getElem (by omega)⟩
    have si:=hown i h' hI
    obtain ⟨M,m1,m2⟩:=si.mp
    obtain ⟨bb,a1,a2⟩:=jz i4 (by omega) si.ko (i:=i) (x:=x.1) (by rw [List.getElem?_map,hx];rfl)
    refine cl (i:=i) a1 (by omega) rfl ?_
    rw [eP (by have:=a2.one;rwa [Nat.mul_one] at this ⊢),pT (si.mb.cell (i:=0) rfl)]
    refine Ae (kt:=9) (et:=_) (z:=.pointer none) cK ZBF (fun w=>by kernel_rfl) m1 ?_
    rw [m2 x (List.mem_of_getElem? hx)]
    refine ⟨x.2,rfl,?_⟩
    refine hy h' _ _ hrd ⟨x.1,x.2,rfl,hrd,?_⟩
    refine hB (R .busy none) i x _ _ _ (hR _ _) (hst i h' _ hI (ig h' l _)) (qV hrd) hx (fun h4 hI4 hb4=>⟨hb4,true,rfl,(fun h=>by cases h),fun _=>?_⟩) (fun j h4 hE hb4=>?_)
    ·rw [show IntKind.wrap .i64 ((i:Int)+1)=((i+1:Nat):Int) from by rw [w64 (by omega) (by omega)];omega]
     exact ih (i+1) _ (by omega) (by omega) (hst (i+1) h4 _ hI4 (ig h4 l _)) (qV hb4)
    ·obtain ⟨c,hc,_⟩:=hj j h4 hE
     refine ⟨c,hc,hb4,false,rfl,fun _=>?_,fun h=>by cases h⟩
     have hE2:=hstE j h4 _ hE (ig h4 l (R .done (some c)))
     have hp:=qV (o:=R .done (some c)) hb4
     obtain ⟨c',hc',hk⟩:=hj j _ (hstE j _ _ hE2 (ig _ l (R .exhausted (some c))))
     exact .inr ⟨j,c,hc,hp,hk⟩
   ·have:i=L.length:=by omega
    subst this
    exact .inl ⟨hrd,hn _ (hst _ h' _ hI (ig h' l _))⟩
 exact key _ 0 h1 (by omega) (by omega) h0 hr
theorem oQ {h:H}{ka ma b:Nat}{r:Sl}{L:List (ByteArray×Option Addr)}{js:List Code}{BB:Nat->ByteArray->Option Addr->H->(H->Prop)->(Nat->H->Prop)->Prop}{Kn:H->Prop}{Kj:Nat->H->Prop}(I:Nat->H->Prop) (E:Nat->H->Prop)
  (hst:∀ i h' h'',I i h'->bI (·=h.size+1) h' h''->I i h'') (hstE:∀ j h' h'',E j h'->bI (·=h.size+1) h' h''->E j h'') (hown:∀ i h',I i h'->pB h' ka ma b r L)
  (h0:I 0 (h.push (.deferred (some []))))
  (hB:∀ (X:Obj) (i:Nat) (x:ByteArray×Option Addr) (h5:H) (K:H->Prop) (J:Nat->H->Prop),(∃ r,X=.loop r)->I i h5->h5[h.size+1]?=some X->L[i]?=some x->(∀ h2,I (i+1) h2->h2[h.size+1]?=some X->K h2)->(∀ j h2,E j h2->h2[h.size+1]?=some X->J j h2)->BB (h.size+1) x.1 x.2 h5 K J)
  (hn:∀ h',I L.length h'->Kn h') (hj:∀ j h',E j h'->∃ c,js[j]?=some c∧Kj j h') :
  rng PP (Es ka ma) h js (fun bg l args h' K J=>∃ (k:ByteArray),∃ (v:Option Addr),args=[.string k,.pointer v]∧bg h' fun h5=>BB l k v h5 K J) Kn Kj:=fun R hR hy=>by
 refine ⟨cM,#[],#[.pointer (some ⟨ka,0,none⟩),.pointer (some ⟨ma,0,none⟩)],rfl,fun a w=>eM a w,?_⟩
 have:=F.xdb_ok (AD I E hR hst hstE hown hB hn hj hy (h1:=(h.push (.deferred (some []))).push (R .ready none)) (hst 0 _ _ h0 (.push _ _)) (by rw [Array.getElem?_push,if_pos (by simp)]))
 exact this.mono fun r h' ⟨_,q⟩=>q
theorem mP {n:Nat}{rs es:Sl}{x4:Option Addr}{Q:Option Addr->Bool->H->Prop}:∀ (f:Nat) (h:H) (T:Tb (Option Addr)) (a k:Nat) (R:List (Pl (Option Addr))),TH h n rs es T->kW iv f T.row a k=some R->a<T.row.length->k<T.row.length ->
  (∀ h',TH h' n rs es { T with row:=R }->Stp h n rs es h' rs es->Q x4 true h')->F.xbf.l1 Q f (some ⟨n,0,none⟩) x4 (a:Int) (T.row.length:Int) (k:Int) h
 | 0,h,T,a,k,R,t,hs,ha,hk,kk=>by cases hs
 | f+1,h,T,a,k,R,t,hs,ha,hk,kk=>by
  unfold F.xbf.l1
  unfold kW at hs
  obtain ⟨p,hp⟩:∃ p,T.row[k]?=some p:=⟨_,List.getElem?_eq_getElem hk⟩
  rw [hp] at hs
  simp only at hs
  simp only [aZ,aC,Nat.zero_add]
  have hbr:=t.br
  rw [bj t.c0]
  obtain ⟨b,q1,q2⟩:=t.row_at hp
  have c0:=q2 0 _ rfl
  have c1:=q2 1 _ rfl
  refine cl q1 (by rw [t.rlen];exact hk) rfl ?_
  rw [bA c0]
  simp only [bne_iff_ne,ne_eq,bne_eq_false_iff_eq]
  by_cases h0:p.is_=0
  ·rw [if_pos h0] at hs
   cases hs
   refine ⟨fun g=>absurd (by omega) g,fun _=>?_⟩
   rw [bj t.c0]
   refine cl q1 (by rw [t.rlen];exact ha) rfl ?_
   exact t.set_row (p:=eD iv) q1 ha (by show (0:Nat)<=_;decide) fun h1 t1 s1=>kk h1 t1 s1
  ·rw [if_neg h0] at hs
   refine ⟨fun _=>?_,fun g=>absurd g (by omega)⟩
   rw [bj t.c0,bj t.c0]
   refine cl q1 (by rw [t.rlen];exact hk) rfl ?_
   rw [eP c1]
   refine sw (R:=T.row) t.rlen (by omega) hbr (t.kr k p hp) fun h1 e1=>?_
   have hh:=kS (R:=T.row) (key:=p.key) (by omega)
   have t1:=t.ext e1
   refine ⟨by omega,by omega,?_⟩
   rw [sW hh hk hbr,sW ha hk hbr]
   simp only [decide_eq_true_eq,decide_eq_false_iff_not]
   by_cases hd:cV T.row.length (fb T.row p.key) k>=cV T.row.length a k
   ·rw [if_pos hd] at hs
    refine ⟨fun _=>?_,fun g=>absurd (by omega) g⟩
    rw [bj t1.c0,bj t1.c0]
    refine cl q1 (by rw [t.rlen];exact hk) rfl ?_
    have q3:Cells h1 ⟨b,k*3,none⟩ (cP p):=q2.ext e1
    refine ⟨⟨(p.is_:Int),p.key,p.value⟩,q3,?_⟩
    refine cl q1 (by rw [t.rlen];exact ha) rfl ?_
    refine t1.set_row (p:=p) q1 ha (t.kr k p hp) fun h2 t2 s2=>?_
    unfold F.xbf.j2
    refine ⟨by omega,?_⟩
    rw [oM hk hbr]
    have:=mP f h2 _ k ((k+1) % T.row.length) R t2 hs (by simpa using hk) (by simpa using jR (h:=k) (k:=1) (n:=T.row.length) (by omega)) fun h' t' s'=>kk h' t' ((Stp.of_ext e1).trans (s2.trans s'))
    simp only [List.length_set] at this
    exact this
   ·rw [if_neg hd] at hs
    refine ⟨fun g=>absurd g (by omega),fun _=>?_⟩
    unfold F.xbf.j2
    refine ⟨by omega,?_⟩
    rw [oM hk hbr]
    exact mP f h1 T a ((k+1) % T.row.length) R t1 hs ha (jR (h:=k) (k:=1) (by omega)) fun h' t' s'=>kk h' t' ((Stp.of_ext e1).trans s')
theorem xM {h:H}{n:Nat}{rs es:Sl}{T T':Tb (Option Addr)}{key:ByteArray}{r:Option Addr×Bool}{Q:Option Addr->Bool->H->Prop}(t:TH h n rs es T) (ok:TOk T) (hk:i3 key) (hd:xd iv T key=some (T',r))
  (k:∀ h' es',TH h' n rs es' T'->Stp h n rs es h' rs es'->Q r.1 r.2 h'):F.xbf (some ⟨n,0,none⟩) key h Q:=by
 unfold F.xbf
 obtain ⟨T1,m1,ok1,m3,m4,m5,m6,m7⟩:=mf (z:=iv) ok 4
 unfold xd at hd
 rw [m1] at hd
 simp only at hd
 refine n9 t m1 (by omega) fun h1 es1 t1 s1=>?_
 simp only [aZ,aC,Nat.zero_add]
 rw [bj t1.c1]
 cases hf:fB T1.elder key with
 | none=>rw [hf] at hd;cases hd
 | some w =>
  rw [hf] at hd
  obtain ⟨i,b⟩:=w
  refine jo t1.el.reads t1.be hk hf fun h2 e2=>?_
  have t2:=t1.ext e2
  have hbc:=t1.bc
  have hcnt:=ok1.cnt
  simp only [BIG] at hbc
  cases b with
  | true =>
   refine ⟨fun _=>?_,fun h=>by cases h⟩
   simp only at hd
   cases hp:T1.elder[i]? with
   | none=>rw [hp] at hd;cases hd
   | some p =>
    rw [hp] at hd
    simp only at hd
    cases hd
    have hi:=(List.getElem?_eq_some_iff.1 hp).1
    have h1p:p.is_=1:=by
     rcases mE T1.elder key with ⟨j,hj⟩ | hn
     ·rw [ok1.elder.hit hj] at hf
      cases hf
      obtain ⟨q,g1,g2,_⟩:=hj
      rw [hp] at g1;cases g1;exact g2
     ·by_cases he:T1.elder=[]
      ·rw [he] at hp;simp at hp
      ·obtain ⟨j,g1,_,_⟩:=gJ hn (ok1.eroom he)
       rw [g1] at hf;cases hf
    have hc1:=ok1.cnt_elder hp h1p
    rw [bj t2.c1]
    obtain ⟨b,q1,q2⟩:=t2.el_at hp
    refine cl q1 (by rw [t1.elen];exact hi) rfl ?_
    have c2:=q2 2 _ rfl
    rw [gB c2,bj t2.c1]
    refine cl q1 (by rw [t1.elen];exact hi) rfl ?_
    refine t2.set_el (p:=eE iv) q1 hi (by show (0:Nat)<=_;decide) fun h3 t3 s3=>?_
    rw [bA t3.c3]
    refine t3.st_count (m:=T1.count-1) (by show IntKind.wrap .i64 ((T1.count:Int)-1)=_;rw [w64 (by omega) (by omega)];omega) (by simp only [BIG];omega) fun h4 t4 s4=>?_
    exact k h4 _ t4 ((s1.ext e2).trans (s3.trans s4))
  | false =>
   refine ⟨fun h=>(by cases h),fun _=>?_⟩
   simp only at hd
   rw [bj t2.c0]
   cases hg:fB T1.row key with
   | none=>rw [hg] at hd;cases hd
   | some w =>
    rw [hg] at hd
    obtain ⟨i,b⟩:=w
    refine jo t2.row.reads t2.br hk hg fun h3 e3=>?_
    have t3:=t2.ext e3
    cases b with
    | false =>
     simp only at hd
     cases hd
     exact ⟨fun _=>k h3 _ t3 ((s1.ext e2).ext e3),fun h=>by cases h⟩
    | true =>
     refine ⟨fun h=>(by cases h),fun _=>?_⟩
     simp only at hd
     cases hp:T1.row[i]? with
     | none=>rw [hp] at hd;cases hd
     | some p =>
      rw [hp] at hd
      simp only at hd
      cases hR:kW iv (T1.row.length+1) T1.row i ((i+1) % T1.row.length) with
      | none=>rw [hR] at hd;cases hd
      | some R =>
       rw [hR] at hd
       simp only at hd
       cases hd
       have hi:=(List.getElem?_eq_some_iff.1 hp).1
       have h1p:p.is_=1:=by
        rcases mE T1.row key with ⟨j,hj⟩ | hn
        ·rw [ok1.row.hit hj] at hg
         cases hg
         obtain ⟨q,g1,g2,_⟩:=hj
         rw [hp] at g1;cases g1;exact g2
        ·obtain ⟨j,g1,_,_⟩:=gJ hn (ok1.room ok1.cnt_row)
         rw [g1] at hg;cases hg
       have hc1:1<=ez T1.row:=by
        unfold ez
        exact List.countP_pos_iff.2 ⟨p,List.mem_of_getElem? hp,by simpa using h1p⟩
       rw [bj t3.c0]
       obtain ⟨b,q1,q2⟩:=t3.row_at hp
       refine cl q1 (by rw [t1.rlen];exact hi) rfl ?_
       have c2:=q2 2 _ rfl
       rw [gB c2,bA t3.c3]
       refine t3.st_count (m:=T1.count-1) (by show IntKind.wrap .i64 ((T1.count:Int)-1)=_;rw [w64 (by omega) (by omega)];omega) (by simp only [BIG];omega) fun h4 t4 s4=>?_
       rw [bj t4.c0,t4.rlen]
       have hbr:=t1.br
       refine ⟨by show ((T1.row.length:Nat):Int)≠0;omega,T1.row.length+1,?_⟩
       have hnx:=oM hi hbr
       show F.xbf.l1 Q (T1.row.length+1) (some ⟨n,0,none⟩) p.value (i:Int) (T1.row.length:Int) (Int.tmod (IntKind.wrap .i64 ((i:Int)+1)) (T1.row.length:Int)) h4
       rw [hnx]
       exact mP _ h4 { T1 with count:=T1.count-1 } i _ R t4 hR hi (jR (h:=i) (k:=1) (by omega)) fun h5 t5 s5=>k h5 _ t5 (((s1.ext e2).ext e3).trans (s4.trans s5))
theorem AH {A:List ByteArray}(h:A.Pairwise fun a b=>a.data.toList<b.data.toList):ii A=A:=by
 unfold ii
 have hs:(A.map fun s=>s.data.toList).Pairwise fun x y=>(decide (x<=y))=true:=by
  rw [List.pairwise_map]
  exact h.imp fun h=>by simpa using List.le_of_lt h
 rw [List.mergeSort_of_pairwise hs,List.map_map]
 conv=>rhs;rw [← List.map_id A]
 exact List.map_congr_left fun s _=>rfl
end Go.Proofs.YtjjchpaomgmmdaaGreat.V.P
namespace Go.Proofs.YtjjchpaomgmmdaaGreat.V.S
open Go Go.Proofs.YtjjchpaomgmmdaaGreat.V
set_option linter.unusedVariables false
set_option linter.unusedSimpArgs false
set_option maxRecDepth 20000
section
variable {α:Type}{key:α->Cel}
def eu (key:α->Cel):List α->α->List α
 | [],x=>[x]
 | y :: r,x=>if bZ (key x) (key y)=-1 then x :: y :: r else if bZ (key x) (key y)=0 then x :: r else y :: eu key r x
def dI (key:α->Cel) (S:List α) (c:Cel):Option α:=S.find? fun y=>decide (bZ (key y) c=0)
abbrev fA (key:α->Cel) (S:List α):Prop:=S.Pairwise fun a b=>bZ (key a) (key b)=-1
theorem eC (a:Cel):bZ a a=0:=dq.2 rfl
theorem fW {S:List α}{c:Cel}{x:α}(h:dI key S c=some x):x∈S∧key x=c:=
 ⟨List.mem_of_find?_eq_some h,dq.1 (by have:=List.find?_some h;simpa using this)⟩
theorem sm {S:List α}{c:Cel}(h:dI key S c=none):∀ x∈S,key x≠c:=fun x hx e=>by
 have:=List.find?_eq_none.1 h x hx
 simp [dq.2 e] at this
theorem gm {S:List α}(hs:fA key S){x:α}(hx:x∈S):dI key S (key x)=some x:=by
 induction S with
 | nil=>cases hx
 | cons y r ih =>
  have h:=List.pairwise_cons.1 hs
  unfold dI
  rw [List.find?_cons]
  rcases List.mem_cons.1 hx with e | e
  ·subst e;simp [eC]
  ·have:=h.1 x e
   have hn:¬ bZ (key y) (key x)=0:=by omega
   simp only [hn,decide_false]
   exact ih h.2 e
theorem jQ {x y:α}:∀ {S:List α},fA key S->(y∈eu key S x↔y=x∨(y∈S∧key y≠key x))
 | [],_=>by simp [eu]
 | z :: r,hs=>by
  have h:=List.pairwise_cons.1 hs
  have ih:=jQ (x:=x) (y:=y) h.2
  unfold eu
  split
  ·rename_i h1
   have hall:∀ w∈z :: r,key w≠key x:=fun w hw e=>by
    rcases List.mem_cons.1 hw with q | q
    ·subst q;rw [e,eC] at h1;omega
    ·have:=gN h1 (h.1 w q);rw [e,eC] at this;omega
   constructor
   ·intro hy
    rcases List.mem_cons.1 hy with q | q
    ·exact .inl q
    ·exact .inr ⟨q,hall y q⟩
   ·rintro (q | ⟨q,_⟩)
    ·rw [q];simp
    ·exact List.mem_cons_of_mem _ q
  ·rename_i h1
   split
   ·rename_i h2
    have he:=dq.1 h2
    constructor
    ·intro hy
     rcases List.mem_cons.1 hy with q | q
     ·exact .inl q
     ·refine .inr ⟨List.mem_cons_of_mem _ q,fun e=>?_⟩
      have:=h.1 y q
      rw [e,← he,eC] at this;omega
    ·rintro (q | ⟨q,q2⟩)
     ·rw [q];simp
     ·rcases List.mem_cons.1 q with q | q
      ·subst q;exact absurd he.symm q2
      ·exact List.mem_cons_of_mem _ q
   ·rename_i h2
    have hne:key z≠key x:=fun e=>h2 (dq.2 e.symm)
    rw [List.mem_cons,ih]
    constructor
    ·rintro (q | q | ⟨q,q2⟩)
     ·subst q;exact .inr ⟨by simp,hne⟩
     ·exact .inl q
     ·exact .inr ⟨List.mem_cons_of_mem _ q,q2⟩
    ·rintro (q | ⟨q,q2⟩)
     ·exact .inr (.inl q)
     ·rcases List.mem_cons.1 q with q | q
      ·exact .inl q
      ·exact .inr (.inr ⟨q,q2⟩)
theorem lP {x:α}:∀ {S:List α},fA key S->fA key (eu key S x)
 | [],_=>by simp [eu,fA]
 | z :: r,hs=>by
  have h:=List.pairwise_cons.1 hs
  have ih:=lP (x:=x) h.2
  unfold eu
  split
  ·rename_i h1
   refine List.pairwise_cons.2 ⟨fun w hw=>?_,hs⟩
   rcases List.mem_cons.1 hw with q | q
   ·subst q;exact h1
   ·exact gN h1 (h.1 w q)
  ·rename_i h1
   split
   ·rename_i h2
    have he:=dq.1 h2
    exact List.pairwise_cons.2 ⟨fun w hw=>by rw [he];exact h.1 w hw,h.2⟩
   ·rename_i h2
    refine List.pairwise_cons.2 ⟨fun w hw=>?_,ih⟩
    rcases (jQ h.2).1 hw with q | ⟨q,_⟩
    ·subst q
     have:=cZ (key w) (key z)
     have:=dR (key z) (key w)
     omega
    ·exact h.1 w q
theorem qW {P:α->α->Prop}{x:α}:∀ {S:List α},fA key S->S.Pairwise P->(∀ y∈S,key y≠key x->P x y∧P y x)->(eu key S x).Pairwise P
 | [],_,_,_=>by simp [eu]
 | z :: r,hs,hp,hx=>by
  have h:=List.pairwise_cons.1 hs
  have hp':=List.pairwise_cons.1 hp
  have ih:=qW (x:=x) h.2 hp'.2 fun y hy=>hx y (List.mem_cons_of_mem _ hy)
  unfold eu
  split
  ·rename_i h1
   refine List.pairwise_cons.2 ⟨fun w hw=>(hx w hw fun e=>?_).1,hp⟩
   rcases List.mem_cons.1 hw with q | q
   ·subst q;rw [e,eC] at h1;omega
   ·have:=gN h1 (h.1 w q);rw [e,eC] at this;omega
  ·rename_i h1
   split
   ·rename_i h2
    have he:=dq.1 h2
    refine List.pairwise_cons.2 ⟨fun w hw=>(hx w (List.mem_cons_of_mem _ hw) fun e=>?_).1,hp'.2⟩
    have:=h.1 w hw
    rw [e,← he,eC] at this;omega
   ·rename_i h2
    have hne:key z≠key x:=fun e=>h2 (dq.2 e.symm)
    refine List.pairwise_cons.2 ⟨fun w hw=>?_,ih⟩
    rcases (jQ h.2).1 hw with q | ⟨q,_⟩
    ·subst q;exact (hx z (by simp) hne).2
    ·exact hp'.1 w q
theorem uf {x:α}(f:α->Nat):∀ {S:List α},fA key S->((eu key S x).map f).sum+((dI key S (key x)).map f).getD 0=(S.map f).sum+f x
 | [],_=>by simp [eu,dI]
 | z :: r,hs=>by
  have h:=List.pairwise_cons.1 hs
  have ih:=uf (x:=x) f h.2
  unfold eu
  split
  ·rename_i h1
   have hn:dI key (z :: r) (key x)=none:=by
    unfold dI
    rw [List.find?_eq_none]
    intro w hw
    have:bZ (key x) (key w)=-1:=by
     rcases List.mem_cons.1 hw with q | q
     ·subst q;exact h1
     ·exact gN h1 (h.1 w q)
    have:=dR (key w) (key x)
    simp;omega
   rw [hn];simp;omega
  ·rename_i h1
   split
   ·rename_i h2
    have he:=dq.1 h2
    have hs':dI key (z :: r) (key x)=some z:=by
     unfold dI;rw [List.find?_cons,← he];simp [eC]
    rw [hs'];simp;omega
   ·rename_i h2
    have hne:¬ bZ (key z) (key x)=0:=fun e=>h2 (dq.2 (dq.1 e).symm)
    have hs':dI key (z :: r) (key x)=dI key r (key x):=by
     unfold dI;rw [List.find?_cons];simp [hne]
    rw [hs'];simp;omega
theorem tP {β:Type}{key':β->Cel}(f:α->β) (hk:∀ x,key' (f x)=key x){x:α}:∀ (S:List α),(eu key S x).map f=eu key' (S.map f) (f x)
 | []=>rfl
 | z :: r=>by
  have ih:=tP f hk (x:=x) r
  show _=eu key' (f z :: r.map f) (f x)
  unfold eu
  rw [hk,hk]
  split
  ·rfl
  ·split
   ·rfl
   ·rw [List.map_cons,ih]
theorem tO {β:Type}{key':β->Cel}(f:α->β) (hk:∀ x,key' (f x)=key x){c:Cel}:∀ (S:List α),dI key' (S.map f) c=(dI key S c).map f
 | []=>rfl
 | z :: r=>by
  have ih:=tO f hk (c:=c) r
  unfold dI at ih ⊢
  rw [List.map_cons,List.find?_cons,List.find?_cons,hk,ih]
  split <;> simp_all
end
abbrev Ver:=C.Ver
abbrev zA:=C.zA
abbrev SL:=List (Cel×List Ver)
def okC (c:Cel):Int:=if c.View<0∨c.View>=4 then 23 else if (c.Key.size:Int)<1∨(c.Key.size:Int) > 32 then 21 else if c.Start < -2305843009213693952∨c.Start > 2305843009213693952 then 22 else 0
theorem mI {c:Cel}(h:okC c=0):jI c=0:=by
 unfold okC at h
 unfold jI
 split at h
 ·cases h
 ·rename_i h1
  rw [if_neg (by omega)]
  split at h
  ·cases h
  ·rename_i h2
   rw [if_neg (by omega)]
   split at h
   ·cases h
   ·rename_i h3;rw [if_neg h3]
theorem lM {c:Cel}(h:okC c=0):xO c.Start:=by
 unfold okC at h
 split at h
 ·cases h
 ·split at h
  ·cases h
  ·split at h
   ·cases h
   ·unfold xO;omega
def fG (c:Cel):ByteArray:=⟨(kq c).toArray⟩
theorem jO (c:Cel):kL (fG c)=kq c:=by simp [fG,kL]
theorem uN {c:Cel}(h:okC c=0):(kq c).length<=100:=by
 obtain ⟨h1,h2,h3⟩:=nG (mI h)
 have:=nu c.Key.data.toList
 have h4:c.Key.data.toList.length=c.Key.size:=(dC).symm
 unfold kq
 simp [pL]
 omega
theorem tK {a b:Cel}(ha:okC a=0) (hb:okC b=0) (h:kq a=kq b):a=b:=by
 have h1:=oj (mI ha) (lM ha)
 have h2:=oj (mI hb) (lM hb)
 rw [h,h2] at h1
 exact (congrArg Prod.fst h1).symm
abbrev eS (vs:List Ver):Bool:=(C.bT vs).2.2
def dl (vs:List Ver):Nat:=vs.length+(if eS vs then 1 else 0)
def dH (vs:List Ver):Nat:=if eS vs then 1 else 0
def aR (S:SL):Nat:=(S.map fun x=>dl x.2).sum
def ck (S:SL):Nat:=(S.map fun x=>dH x.2).sum
abbrev cx (S:SL) (c:Cel):Option (List Ver):=(dI (·.1) S c).map (·.2)
abbrev oS (S:SL) (c:Cel) (vs:List Ver):SL:=eu (·.1) S (c,vs)
abbrev gI (S:SL):Prop:=fA (·.1) S
def atV (vs:List Ver) (e:Int):ag×Bool:=if e=0 then ((C.bT vs).1,eS vs) else C.atM vs e
def atS (S:SL) (c:Cel) (e:Int):ag:=if okC c≠0 then zA else match cx S c with
 | some vs=>(atV vs e).1
 | none=>zA
def wE (e:Int) (x:Cel×List Ver):aO:=⟨x.1,(atV x.2 e).1⟩
def inS (e:Int) (fr to:Cel) (x:Cel×List Ver):Bool:=(atV x.2 e).2 && (decide (bZ fr x.1<=0) && decide (bZ x.1 to<0))
def cy (S:SL) (e:Int) (fr to:Cel):List aO:=(S.filter (inS e fr to)).map (wE e)
def pm (o:Option (List Ver)) (e:Int):Int:=match o with
 | none=>2
 | some vs=>if (C.bT vs).2.1 > e then 0 else if (C.bT vs).2.1=e∧eS vs=true then 0 else if (C.bT vs).2.1=e∨eS vs=true then 1 else 2
def fc (S:SL) (e:Int) (c:Cel):Int:=if okC c≠0 then 0 else pm (cx S c) e
def dp (S:SL) (E:List Int):SL:=(S.map fun x=>(x.1,C.bF x.2 E)).filter fun x=>!x.2.isEmpty
structure VOk (vs:List Ver):Prop where
 ne:vs≠[]
 rise:C.jH vs
 dead:∀ v∈vs,v.dead=true->v.value=zA
 ep:∀ v∈vs,1<=v.epoch∧v.epoch<=1099511627776
structure SOk (S:SL):Prop where
 sort:gI S
 ok:∀ x∈S,okC x.1=0∧VOk x.2
theorem wM {vs:List Ver}(h:vs≠[]):1<=dl vs:=by
 have:=List.length_pos_iff.2 h
 unfold dl;omega
theorem gM {S:SL}(h:SOk S):S.length<=aR S:=by
 have:∀ (S:SL),(∀ x∈S,x.2≠[])->S.length<=aR S:=fun S=>by
  induction S with
  | nil=>intro _;simp [aR]
  | cons x r ih =>
   intro hx
   have h1:=ih fun y hy=>hx y (by simp [hy])
   have h2:=wM (hx x (by simp))
   unfold aR at h1 ⊢
   rw [List.map_cons,List.sum_cons,List.length_cons];omega
 exact this S fun x hx=>(h.ok x hx).2.ne
theorem oY {S:SL}{x:Cel×List Ver}(hx:x∈S):x.2.length<=aR S:=by
 induction S with
 | nil=>cases hx
 | cons y r ih =>
  unfold aR at ih ⊢
  rw [List.map_cons,List.sum_cons]
  rcases List.mem_cons.1 hx with e | e
  ·subst e;unfold dl;omega
  ·have:=ih e;omega
theorem zt (vs:List Ver):dH vs<=dl vs:=by unfold dH dl;omega
theorem lQ {S:SL}:ck S<=aR S:=by
 induction S with
 | nil=>simp [ck,aR]
 | cons y r ih =>
  unfold aR ck at ih ⊢
  rw [List.map_cons,List.sum_cons,List.map_cons,List.sum_cons]
  have:=zt y.2
  omega
end Go.Proofs.YtjjchpaomgmmdaaGreat.V.S
namespace Go.Proofs.YtjjchpaomgmmdaaGreat.V
open Go
set_option linter.unusedVariables false
set_option linter.unusedSimpArgs false
def rM {α:Type}(f:Nat->α) (i:Nat) (v:α):Nat->α:=fun j=>if j=i then v else f j
theorem dQ {α:Type}(f:Nat->α) (i:Nat) (v:α):rM f i v i=v:=by simp [rM]
theorem eR {α:Type}(f:Nat->α){i j:Nat}(v:α) (h:j≠i):rM f i v j=f j:=by simp [rM,h]
theorem BD {α:Type}(f:Nat->α){n i:Nat}(v:α) (hi:i<n):((List.range n).map f).set i v=(List.range n).map (rM f i v):=by
 apply List.ext_getElem?
 intro j
 by_cases hj:j=i
 ·subst hj
  rw [List.getElem?_set_self (by simpa using hi)]
  simp [hi,dQ]
 ·rw [List.getElem?_set_ne (fun h=>hj h.symm)]
  by_cases hn:j<n
  ·simp [hn,eR f v hj]
  ·rw [List.getElem?_eq_none (by simp;omega),List.getElem?_eq_none (by simp;omega)]
theorem u7 {α:Type}(f:Nat->α){n i:Nat}(hi:i<n):((List.range n).map f)[i]?=some (f i):=by simp [hi]
theorem pX {α:Type}{f:α->List Value}{kk:Nat}{e:TypeId}{h:H}{r a:Sl}{L:List α}{n:Nat}(hf:∀ x,(f x).length=kk) (hk:0<kk) (w:aU h r e kk (L.flatMap f)) (hp:a.ptr=r.ptr) (hc:a.cap=r.cap) (ha:a.len=n) (hn:n<=L.length):aU h a e kk ((L.take n).flatMap f):=by
 have hl:=bH hf hk w
 obtain ⟨q0,⟨q1,q2,q3⟩ | ⟨b',c',q1,q2,q3,q4,q5,q6⟩⟩:=w
 ·have:n=0:=by omega
  subst this
  exact ⟨by simp [ha],.inl ⟨hp.trans q1,ha,hc.trans q3⟩⟩
 ·refine ⟨by rw [cq f kk hf,List.length_take,Nat.min_eq_left hn,ha],.inr ⟨b',c',hp.trans q1,q2,by rw [hc];exact q3,by rw [ha,hc];omega,by rw [hc];exact q5,?_⟩⟩
  have h1:L.flatMap f=(L.take n).flatMap f ++ (L.drop n).flatMap f:=by rw [← List.flatMap_append,List.take_append_drop]
  have h2:=congrArg (List.take ((L.take n).flatMap f).length) q6
  rw [List.take_take,Nat.min_eq_left (by rw [h1,List.length_append];omega)] at h2
  rw [h2,h1,List.take_left]
theorem nK {h:H}{s:Sl}{n:Nat}{cs:List Value}{k:Nat}{c:Array Value}{e e':TypeId}(w:aU h s e k cs) (b:Blk h n c e') (he:e≠e'):s.blk≠some n:=fun hb=>by
 obtain ⟨_,⟨q1,_,_⟩ | ⟨b',c',q1,q2,_⟩⟩:=w
 ·simp [Sl.blk,q1] at hb
 ·simp [Sl.blk,q1] at hb
  subst hb
  have:=q2.symm.trans b
  simp at this
  exact he this.2
structure PA {α:Type}(f:α->List Value) (kk:Nat) (e:TypeId) (n:Nat) (h0 h:H) (A:Nat->Sl) (D:Nat->List α):Prop where
 own:∀ i,i<n->aU h (A i) e kk ((D i).flatMap f)
 ap:∀ i j,i<n->j<n->i≠j->∀ b,(A i).blk=some b->(A j).blk≠some b
 only:bI (fun b=>∃ i,i<n∧(A i).blk=some b) h0 h
section
variable {α:Type}{f:α->List Value}{kk:Nat}{e:TypeId}{n:Nat}{h0 h h':H}{A M:Nat->Sl}{D T:Nat->List α}
structure GW {α:Type}(f:α->List Value) (kk:Nat) (e:TypeId) (n:Nat) (h0 h:H) (A M:Nat->Sl) (T D:Nat->List α):Prop where
 oa:∀ i,i<n->aU h (A i) e kk ((T i).flatMap f)
 om:∀ i,i<n->aU h (M i) e kk ((D i).flatMap f)
 pre:∀ i,i<n->(D i).take (T i).length=T i
 rel:∀ i,i<n->((A i).ptr=(M i).ptr∧(A i).cap=(M i).cap)∨∀ b,(M i).blk=some b->(A i).blk≠some b
 mm:∀ i j,i<n->j<n->i≠j->∀ b,(M i).blk=some b->(M j).blk≠some b∧(A j).blk≠some b
 new:∀ i,i<n->∀ b,(M i).blk=some b->(A i).blk=some b∨h0.size<=b
 only:bI (fun b=>∃ i,i<n∧(A i).blk=some b) h0 h
theorem GW.of (p:PA f kk e n h0 h A T):GW f kk e n h0 h A A T T:=
 ⟨p.own,p.own,fun i hi=>List.take_length,fun i hi=>.inl ⟨rfl,rfl⟩,fun i j hi hj hij b hb=>⟨p.ap i j hi hj hij b hb,p.ap i j hi hj hij b hb⟩,fun i hi b hb=>.inl hb,p.only⟩
theorem GW.ext (g:GW f kk e n h0 h A M T D) (x:Ext h h'):GW f kk e n h0 h' A M T D:=
 ⟨fun i hi=>(g.oa i hi).ext x,fun i hi=>(g.om i hi).ext x,g.pre,g.rel,g.mm,g.new,g.only.ext x⟩
theorem GW.oth (g:GW f kk e n h0 h A M T D){s:Sl}{e':TypeId}{k':Nat}{cs:List Value}(o:bI (fun b=>s.blk=some b) h h') (w:aU h s e' k' cs) (he:e≠e') (hm:dL h0 s):GW f kk e n h0 h' A M T D:=by
 have kp:∀ {t:Sl}{ds:List Value},aU h t e kk ds->aU h' t e kk ds:=fun {t ds} wt=>wt.only o fun x hx hb=>by
  obtain ⟨_,⟨q1,_,_⟩ | ⟨b',c',q1,q2,_⟩⟩:=wt
  ·simp [Sl.blk,q1] at hx
  ·simp [Sl.blk,q1] at hx
   subst hx
   exact nK w q2 (fun h=>he h.symm) hb
 exact ⟨fun i hi=>kp (g.oa i hi),fun i hi=>kp (g.om i hi),g.pre,g.rel,g.mm,g.new,g.only.trans o fun m hm' hb=>absurd (hm m hb) (by omega)⟩
theorem GW.app (hf:∀ x,(f x).length=kk) (hk:0<kk) (g:GW f kk e n h0 h A M T D){i:Nat}{r:Sl}{L:List α}(hi:i<n) (w:aU h' r e kk ((D i ++ L).flatMap f))
  (o:(r.ptr=(M i).ptr∧r.cap=(M i).cap∧bI (fun b=>(M i).blk=some b) h h')∨(∃ b,r.ptr=some ⟨b,0,none⟩∧h.size<=b∧Ext h h')) :
  GW f kk e n h0 h' A (rM M i r) T (rM D i (D i ++ L)):=by
 have hpre:∀ j,j<n->(rM D i (D i ++ L) j).take (T j).length=T j:=fun j hj=>by
  by_cases hji:j=i
  ·subst hji
   rw [dQ]
   have:=g.pre j hj
   have hle:(T j).length<=(D j).length:=by rw [← this,List.length_take];omega
   rw [List.take_append_of_le_length hle];exact this
  ·rw [eR D _ hji];exact g.pre j hj
 have hle:(T i).length<=(D i).length:=by
  have:=congrArg List.length (g.pre i hi)
  rw [List.length_take] at this;omega
 have hla:=bH hf hk (g.oa i hi)
 rcases o with ⟨o1,o2,o3⟩ | ⟨b,o1,o2,o3⟩
 ·have hbl:r.blk=(M i).blk:=by simp [Sl.blk,o1]
  refine ⟨fun j hj=>?_,fun j hj=>?_,hpre,fun j hj=>?_,fun j l hj hl hjl b hb=>?_,fun j hj b hb=>?_,g.only.trans o3 fun m hm hb=>?_⟩
  ·by_cases hji:j=i
   ·subst hji
    rcases g.rel j hj with ⟨r1,r2⟩ | r1
    ·have:=pX (a:=A j) (n:=(T j).length) hf hk w (r1.trans o1.symm) (r2.trans o2.symm) hla (by rw [List.length_append];omega)
     rw [List.take_append_of_le_length hle,g.pre j hj] at this
     exact this
    ·exact (g.oa j hj).only o3 fun x hx hb=>r1 x hb hx
   ·exact (g.oa j hj).only o3 fun x hx hb=>(g.mm i j hi hj (fun h=>hji h.symm) x hb).2 hx
  ·by_cases hji:j=i
   ·subst hji;rw [dQ,dQ];exact w
   ·rw [eR M r hji,eR D _ hji]
    exact (g.om j hj).only o3 fun x hx hb=>(g.mm i j hi hj (fun h=>hji h.symm) x hb).1 hx
  ·by_cases hji:j=i
   ·subst hji
    rw [dQ,o1,o2,hbl];exact g.rel j hj
   ·rw [eR M r hji];exact g.rel j hj
  ·have hb':(M j).blk=some b:=by
    by_cases hji:j=i
    ·subst hji;rw [dQ,hbl] at hb;exact hb
    ·rw [eR M r hji] at hb;exact hb
   refine ⟨?_,(g.mm j l hj hl hjl b hb').2⟩
   by_cases hli:l=i
   ·subst hli;rw [dQ,hbl];exact (g.mm j l hj hl hjl b hb').1
   ·rw [eR M r hli];exact (g.mm j l hj hl hjl b hb').1
  ·by_cases hji:j=i
   ·subst hji;rw [dQ,hbl] at hb;exact g.new j hj b hb
   ·rw [eR M r hji] at hb;exact g.new j hj b hb
  ·rcases g.new i hi m hb with h1 | h1
   ·exact ⟨i,hi,h1⟩
   ·omega
 ·have hbl:r.blk=some b:=by simp [Sl.blk,o1]
  have ha:∀ j,j<n->(A j).blk≠some b:=fun j hj hb=>by have:=(g.oa j hj).blk_lt hb;omega
  have hm:∀ j,j<n->(M j).blk≠some b:=fun j hj hb=>by have:=(g.om j hj).blk_lt hb;omega
  have hs:=g.only.size
  refine ⟨fun j hj=>(g.oa j hj).ext o3,fun j hj=>?_,hpre,fun j hj=>?_,fun j l hj hl hjl x hx=>?_,fun j hj x hx=>?_,g.only.ext o3⟩
  ·by_cases hji:j=i
   ·subst hji;rw [dQ,dQ];exact w
   ·rw [eR M r hji,eR D _ hji];exact (g.om j hj).ext o3
  ·by_cases hji:j=i
   ·subst hji
    rw [dQ]
    exact .inr fun x hx=>by rw [hbl] at hx;cases hx;exact ha j hj
   ·rw [eR M r hji];exact g.rel j hj
  ·by_cases hji:j=i
   ·subst hji
    rw [dQ,hbl] at hx;cases hx
    exact ⟨by rw [eR M r (fun h=>hjl h.symm)];exact hm l hl,ha l hl⟩
   ·rw [eR M r hji] at hx
    refine ⟨?_,(g.mm j l hj hl hjl x hx).2⟩
    by_cases hli:l=i
    ·subst hli;rw [dQ,hbl];intro h;cases h;exact hm j hj hx
    ·rw [eR M r hli];exact (g.mm j l hj hl hjl x hx).1
  ·by_cases hji:j=i
   ·subst hji;rw [dQ,hbl] at hx;cases hx;exact .inr (by omega)
   ·rw [eR M r hji] at hx;exact g.new j hj x hx
end
end Go.Proofs.YtjjchpaomgmmdaaGreat.V
namespace Go.Proofs.YtjjchpaomgmmdaaGreat.V.S
open Go Go.Proofs.YtjjchpaomgmmdaaGreat.V
set_option linter.unusedVariables false
set_option linter.unusedSimpArgs false
set_option maxRecDepth 20000
theorem nE {h:H}{c:Cel}{Q:ByteArray->Int->H->Prop}(k0:okC c≠0->∀ h',Ext h h'->Q ⟨#[]⟩ (okC c) h') (k1:okC c=0->∀ h',Ext h h'->Q (fG c) 0 h'):F.xak c h Q:=by
 unfold F.xak
 refine aN fun n h1 hn b1 e1 s1=>?_
 have c0:aA h1 ⟨n,0,none⟩=some (.int .i64 c.View):=Blk.cells b1 0 _ rfl
 have c1:aA h1 ⟨n,1,none⟩=some (.string c.Key):=Blk.cells b1 1 _ rfl
 have c2:aA h1 ⟨n,2,none⟩=some (.int .i64 c.Start):=Blk.cells b1 2 _ rfl
 have j1:okC c=0->F.xak.j1 Q ⟨n,0,none⟩ h1:=fun g=>by
  unfold F.xak.j1
  refine ⟨c,Blk.cells b1,zl (fun g2=>absurd (mI g) g2) fun _ h2 e2=>k1 g h2 (e1.trans e2)⟩
 have j4:∀ b:Bool,(b=true->okC c=22)->(b=false->okC c=0)->F.xak.j4 Q ⟨n,0,none⟩ b h1:=fun b q1 q2=>by
  unfold F.xak.j4
  refine ⟨fun g=>?_,fun g=>j1 (q2 g)⟩
  have:=k0 (by rw [q1 g];decide) h1 e1
  rw [q1 g] at this;exact this
 have j3:∀ b:Bool,(b=true->okC c=21)->(b=false->okC c=if c.Start < -2305843009213693952∨c.Start > 2305843009213693952 then 22 else 0)->F.xak.j3 Q ⟨n,0,none⟩ b h1:=fun b q1 q2=>by
  unfold F.xak.j3
  simp only [aC,Nat.zero_add,Nat.add_zero]
  refine ⟨fun g=>?_,fun g=>?_⟩
  ·have:=k0 (by rw [q1 g];decide) h1 e1
   rw [q1 g] at this;exact this
  ·have hq:=q2 g
   rw [bA c2]
   refine ⟨fun g2=>j4 true (fun _=>?_) fun h=>(by cases h),fun g2=>?_⟩
   ·have g2:=of_decide_eq_true g2
    rw [hq,if_pos (.inl g2)]
   ·have g2:=of_decide_eq_false g2
    rw [bA c2]
    refine j4 _ (fun g3=>?_) fun g3=>?_
    ·have g3:=of_decide_eq_true g3
     rw [hq,if_pos (.inr g3)]
    ·have g3:=of_decide_eq_false g3
     rw [hq,if_neg (by omega)]
 have j2:∀ b:Bool,(b=true->okC c=23)->(b=false->okC c=if (c.Key.size:Int)<1∨(c.Key.size:Int) > 32 then 21 else if c.Start < -2305843009213693952∨c.Start > 2305843009213693952 then 22 else 0)->F.xak.j2 Q ⟨n,0,none⟩ b h1:=fun b q1 q2=>by
  unfold F.xak.j2
  simp only [aC,Nat.zero_add,Nat.add_zero]
  refine ⟨fun g=>?_,fun g=>?_⟩
  ·have:=k0 (by rw [q1 g];decide) h1 e1
   rw [q1 g] at this;exact this
  ·have hq:=q2 g
   rw [eP c1]
   refine ⟨fun g2=>j3 true (fun _=>?_) fun h=>(by cases h),fun g2=>?_⟩
   ·have g2:=of_decide_eq_true g2
    rw [hq,if_pos (.inl g2)]
   ·have g2:=of_decide_eq_false g2
    rw [eP c1]
    refine j3 _ (fun g3=>?_) fun g3=>?_
    ·have g3:=of_decide_eq_true g3
     rw [hq,if_pos (.inr g3)]
    ·have g3:=of_decide_eq_false g3
     rw [hq,if_neg (by omega)]
 simp only [aC,Nat.zero_add,Nat.add_zero]
 rw [bA c0]
 refine ⟨fun g2=>j2 true (fun _=>?_) fun h=>(by cases h),fun g2=>?_⟩
 ·have g2:=of_decide_eq_true g2
  unfold okC;rw [if_pos (.inl g2)]
 ·have g2:=of_decide_eq_false g2
  rw [bA c0]
  refine j2 _ (fun g3=>?_) fun g3=>?_
  ·have g3:=of_decide_eq_true g3
   unfold okC;rw [if_pos (.inr g3)]
  ·have g3:=of_decide_eq_false g3
   unfold okC;rw [if_neg (by omega)]
structure Rec where
 c:Cel
 vs:List Ver
 p:Nat
 B:Option Nat
abbrev toS (Z:List Rec):SL:=Z.map fun r=>(r.c,r.vs)
def ShE (e:TypeId):Prop:=e=jD∨e=cD∨e=bq∨e=di∨e=bU
def lw (h:H) (b:Nat):Prop:=∃ e,ShE e∧WB h b e
structure SZG (W:List Ver->Prop) (h:H) (n tn:Nat) (rs es:Sl) (T:Tb (Option Addr)) (Z:List Rec) (slots:Nat) (R:Nat->Prop) (u t:Int):Prop where
 sb:Blk h n #[.int .i64 u,.int .i64 t,.int .i64 (slots:Int),.pointer (some ⟨tn,0,none⟩)] jD
 th:P.TH h tn rs es T
 ok:TOk T
 ch:∀ r∈Z,C.Ch h r.p r.vs r.B
 get:∀ r∈Z,dO T (fG r.c)=some (some ⟨r.p,0,none⟩)
 all:∀ k v,dO T k=some v->∃ r∈Z,kL k=kq r.c
 srt:fA Rec.c Z
 pd:Z.Pairwise fun a b=>a.p≠b.p
 bd:Z.Pairwise fun a b=>∀ x,a.B=some x->b.B≠some x
 wf:∀ r∈Z,okC r.c=0∧W r.vs
 us:aR (toS Z)<=slots
 sl:slots<=1048576
 rl:T.row.length<=4200000
 rn:R n
 rt:R tn
 rr:∀ b,rs.blk=some b->R b
 re:∀ b,es.blk=some b->R b
 rp:∀ r∈Z,R r.p∧∀ x,r.B=some x->R x
abbrev SZ:=SZG VOk
theorem AT {h:H}{n tn:Nat}{rs es:Sl}{T:Tb (Option Addr)}{Z:List Rec}{slots:Nat}{R:Nat->Prop}{u t:Int}(z:SZ h n tn rs es T Z slots R u t):SOk (toS Z):=by
 refine ⟨?_,fun x hx=>?_⟩
 ·unfold gI fA;rw [List.pairwise_map];exact z.srt
 ·obtain ⟨r,hr,rfl⟩:=List.mem_map.1 hx
  exact z.wf r hr
section
variable {W:List Ver->Prop}{h h':H}{n tn:Nat}{rs es:Sl}{T:Tb (Option Addr)}{Z:List Rec}{slots:Nat}{R:Nat->Prop}{u t:Int}
theorem oq {p:Nat}{L:List Ver}{B:Option Nat}(c:C.Ch h p L B):WB h p di∧∀ b,B=some b->WB h b bU:=by
 obtain ⟨s,h1,h2,h3,h4⟩:=c
 exact ⟨⟨_,h1⟩,fun b hb=>h2.typ (by rw [h3];exact hb)⟩
theorem SZG.keep {S:Nat->Prop}(z:SZG W h n tn rs es T Z slots R u t) (o:bI S h h') (hn:∀ b,R b->lw h b->¬ S b):SZG W h' n tn rs es T Z slots R u t:=by
 refine { z with sb:=o.block z.sb (hn n z.rn ⟨_,.inl rfl,_,z.sb⟩),th:=z.th.only o fun b hb=>?_,ch:=fun r hr=>?_ }
 ·rcases hb with hb | hb | hb
  ·subst hb;exact hn _ z.rt ⟨_,.inr (.inl rfl),_,z.th.tb⟩
  ·exact hn _ (z.rr b hb) ⟨_,.inr (.inr (.inl rfl)),z.th.row.typ hb⟩
  ·exact hn _ (z.re b hb) ⟨_,.inr (.inr (.inl rfl)),z.th.el.typ hb⟩
 ·have:=oq (z.ch r hr)
  exact (z.ch r hr).only o (hn _ (z.rp r hr).1 ⟨_,.inr (.inr (.inr (.inl rfl))),this.1⟩) fun b hb=>hn _ ((z.rp r hr).2 b hb) ⟨_,.inr (.inr (.inr (.inr rfl))),this.2 b hb⟩
theorem SZG.ext (z:SZG W h n tn rs es T Z slots R u t) (e:Ext h h'):SZG W h' n tn rs es T Z slots R u t:=z.keep e fun _ _ _ f=>f
theorem SZG.len (z:SZG VOk h n tn rs es T Z slots R u t):Z.length<=1048576:=by
 have h1:=gM (AT z)
 have h2:=z.us
 have h3:=z.sl
 rw [show (toS Z).length=Z.length from List.length_map _] at h1
 omega
theorem SZG.vlen (z:SZG W h n tn rs es T Z slots R u t){r:Rec}(hr:r∈Z):r.vs.length<=1048576:=by
 have h1:=oY (S:=toS Z) (x:=(r.c,r.vs)) (List.mem_map.2 ⟨r,hr,rfl⟩)
 have h2:=z.us
 have h3:=z.sl
 simp only at h1
 omega
theorem SZG.cs0 (z:SZG W h n tn rs es T Z slots R u t):aA h ⟨n,0,none⟩=some (.int .i64 u):=z.sb.cell rfl
theorem SZG.cs1 (z:SZG W h n tn rs es T Z slots R u t):aA h ⟨n,1,none⟩=some (.int .i64 t):=z.sb.cell rfl
theorem SZG.cs2 (z:SZG W h n tn rs es T Z slots R u t):aA h ⟨n,2,none⟩=some (.int .i64 (slots:Int)):=z.sb.cell rfl
theorem SZG.cs3 (z:SZG W h n tn rs es T Z slots R u t):aA h ⟨n,3,none⟩=some (.pointer (some ⟨tn,0,none⟩)):=z.sb.cell rfl
theorem SZG.look (z:SZG W h n tn rs es T Z slots R u t){c:Cel}(hc:okC c=0):dO T (fG c)=(dI Rec.c Z c).map fun r=>some ⟨r.p,0,none⟩:=by
 cases hg:dI Rec.c Z c with
 | some r =>
  obtain ⟨h1,h2⟩:=fW hg
  subst h2
  exact z.get r h1
 | none =>
  cases hm:dO T (fG c) with
  | none=>rfl
  | some v =>
   obtain ⟨r,hr,he⟩:=z.all _ _ hm
   rw [jO] at he
   exact absurd (tK hc (z.wf r hr).1 he).symm (sm hg r hr)
theorem SZG.getS (z:SZG W h n tn rs es T Z slots R u t) (c:Cel):S.cx (toS Z) c=(dI Rec.c Z c).map (·.vs):=by
 show (dI _ (Z.map _) c).map _=_
 rw [tO (key:=Rec.c) (key':=fun x:Cel×List Ver=>x.1) (fun r:Rec=>(r.c,r.vs)) (fun _=>rfl),Option.map_map]
 rfl
theorem l9 {c:Cel}(h:okC c=0):i3 (fG c):=by
 have:=uN h
 show (kq c).toArray.size<=_
 simp;omega
end
def SH (h:H) (n:Nat) (S:SL) (slots:Nat) (R:Nat->Prop):Prop:=∃ tn rs es T Z,toS Z=S∧SZ h n tn rs es T Z slots R (aR (toS Z):Int) (ck (toS Z):Int)
section
variable {h h':H}{n:Nat}{S:SL}{slots:Nat}{R:Nat->Prop}
theorem SH.keep {P:Nat->Prop}(s:SH h n S slots R) (o:bI P h h') (hn:∀ b,R b->lw h b->¬ P b):SH h' n S slots R:=by
 obtain ⟨tn,rs,es,T,Z,h1,z⟩:=s
 exact ⟨tn,rs,es,T,Z,h1,z.keep o hn⟩
theorem SH.ext (s:SH h n S slots R) (e:Ext h h'):SH h' n S slots R:=s.keep e fun _ _ _ f=>f
theorem SH.ok (s:SH h n S slots R):SOk S:=by
 obtain ⟨tn,rs,es,T,Z,rfl,z⟩:=s
 exact AT z
theorem SH.us (s:SH h n S slots R):aR S<=slots∧slots<=1048576:=by
 obtain ⟨tn,rs,es,T,Z,rfl,z⟩:=s
 exact ⟨z.us,z.sl⟩
theorem SH.oth (s:SH h n S slots R){t:Sl}{e:TypeId}{k:Nat}{cs:List Value}(o:bI (fun b=>t.blk=some b) h h') (w:aU h t e k cs) (he:¬ ShE e):SH h' n S slots R:=
 s.keep o fun b _ ⟨e',h1,c',h2⟩ hb=>he (by
  obtain ⟨c,h3⟩:=w.typ hb
  have:=h3.symm.trans h2
  simp at this
  rw [this.2];exact h1)
abbrev cX (R:Nat->Prop) (h h':H):Prop:=bI (fun b=>R b∧lw h b) h h'
theorem lw.back {S:Nat->Prop}(o:bI S h h'){b:Nat}(hb:b<h.size) (hs:¬ S b) (t:lw h' b):lw h b:=by
 obtain ⟨e,h1,c,h2⟩:=t
 exact ⟨e,h1,c,(o.same b hb hs).symm.trans h2⟩
theorem cX.trans {h'':H}(a:cX R h h') (b:cX R h' h''):cX R h h'':=bI.trans a b fun m hm ⟨h1,h2⟩=>by
 by_cases hs:lw h m
 ·exact ⟨h1,hs⟩
 ·exact ⟨h1,lw.back a hm (fun h=>hs h.2) h2⟩
theorem cX.of (e:Ext h h'):cX R h h':=Ext.only e
theorem cX.owns (a:cX R h h'){t:Sl}{e:TypeId}{k:Nat}{cs:List Value}(w:aU h t e k cs) (he:¬ ShE e):aU h' t e k cs:=w.only a fun b hb ⟨_,e',h1,c',h2⟩=>he (by
 obtain ⟨c,h3⟩:=w.typ hb
 have:=h3.symm.trans h2
 simp at this
 rw [this.2];exact h1)
theorem cX.base {h0:H}(e:Ext h0 h) (a:cX R h h') (hR:∀ b,R b->h0.size<=b):Ext h0 h':=e.step a fun m hm hb=>by have:=hR m hb.1;omega
end
theorem Dd:¬ ShE bQ:=by
 unfold ShE;decide
theorem vG {h:H}{n:Nat}{S:SL}{slots:Nat}{R:Nat->Prop}{Q:Int->H->Prop}(s:SH h n S slots R) (k:Q (aR S:Int) h):F.xfb (some ⟨n,0,none⟩) h Q:=by
 obtain ⟨tn,rs,es,T,Z,rfl,z⟩:=s
 unfold F.xfb
 simp only [aZ,aC,Nat.add_zero]
 rw [bA z.cs0];exact k
theorem vu {h:H}{n:Nat}{S:SL}{slots:Nat}{R:Nat->Prop}{Q:Int->H->Prop}(s:SH h n S slots R) (k:Q (ck S:Int) h):F.xfa (some ⟨n,0,none⟩) h Q:=by
 obtain ⟨tn,rs,es,T,Z,rfl,z⟩:=s
 unfold F.xfa
 simp only [aZ,aC,Nat.zero_add]
 rw [bA z.cs1];exact k
theorem lu {h:H}{m:Int}{R:Nat->Prop}{Q:Option Addr->Int->H->Prop}(k0:(m<2∨m > 1048576)->Q none 1 h)
  (hR:∀ b,h.size<=b->R b) (k1:2<=m->m<=1048576->∀ h' n,SH h' n [] m.toNat R->Ext h h'->h.size<=n->Q (some ⟨n,0,none⟩) 0 h'):F.xbw m h Q:=by
 have j1:2<=m->m<=1048576->F.xbw.j1 Q m h:=fun h1 h2=>by
  unfold F.xbw.j1
  refine P.lu fun h3 tn rs th e3 hft=>?_
  refine aN fun n h4 hn b4 e4 s4=>?_
  have g:=C8 (P.iv)
  have e3s:=e3.size
  refine k1 h1 h2 h4 n ⟨tn,rs,⟨none,0,0⟩,lm P.iv,[],rfl,?_⟩ (e3.trans e4) (by omega)
  refine { sb:=?_,th:=th.ext e4,ok:=g.1,ch:=(fun r hr=>by cases hr),get:=(fun r hr=>by cases hr),all:=fun k v hk=>?_,srt:=List.Pairwise.nil,pd:=List.Pairwise.nil,bd:=List.Pairwise.nil,wf:=(fun r hr=>by cases hr),us:=Nat.zero_le _,sl:=by omega,rl:=(by show (lm P.iv).row.length<=_;simp [lm]),rn:=hR _ (by omega),rt:=hR _ (hft _ (.inl rfl)),rr:=fun b hb=>hR _ (hft _ (.inr (.inl hb))),re:=fun b hb=>hR _ (hft _ (.inr (.inr hb))),rp:=(fun r hr=>by cases hr) }
  ·have hm:((m.toNat:Nat):Int)=m:=by omega
   rw [hm];exact b4
  ·rw [g.2.2] at hk;cases hk
 unfold F.xbw F.xbw.j2
 refine ⟨fun g=>⟨fun _=>k0 (.inl (of_decide_eq_true g)),fun h=>by cases h⟩,fun g=>⟨fun g2=>k0 (.inr (of_decide_eq_true g2)),fun g2=>?_⟩⟩
 exact j1 (by have:=of_decide_eq_false g;omega) (by have:=of_decide_eq_false g2;omega)
theorem mB {h:H}{n tn:Nat}{rs es:Sl}{T:Tb (Option Addr)}{Z:List Rec}{slots:Nat}{R:Nat->Prop}{u t:Int}{c:Cel}{Q:Option Addr->H->Prop}(z:SZ h n tn rs es T Z slots R u t)
  (k0:(okC c≠0∨dI Rec.c Z c=none)->∀ h',Ext h h'->Q none h') (k1:okC c=0->∀ r,dI Rec.c Z c=some r->∀ h',Ext h h'->Q (some ⟨r.p,0,none⟩) h'):F.xdj (some ⟨n,0,none⟩) c h Q:=by
 unfold F.xdj
 refine aN fun m h1 hm b1 e1 s1=>⟨c,Blk.cells b1,?_⟩
 refine nE (fun g h2 e2=>⟨fun _=>k0 (.inl g) h2 (e1.trans e2),fun g2=>absurd (by simpa using g2) g⟩) fun g h2 e2=>⟨fun g2=>by simp at g2,fun _=>?_⟩
 have z2:=z.ext (e1.trans e2)
 simp only [aZ,aC,Nat.zero_add]
 rw [gB z2.cs3]
 refine P.mX z2.th z2.ok (l9 g) fun h3 e3=>?_
 rw [z2.look g]
 have e13:=(e1.trans e2).trans e3
 cases hg:dI Rec.c Z c with
 | none=>exact k0 (.inr hg) h3 e13
 | some r=>exact k1 g r hg h3 e13
theorem A8 {h:H}{e:Int}{Q:ag->Bool->H->Prop}(k:∀ h',Ext h h'->Q zA false h'):F.xdq none e h Q:=by
 unfold F.xdq
 refine aN fun m h1 hm b1 e1 s1=>⟨fun _=>?_,fun g=>by cases g⟩
 have b1':Blk h1 m zA.cells.toArray cf:=b1
 refine C.eK b1' (d:=zA) fun h2 b2 o2 s2=>⟨zA,b2.cells,k h2 (e1.step o2 fun x hx hb=>by omega)⟩
theorem wT {h:H}{p:Nat}{vs:List Ver}{B:Option Nat}{e:Int}{Q:ag->Bool->H->Prop}(c:C.Ch h p vs B) (hr:C.jH vs) (hl:vs.length<1073741824) (k:∀ h',Ext h h'->Q (atV vs e).1 (atV vs e).2 h'):F.xdq (some ⟨p,0,none⟩) e h Q:=by
 unfold F.xdq
 unfold atV at k
 refine aN fun m h1 hm b1 e1 s1=>⟨fun g=>by simp at g,fun _=>⟨fun g=>?_,fun g=>?_⟩⟩
 ·have g:e=0:=by simpa using g
  rw [if_pos g] at k
  have b1':Blk h1 m zA.cells.toArray cf:=b1
  refine C.jK (c.ext e1) (by omega) fun h2 e2=>?_
  refine aN fun m3 h3 hm3 b3 e3 s3=>?_
  have b3':Blk h3 m3 zA.cells.toArray cf:=b3
  refine C.eK b3' fun h4 b4 o4 s4=>⟨_,b4.cells,?_⟩
  have e2s:=e2.size
  have e14:Ext h1 h4:=(e2.trans e3).step o4 fun x hx hb=>by omega
  have b14:=e14.block b1' fun f=>f
  refine C.eK b14 fun h5 b5 o5 s5=>⟨_,b5.cells,?_⟩
  exact k h5 ((e1.trans e14).step o5 fun x hx hb=>by omega)
 ·have g:e≠0:=by simpa using g
  rw [if_neg g] at k
  have b1':Blk h1 m zA.cells.toArray cf:=b1
  refine C.pI (c.ext e1) hr hl fun h2 e2=>?_
  refine C.eK (e2.block b1' fun f=>f) fun h5 b5 o5 s5=>⟨_,b5.cells,?_⟩
  exact k h5 ((e1.trans e2).step o5 fun x hx hb=>by omega)
theorem pI {h:H}{n:Nat}{S:SL}{slots:Nat}{R:Nat->Prop}{c:Cel}{e:Int}{Q:ag->H->Prop}(s:SH h n S slots R) (k:∀ h',Ext h h'->Q (atS S c e) h'):F.xdv (some ⟨n,0,none⟩) c e h Q:=by
 obtain ⟨tn,rs,es,T,Z,rfl,z⟩:=s
 unfold F.xdv
 refine aN fun m h1 hm b1 e1 s1=>aN fun m2 h2 hm2 b2 e2 s2=>⟨c,(Blk.cells b1).ext e2,?_⟩
 have e12:=e1.trans e2
 have b2':Blk h2 m2 zA.cells.toArray cf:=b2
 have z2:=z.ext e12
 have tail:∀ (a:ag) (h3:H),Ext h2 h3->a=atS (toS Z) c e->new h3 (((⟨0,0,0,0⟩:ag):ag).cells.toArray) cf fun a13 h12=>stH h12 a13 a.cells fun h14=>bh h14 a13 fun y15=>stH h14 ⟨m2,0,none⟩ y15.cells fun h17=>bh h17 ⟨m2,0,none⟩ fun y18=>Q y18 h17:=fun a h3 e3 ha=>by
  refine aN fun m4 h4 hm4 b4 e4 s4=>?_
  have b4':Blk h4 m4 zA.cells.toArray cf:=b4
  refine C.eK b4' fun h5 b5 o5 s5=>⟨_,b5.cells,?_⟩
  have z3:=e3.size
  have e25:Ext h2 h5:=(e3.trans e4).step o5 fun x hx hb=>by omega
  refine C.eK (e25.block b2' fun f=>f) fun h6 b6 o6 s6=>⟨_,b6.cells,?_⟩
  rw [ha]
  exact k h6 ((e12.trans e25).step o6 fun x hx hb=>by have:=e1.size;omega)
 refine mB z2 (fun g h3 e3=>A8 fun h4 e4=>tail _ h4 (e3.trans e4) ?_) fun g r hr h3 e3=>?_
 ·unfold atS
  split
  ·rfl
  ·rename_i g2
   rcases g with g | g
   ·exact absurd g g2
   ·rw [z.getS,g];rfl
 ·obtain ⟨h5,h6⟩:=fW hr
  refine wT ((z2.ch r h5).ext e3) (z.wf r h5).2.rise (by have:=z.vlen h5;omega) fun h4 e4=>tail _ h4 (e3.trans e4) ?_
  unfold atS
  rw [if_neg (fun h=>h g),z.getS,hr];rfl
theorem mX {h:H}{n:Nat}{S:SL}{slots:Nat}{R:Nat->Prop}{c:Cel}{Q:ag->H->Prop}(s:SH h n S slots R) (k:∀ h',Ext h h'->Q (atS S c 0) h'):F.xez (some ⟨n,0,none⟩) c h Q:=by
 unfold F.xez
 refine aN fun m h1 hm b1 e1 s1=>aN fun m2 h2 hm2 b2 e2 s2=>⟨c,(Blk.cells b1).ext e2,?_⟩
 have e12:=e1.trans e2
 have b2':Blk h2 m2 zA.cells.toArray cf:=b2
 refine pI (s.ext e12) fun h3 e3=>?_
 refine C.eK (e3.block b2' fun f=>f) fun h6 b6 o6 s6=>⟨_,b6.cells,?_⟩
 exact k h6 ((e12.trans e3).step o6 fun x hx hb=>by have:=e1.size;omega)
theorem sM {h:H}{n tn:Nat}{rs es:Sl}{T:Tb (Option Addr)}{Z:List Rec}{slots:Nat}{R:Nat->Prop}{u t:Int}{c:Cel}{e:Int}{Q:Int->H->Prop}(z:SZ h n tn rs es T Z slots R u t) (k:∀ h',Ext h h'->Q (fc (toS Z) e c) h'):F.xbp (some ⟨n,0,none⟩) e c h Q:=by
 unfold F.xbp
 unfold fc at k
 refine aN fun m h1 hm b1 e1 s1=>⟨c,Blk.cells b1,?_⟩
 refine nE (fun g h2 e2=>⟨fun _=>?_,fun g2=>absurd (by simpa using g2) g⟩) fun g h2 e2=>⟨fun g2=>by simp at g2,fun _=>⟨c,(Blk.cells b1).ext e2,?_⟩⟩
 ·rw [if_pos g] at k;exact k h2 (e1.trans e2)
 rw [if_neg (fun h=>h g)] at k
 have z2:=z.ext (e1.trans e2)
 refine mB z2 (fun g2 h3 e3=>⟨fun _=>?_,fun g3=>by simp at g3⟩) fun _ r hr h3 e3=>⟨fun g3=>by simp at g3,fun _=>?_⟩
 ·have:dI Rec.c Z c=none:=by
   rcases g2 with g2 | g2
   ·exact absurd g g2
   ·exact g2
  rw [z.getS,this] at k
  exact k h3 ((e1.trans e2).trans e3)
 ·obtain ⟨h5,h6⟩:=fW hr
  rw [z.getS,hr] at k
  refine C.jK ((z2.ch r h5).ext e3) (by have:=z.vlen h5;omega) fun h4 e4=>?_
  refine aN fun m5 h5' hm5 b5 e5 s5=>?_
  have b5':Blk h5' m5 zA.cells.toArray cf:=b5
  refine C.eK b5' fun h6' b6 o6 s6=>?_
  have ee:Ext h h6':=((((e1.trans e2).trans e3).trans e4).trans e5).step o6 fun x hx hb=>by
   have:=(((e1.trans e2).trans e3).trans e4).size
   omega
  have k:=k h6' ee
  simp only [Option.map_some,pm] at k
  refine ⟨fun g3=>?_,fun g3=>?_⟩
  ·rw [if_pos (of_decide_eq_true g3)] at k;exact k
  ·rw [if_neg (of_decide_eq_false g3)] at k
   rw [show eS r.vs=(C.bT r.vs).2.2 from rfl] at k
   generalize (C.bT r.vs).2.2=A at k ⊢
   generalize (C.bT r.vs).2.1=E at k ⊢
   unfold F.xbp.j1 F.xbp.j2
   by_cases hE:E=e
   ·subst hE;cases A <;> simp at k ⊢ <;> exact k
   ·cases A <;> simp [hE] at k ⊢ <;> exact k
theorem Bf {h:H}{n o:Nat}{xs ys:List Value}(c:Cells h ⟨n,o,none⟩ (xs ++ ys)):Cells h ⟨n,o,none⟩ xs:=fun i v hv=>c i v (by rw [List.getElem?_append_left (List.getElem?_eq_some_iff.1 hv).1];exact hv)
theorem Bg {h:H}{n o:Nat}{xs ys:List Value}(c:Cells h ⟨n,o,none⟩ (xs ++ ys)):Cells h ⟨n,o+xs.length,none⟩ ys:=fun i v hv=>by
 have:=c (xs.length+i) v (by rw [List.getElem?_append_right (by omega),Nat.add_sub_cancel_left];exact hv)
 rw [aC] at this ⊢
 rwa [Nat.add_assoc]
theorem wx {α:Type}{P:α->α->Prop}(sym:∀ x y,P x y->P y x):∀ {Z:List α},Z.Pairwise P->∀ {x y:α},x∈Z->y∈Z->x≠y->P x y
 | [],_,_,_,hx,_,_=>by cases hx
 | z :: r,h,x,y,hx,hy,hne=>by
  have h':=List.pairwise_cons.1 h
  rcases List.mem_cons.1 hx with e | e <;> rcases List.mem_cons.1 hy with e2 | e2
  ·exact absurd (e.trans e2.symm) hne
  ·rw [e];exact h'.1 y e2
  ·rw [e2];exact sym _ _ (h'.1 x e)
  ·exact wx sym h'.2 e e2 hne
theorem kV {α:Type} [DecidableEq α]:∀ {E L:List α},E.Nodup->(∀ e∈E,e∈L)->E.length<=L.length
 | [],L,_,_=>Nat.zero_le _
 | e :: E,L,h,hs=>by
  rw [List.nodup_cons] at h
  have he:=hs e (by simp)
  have:=kV (E:=E) (L:=L.erase e) h.2 fun x hx=>(List.mem_erase_of_ne (show x≠e from fun hxe=>h.1 (by rw [← hxe];exact hx))).2 (hs x (by simp [hx]))
  rw [List.length_erase_of_mem he] at this
  have hpos:0<L.length:=List.length_pos_of_mem he
  simp only [List.length_cons];omega
theorem xm {h:H}{tn:Nat}{rs es:Sl}{T:Tb (Option Addr)}(th:P.TH h tn rs es T){b:Nat}(hb:FT tn rs es b):∃ e,WB h b e∧(e=cD∨e=bq):=by
 rcases hb with hb | hb | hb
 ·subst hb;exact ⟨_,⟨_,th.tb⟩,.inl rfl⟩
 ·exact ⟨_,th.row.typ hb,.inr rfl⟩
 ·exact ⟨_,th.el.typ hb,.inr rfl⟩
section
variable {W:List Ver->Prop}{h h':H}{n tn:Nat}{rs es:Sl}{T:Tb (Option Addr)}{Z:List Rec}{slots:Nat}{R:Nat->Prop}{u t:Int}
theorem SZG.n_ft (z:SZG W h n tn rs es T Z slots R u t){b:Nat}(hb:FT tn rs es b):b≠n:=by
 obtain ⟨e,h1,h2⟩:=xm z.th hb
 exact h1.ne ⟨_,z.sb⟩ (by rcases h2 with rfl | rfl <;> decide)
theorem SZG.ch_ft (z:SZG W h n tn rs es T Z slots R u t){r:Rec}(hr:r∈Z){b:Nat}(hb:FT tn rs es b):b≠r.p∧r.B≠some b:=by
 obtain ⟨e,h1,h2⟩:=xm z.th hb
 have h3:=oq (z.ch r hr)
 exact ⟨h1.ne h3.1 (by rcases h2 with rfl | rfl <;> decide),fun hB=>h1.ne (h3.2 b hB) (by rcases h2 with rfl | rfl <;> decide) rfl⟩
theorem SZG.n_ch (z:SZG W h n tn rs es T Z slots R u t){r:Rec}(hr:r∈Z):r.p≠n∧r.B≠some n:=by
 have h3:=oq (z.ch r hr)
 exact ⟨h3.1.ne ⟨_,z.sb⟩ (by decide),fun hB=>(h3.2 n hB).ne ⟨_,z.sb⟩ (by decide) rfl⟩
theorem SZG.p_B (z:SZG W h n tn rs es T Z slots R u t){r r':Rec}(hr:r∈Z) (hr':r'∈Z):r'.B≠some r.p:=fun hB =>
 ((oq (z.ch r' hr')).2 _ hB).ne (oq (z.ch r hr)).1 (by decide) rfl
theorem SZG.f_lt (z:SZG W h n tn rs es T Z slots R u t):n<h.size∧(∀ b,FT tn rs es b->b<h.size)∧∀ r∈Z,r.p<h.size∧∀ b,r.B=some b->b<h.size:=
 ⟨dx z.sb,z.th.lt,fun r hr=>⟨(z.ch r hr).lt,(z.ch r hr).ltB⟩⟩
theorem SZG.stN (z:SZG W h n tn rs es T Z slots R u t){u' t':Int}(o:bI (·=n) h h') (b:Blk h' n #[.int .i64 u',.int .i64 t',.int .i64 (slots:Int),.pointer (some ⟨tn,0,none⟩)] jD):SZG W h' n tn rs es T Z slots R u' t'∧cX R h h':=by
 refine ⟨{ z with sb:=b,th:=z.th.only o fun b hb=>z.n_ft hb,ch:=fun r hr=>(z.ch r hr).only o (z.n_ch hr).1 fun b hb e=>(z.n_ch hr).2 (by rw [hb,e]) },o.mono fun b _ e=>?_⟩
 subst e
 exact ⟨z.rn,_,.inl rfl,_,z.sb⟩
theorem SZG.st0 (z:SZG W h n tn rs es T Z slots R u t){x:Int}{K:H->Prop}(k:∀ h',SZG W h' n tn rs es T Z slots R x t->cX R h h'->K h'):stH h ⟨n,0,none⟩ [.int .i64 x] K:=
 cC z.sb (by simp) fun h' q1 q2 q3=>by
  have:=z.stN (u':=x) (t':=t) q2 q1
  exact k h' this.1 this.2
theorem SZG.st1 (z:SZG W h n tn rs es T Z slots R u t){x:Int}{K:H->Prop}(k:∀ h',SZG W h' n tn rs es T Z slots R u x->cX R h h'->K h'):stH h ⟨n,1,none⟩ [.int .i64 x] K:=
 cC z.sb (by simp) fun h' q1 q2 q3=>by
  have:=z.stN (u':=u) (t':=x) q2 q1
  exact k h' this.1 this.2
theorem fq (z:SZG W h n tn rs es T Z slots R u t){x y:Rec}:y∈eu Rec.c Z x↔y=x∨(y∈Z∧y.c≠x.c):=jQ z.srt
theorem SZG.lay (z:SZG W h n tn rs es T Z slots R u t){r:Rec}(hr:r∈Z){vs:List Ver}{B':Option Nat}(c:C.Ch h' r.p vs B') (o:bI (C.FP r.p r.B) h h') (kin:C.Kin h.size r.B B') (ok:W vs)
  (hus:aR (toS (eu Rec.c Z ⟨r.c,vs,r.p,B'⟩))<=slots) (hR:∀ b,h.size<=b->R b):SZG W h' n tn rs es T (eu Rec.c Z ⟨r.c,vs,r.p,B'⟩) slots R u t∧cX R h h':=by
 obtain ⟨l1,l2,l3⟩:=z.f_lt
 have hty:=oq (z.ch r hr)
 have hne:∀ {y:Rec},y∈Z->y.c≠r.c->y.p≠r.p∧(∀ x,r.B=some x->y.B≠some x):=fun {y} hy hc=>by
  have hyr:y≠r:=fun e=>hc (by rw [e])
  exact ⟨wx (fun _ _ h=>h.symm) z.pd hy hr hyr,fun x hx hyx=>wx (P:=fun a b:Rec=>∀ x,a.B=some x->b.B≠some x) (fun a b h x h1 h2=>h x h2 h1) z.bd hy hr hyr x hyx hx⟩
 have keepCh:∀ y∈Z,y.c≠r.c->C.Ch h' y.p y.vs y.B:=fun y hy hc=>by
  obtain ⟨h1,h2⟩:=hne hy hc
  refine (z.ch y hy).only o (fun e=>?_) fun b hb e=>?_
  ·rcases e with e | e
   ·exact h1 e
   ·exact z.p_B hy hr e
  ·rcases e with e | e
   ·subst e;exact z.p_B hr hy hb
   ·exact h2 b e hb
 have hB:∀ x,B'=some x->r.B=some x∨h.size<=x:=fun x hx=>by
  rcases kin with k | k | ⟨b,k,k2⟩
  ·exact .inl (by rw [← k];exact hx)
  ·rw [k] at hx;cases hx
  ·rw [k] at hx;cases hx;exact .inr k2
 refine ⟨{ z with sb:=?_,th:=?_,ch:=fun y hy=>?_,get:=fun y hy=>?_,all:=fun k v hk=>?_,srt:=lP z.srt,pd:=qW z.srt z.pd fun y hy hc=>?_,bd:=qW z.srt z.bd fun y hy hc=>?_,wf:=fun y hy=>?_,us:=hus,rp:=fun y hy=>?_ },?_⟩
 ·refine o.block z.sb fun e=>?_
  rcases e with e | e
  ·exact (z.n_ch hr).1 e.symm
  ·exact (z.n_ch hr).2 e
 ·refine z.th.only o fun b hb e=>?_
  have:=z.ch_ft hr hb
  rcases e with e | e
  ·exact this.1 e
  ·exact this.2 e
 ·rcases (fq z).1 hy with e | ⟨e,e2⟩
  ·subst e;exact c
  ·exact keepCh y e e2
 ·rcases (fq z).1 hy with e | ⟨e,e2⟩
  ·subst e;exact z.get r hr
  ·exact z.get y e
 ·obtain ⟨y,hy,e⟩:=z.all k v hk
  by_cases hc:y.c=r.c
  ·exact ⟨_,(fq z).2 (.inl rfl),by rw [e,hc]⟩
  ·exact ⟨y,(fq z).2 (.inr ⟨hy,hc⟩),e⟩
 ·exact ⟨fun e=>(hne hy hc).1 e.symm,fun e=>(hne hy hc).1 e⟩
 ·refine ⟨fun x hx hy2=>?_,fun x hx hy2=>?_⟩
  ·rcases hB x hx with e | e
   ·exact (hne hy hc).2 x e hy2
   ·have:=(l3 y hy).2 x hy2;omega
  ·rcases hB x hy2 with e | e
   ·exact (hne hy hc).2 x e hx
   ·have:=(l3 y hy).2 x hx;omega
 ·rcases (fq z).1 hy with e | ⟨e,e2⟩
  ·subst e;exact ⟨(z.wf r hr).1,ok⟩
  ·exact z.wf y e
 ·rcases (fq z).1 hy with e | ⟨e,e2⟩
  ·subst e
   refine ⟨(z.rp r hr).1,fun x hx=>?_⟩
   rcases hB x hx with e | e
   ·exact (z.rp r hr).2 x e
   ·exact hR x e
  ·exact z.rp y e
 ·refine o.mono fun b _ e=>?_
  rcases e with e | e
  ·subst e;exact ⟨(z.rp r hr).1,_,.inr (.inr (.inr (.inl rfl))),hty.1⟩
  ·exact ⟨(z.rp r hr).2 b e,_,.inr (.inr (.inr (.inr rfl))),hty.2 b e⟩
theorem SZG.count (z:SZG W h n tn rs es T Z slots R u t):T.count<=Z.length:=by
 have ku:=P.zk z.ok
 have hl:=P.AS z.ok
 have hn:((P.tkL (T.row ++ T.elder)).map fun p=>kL p.1).Nodup:=by
  have:((P.tkL (T.row ++ T.elder)).map fun p=>kL p.1)=((P.tkL (T.row ++ T.elder)).map (·.1)).map kL:=by rw [List.map_map];rfl
  rw [this]
  exact List.Pairwise.map _ (fun a b h e=>h (qF e)) ku
 have:=kV hn (L:=Z.map fun r=>kq r.c) fun e he=>by
  obtain ⟨⟨k,v⟩,hp,rfl⟩:=List.mem_map.1 he
  obtain ⟨w,hw,_⟩:=P.uh z.ok hp
  obtain ⟨r,hr,e⟩:=z.all k w hw
  exact List.mem_map.2 ⟨r,hr,e.symm⟩
 rw [List.length_map,List.length_map,hl] at this
 exact this
theorem SZG.add {h1 h2:H}{T':Tb (Option Addr)}{rs' es':Sl}{c:Cel}{p:Nat}{vs:List Ver}{B':Option Nat}(z:SZG W h n tn rs es T Z slots R u t) (hc:okC c=0) (hg:dI Rec.c Z c=none) (e1:Ext h h1) (hp:h.size<=p) (hp1:p<h1.size)
  (th:P.TH h2 tn rs' es' T') (ok:TOk T') (stp:Stp h1 tn rs es h2 rs' es') (hget:∀ k,dO T' k=if kL k=kL (fG c) then some (some ⟨p,0,none⟩) else dO T k) (hrl:T'.row.length<=4200000)
  (ch:C.Ch h' p vs B') (o:bI (C.FP p none) h2 h') (kin:C.Kin h2.size none B') (vok:W vs) (hus:aR (toS (eu Rec.c Z ⟨c,vs,p,B'⟩))<=slots) (hR:∀ b,h.size<=b->R b) :
  SZG W h' n tn rs' es' T' (eu Rec.c Z ⟨c,vs,p,B'⟩) slots R u t∧cX R h h':=by
 obtain ⟨l1,l2,l3⟩:=z.f_lt
 have z1:=z.ext e1
 have s1:=e1.size
 have s2:=stp.only.size
 have hcne:∀ y∈Z,y.c≠c:=sm hg
 have oB:∀ b,b<h.size->¬ C.FP p none b:=fun b hb e=>by
  rcases e with e | e
  ·omega
  ·cases e
 have hB:∀ x,B'=some x->h.size<=x:=fun x hx=>by
  rcases kin with k | k | ⟨b,k,k2⟩
  ·rw [k] at hx;cases hx
  ·rw [k] at hx;cases hx
  ·rw [k] at hx;cases hx;omega
 have keepCh:∀ y∈Z,C.Ch h' y.p y.vs y.B:=fun y hy=>by
  have q:=((z1.ch y hy).only stp.only (fun e=>(z1.ch_ft hy e).1 rfl) fun b hb e=>(z1.ch_ft hy e).2 hb)
  exact q.only o (oB _ (l3 y hy).1) fun b hb=>oB _ ((l3 y hy).2 b hb)
 have ft':∀ b,FT tn rs' es' b->b≠p∧R b:=fun b hb=>by
  rcases stp.new b hb with e | e
  ·have:=l2 b e
   refine ⟨by omega,?_⟩
   rcases e with e | e | e
   ·subst e;exact z.rt
   ·exact z.rr b e
   ·exact z.re b e
  ·exact ⟨by omega,hR b (by omega)⟩
 refine ⟨{ sb:=?_,th:=th.only o fun b hb e=>?_,ok:=ok,ch:=fun y hy=>?_,get:=fun y hy=>?_,all:=fun k v hk=>?_,srt:=lP z.srt,pd:=qW z.srt z.pd fun y hy hc=>?_,bd:=qW z.srt z.bd fun y hy hc=>?_,wf:=fun y hy=>?_,us:=hus,sl:=z.sl,rl:=hrl,rn:=z.rn,rt:=z.rt,rr:=fun b hb=>(ft' b (.inr (.inl hb))).2,re:=fun b hb=>(ft' b (.inr (.inr hb))).2,rp:=fun y hy=>?_ },?_⟩
 ·exact o.block (stp.only.block z1.sb fun e=>z1.n_ft e rfl) (oB n l1)
 ·rcases e with e | e
  ·exact (ft' b hb).1 e
  ·cases e
 ·rcases (fq z).1 hy with e | ⟨e,e2⟩
  ·subst e;exact ch
  ·exact keepCh y e
 ·rw [hget]
  rcases (fq z).1 hy with e | ⟨e,e2⟩
  ·subst e;rw [if_pos rfl]
  ·rw [if_neg]
   ·exact z.get y e
   ·intro he
    rw [jO,jO] at he
    exact e2 (tK (z.wf y e).1 hc he)
 ·rw [hget] at hk
  split at hk
  ·rename_i he
   exact ⟨_,(fq z).2 (.inl rfl),by rw [he,jO]⟩
  ·obtain ⟨y,hy,e⟩:=z.all k v hk
   exact ⟨y,(fq z).2 (.inr ⟨hy,hcne y hy⟩),e⟩
 ·have:=(l3 y hy).1
  exact ⟨by simp only;omega,by simp only;omega⟩
 ·refine ⟨fun x hx hy2=>?_,fun x hx hy2=>?_⟩
  ·have:=hB x hx;have:=(l3 y hy).2 x hy2;omega
  ·have:=hB x hy2;have:=(l3 y hy).2 x hx;omega
 ·rcases (fq z).1 hy with e | ⟨e,e2⟩
  ·subst e;exact ⟨hc,vok⟩
  ·exact z.wf y e
 ·rcases (fq z).1 hy with e | ⟨e,e2⟩
  ·subst e;exact ⟨hR _ hp,fun x hx=>hR x (hB x hx)⟩
  ·exact z.rp y e
 ·have a1:cX R h h1:=cX.of e1
  have a2:cX R h1 h2:=stp.only.mono fun b _ e=>by
   obtain ⟨ty,q1,q2⟩:=xm z1.th e
   refine ⟨?_,ty,?_,q1⟩
   ·rcases e with e | e | e
    ·subst e;exact z.rt
    ·exact z.rr b e
    ·exact z.re b e
   ·rcases q2 with rfl | rfl
    ·exact .inr (.inl rfl)
    ·exact .inr (.inr (.inl rfl))
  exact bI.trans (cX.trans a1 a2) o fun m hm e=>absurd e (oB m hm)
end
theorem hK {vs:List Ver}:C.fE vs=(C.bT vs).2.1:=by
 unfold C.fE C.bT
 cases vs.getLast? <;> rfl
theorem uP (vs:List Ver) (x:Ver):(C.fH vs x).getLast?=some x:=by
 unfold C.fH
 split <;> simp
theorem qI (vs:List Ver) (x:Ver):C.bT (C.fH vs x)=(x.value,x.epoch,!x.dead):=by
 unfold C.bT;rw [uP]
theorem tL (vs:List Ver) (x:Ver):((C.fH vs x).length:Int)=vs.length+C.iP vs x:=by
 unfold C.fH C.iP
 split
 ·rename_i h
  have:=List.length_pos_iff.2 h.1
  simp;omega
 ·simp
theorem kT (vs:List Ver) (x:Ver):C.iP vs x=0∨C.iP vs x=1:=by
 unfold C.iP;split <;> simp
theorem oI (vs:List Ver) (x:Ver):((dl (C.fH vs x):Nat):Int)=vs.length+C.iP vs x+(if x.dead then 0 else 1):=by
 unfold dl eS
 rw [qI]
 have:=tL vs x
 cases x.dead <;> simp <;> omega
theorem sD (vs:List Ver) (x:Ver):dH (C.fH vs x)=if x.dead then 0 else 1:=by
 unfold dH eS
 rw [qI]
 cases x.dead <;> simp
theorem lT (vs:List Ver):dl vs=vs.length+dH vs:=rfl
theorem Bz {vs:List Ver}(hr:C.jH vs):∀ v∈vs,v.epoch<=C.fE vs:=fun v hv=>by
 unfold C.fE
 have hn:vs≠[]:=fun e=>by rw [e] at hv;cases hv
 rw [List.getLast?_eq_some_getLast hn]
 obtain ⟨i,hi⟩:=List.mem_iff_getElem?.1 hv
 have hl:=C.fp hn
 have h1:=(List.getElem?_eq_some_iff.1 hi).1
 by_cases e:i=vs.length-1
 ·rw [e,hl] at hi;cases hi;exact Int.le_refl _
 ·have:=hr.lt (show i<vs.length-1 by omega) hi hl
  simp only;omega
theorem oG {vs:List Ver}(hn:vs≠[]):C.fE vs=(vs.getLast hn).epoch:=by
 unfold C.fE;rw [List.getLast?_eq_some_getLast hn]
theorem oH {vs:List Ver}{x:Ver}(h:vs=[]∨VOk vs) (he:C.fE vs<=x.epoch∨vs=[]) (hd:x.dead=true->x.value=zA) (h1:1<=x.epoch) (h2:x.epoch<=1099511627776):VOk (C.fH vs x):=by
 have hr:C.jH vs:=by
  rcases h with h | h
  ·subst h;exact List.Pairwise.nil
  ·exact h.rise
 have hdd:∀ v∈vs,(v.dead=true->v.value=zA)∧1<=v.epoch∧v.epoch<=1099511627776:=fun v hv=>by
  rcases h with h | h
  ·subst h;cases hv
  ·exact ⟨h.dead v hv,h.ep v hv⟩
 have hlast:=Bz hr
 have hmem:∀ v∈C.fH vs x,v=x∨v∈vs:=fun v hv=>by
  unfold C.fH at hv
  split at hv
  ·rcases List.mem_append.1 hv with e | e
   ·exact .inr ((List.dropLast_sublist vs).subset e)
   ·exact .inl (List.mem_singleton.1 e)
  ·rcases List.mem_append.1 hv with e | e
   ·exact .inr e
   ·exact .inl (List.mem_singleton.1 e)
 refine ⟨fun e=>?_,?_,fun v hv=>?_,fun v hv=>?_⟩
 ·have:=uP vs x
  rw [e] at this;cases this
 ·unfold C.fH
  split
  ·rename_i g
   refine List.pairwise_append.2 ⟨List.Pairwise.sublist (List.dropLast_sublist vs) hr,List.pairwise_singleton _ _,fun a ha b hb=>?_⟩
   obtain rfl:=List.mem_singleton.1 hb
   have hd2:vs=vs.dropLast ++ [vs.getLast g.1]:=(List.dropLast_concat_getLast g.1).symm
   have hr2:=hr
   unfold C.jH at hr2
   rw [hd2] at hr2
   have:=(List.pairwise_append.1 hr2).2.2 a ha (vs.getLast g.1) (by simp)
   have hl:=oG g.1
   have:=g.2
   omega
  ·rename_i g
   refine List.pairwise_append.2 ⟨hr,List.pairwise_singleton _ _,fun a ha b hb=>?_⟩
   obtain rfl:=List.mem_singleton.1 hb
   have hn:vs≠[]:=fun e=>by rw [e] at ha;cases ha
   have h3:=hlast a ha
   have h4:C.fE vs≠b.epoch:=fun e=>g ⟨hn,e⟩
   rcases he with he | he
   ·omega
   ·exact absurd he hn
 ·rcases hmem v hv with e | e
  ·subst e;exact hd
  ·exact (hdd v e).1
 ·rcases hmem v hv with e | e
  ·subst e;exact ⟨h1,h2⟩
  ·exact (hdd v e).2
theorem oT {S:SL}(hs:gI S) (c:Cel) (vs:List Ver):aR (oS S c vs)+dl ((cx S c).getD [])=aR S+dl vs:=by
 have:=uf (key:=fun x:Cel×List Ver=>x.1) (x:=(c,vs)) (fun x=>dl x.2) hs
 have e:((dI (fun x:Cel×List Ver=>x.1) S c).map fun x=>dl x.2).getD 0=dl ((cx S c).getD []):=by
  unfold cx
  cases dI (fun x:Cel×List Ver=>x.1) S c <;> rfl
 rw [← e];exact this
theorem sT {S:SL}(hs:gI S) (c:Cel) (vs:List Ver):ck (oS S c vs)+dH ((cx S c).getD [])=ck S+dH vs:=by
 have:=uf (key:=fun x:Cel×List Ver=>x.1) (x:=(c,vs)) (fun x=>dH x.2) hs
 have e:((dI (fun x:Cel×List Ver=>x.1) S c).map fun x=>dH x.2).getD 0=dH ((cx S c).getD []):=by
  unfold cx
  cases dI (fun x:Cel×List Ver=>x.1) S c <;> rfl
 rw [← e];exact this
theorem qb (Z:List Rec) (r:Rec):toS (eu Rec.c Z r)=oS (toS Z) r.c r.vs:=
 tP (key:=Rec.c) (key':=fun x:Cel×List Ver=>x.1) (fun r:Rec=>(r.c,r.vs)) (fun _=>rfl) Z
theorem Ap (o:Option (List Ver)) (e:Int) (x:Ver) (hx:x.epoch=e) (hd:x.dead=false) (hn:¬ (C.bT (o.getD [])).2.1 > e) (ho:∀ vs,o=some vs->vs≠[]):pm o e=C.iP (o.getD []) x+1-dH (o.getD []):=by
 cases o with
 | none=>rfl
 | some vs =>
  have hne:=ho vs rfl
  simp only [Option.getD_some] at hn ⊢
  unfold pm
  simp only
  rw [if_neg hn]
  by_cases h1:(C.bT vs).2.1=e
  ·have hl:C.iP vs x=0:=by unfold C.iP;rw [if_pos ⟨hne,by rw [hK,hx];exact h1⟩]
   rw [hl]
   unfold dH
   by_cases h2:eS vs=true
   ·rw [if_pos ⟨h1,h2⟩,if_pos h2];rfl
   ·rw [if_neg (fun h=>h2 h.2),if_pos (.inl h1),if_neg h2];rfl
  ·have hl:C.iP vs x=1:=by unfold C.iP;rw [if_neg (fun h=>h1 (by rw [← hK,← hx];exact h.2))]
   rw [hl,if_neg (fun h=>h1 h.1)]
   unfold dH
   by_cases h2:eS vs=true
   ·rw [if_pos (.inr h2),if_pos h2];rfl
   ·rw [if_neg (fun h=>h.elim h1 h2),if_neg h2];rfl
def lW (a:ag) (b:Bool):Prop:=∀ (h:H) (Q:Bool->H->Prop),(∀ h',Ext h h'->Q b h')->F.xca a h Q
def nO (S:SL) (slots:Nat) (e:Int) (c:Cel) (a:ag) (rt:Bool):Int:=
 if okC c≠0 then okC c else if e<1∨e > 1099511627776∨a.Count=0∨rt=false then 1 else if (C.bT ((cx S c).getD [])).2.1 > e then 32 else if (aR S:Int)+fc S e c > slots then 31 else 0
def jJ (S:SL) (e:Int) (c:Cel) (a:ag):SL:=oS S c (C.fH ((cx S c).getD []) ⟨e,a,false⟩)
def gn (S:SL) (e:Int) (c:Cel):Int:=
 if okC c≠0 then okC c else if e<1∨e > 1099511627776 then 1 else match cx S c with
 | none=>44
 | some vs=>if (C.bT vs).2.1 > e then 32 else if eS vs=false then 44 else 0
def il (S:SL) (e:Int) (c:Cel):SL:=oS S c (C.fH ((cx S c).getD []) ⟨e,zA,true⟩)
theorem Bs {S:SL}(h:SOk S){c:Cel}:∀ vs,cx S c=some vs->VOk vs:=fun vs hg=>by
 unfold cx at hg
 cases hx:dI (fun x:Cel×List Ver=>x.1) S c with
 | none=>rw [hx] at hg;cases hg
 | some x =>
  rw [hx] at hg;cases hg
  exact (h.ok x (fW hx).1).2
theorem sQ {S:SL}(h:SOk S){e:Int}{c:Cel}{a:ag}(hc:okC c=0) (hn:¬ (C.bT ((cx S c).getD [])).2.1 > e) :
  (aR (jJ S e c a):Int)=aR S+fc S e c∧(ck (jJ S e c a):Int)=ck S+(1-dH ((cx S c).getD []))∧fc S e c=C.iP ((cx S c).getD []) ⟨e,a,false⟩+(1-dH ((cx S c).getD [])):=by
 have h1:=oT h.sort c (C.fH ((cx S c).getD []) ⟨e,a,false⟩)
 have h2:=sT h.sort c (C.fH ((cx S c).getD []) ⟨e,a,false⟩)
 have h3:=oI ((cx S c).getD []) ⟨e,a,false⟩
 have h4:=sD ((cx S c).getD []) ⟨e,a,false⟩
 have h5:=lT ((cx S c).getD [])
 have h6:=Ap (cx S c) e ⟨e,a,false⟩ rfl rfl hn fun vs hv=>(Bs h vs hv).ne
 have h7:fc S e c=pm (cx S c) e:=by unfold fc;rw [if_neg (fun h=>h hc)]
 simp only [Bool.false_eq_true,if_false] at h3 h4
 unfold jJ
 rw [h7]
 refine ⟨by omega,by omega,by omega⟩
theorem tQ {vs:List Ver}{e:Int}(h1:1<=e) (h2:e<=1099511627776):C.qK vs e=if vs≠[]∧e<(C.bT vs).2.1 then 32 else 0:=by
 unfold C.qK
 rw [if_neg (by omega),hK]
section
variable {h:H}{n:Nat}{S:SL}{slots:Nat}{R:Nat->Prop}
theorem jY {e:Int}{x:aO}{rt:Bool}{Q:Int->H->Prop}(s:SH h n S slots R) (hrt:lW x.Agg rt) (hR:∀ b,h.size<=b->R b)
  (k0:nO S slots e x.Cell x.Agg rt≠0->∀ h',Ext h h'->Q (nO S slots e x.Cell x.Agg rt) h')
  (k1:nO S slots e x.Cell x.Agg rt=0->∀ h',SH h' n (jJ S e x.Cell x.Agg) slots R->cX R h h'->Q 0 h'):F.xam (some ⟨n,0,none⟩) e x h Q:=by
 have sok:=s.ok
 obtain ⟨tn,rs,es,T,Z,hZ,z⟩:=s
 obtain ⟨c,a⟩:=x
 simp only at hrt k0 k1
 unfold F.xam
 refine aN fun m h1 hm b1 e1 s1=>?_
 have rc:Cells h1 ⟨m,0,none⟩ (c.cells ++ a.cells):=Blk.cells b1
 simp only [aC,Nat.zero_add,Nat.add_zero]
 have ra:∀ {hh:H},Ext h1 hh->Cells hh ⟨m,3,none⟩ a.cells:=fun ee=>(Bg rc:Cells h1 ⟨m,0+3,none⟩ a.cells).ext ee
 have rcc:∀ {hh:H},Ext h1 hh->Cells hh ⟨m,0,none⟩ c.cells:=fun ee=>(Bf rc).ext ee
 refine ⟨c,rcc (.refl _),?_⟩
 unfold nO at k0 k1
 refine nE (fun g h2 e2=>⟨fun _=>?_,fun g2=>absurd (by simpa using g2) g⟩) fun g h2 e2=>⟨fun g2=>by simp at g2,fun _=>?_⟩
 ·rw [if_pos g] at k0;exact k0 g h2 (e1.trans e2)
 rw [if_neg (fun h=>h g)] at k0 k1
 have e02:=e1.trans e2
 have a0:∀ {hh:H},Ext h1 hh->aA hh ⟨m,3,none⟩=some (.int .i64 a.Count):=fun ee=>ra ee 0 _ rfl
 -- a bad argument
 have bad:∀ {hh:H},Ext h hh->(e<1∨e > 1099511627776∨a.Count=0∨rt=false)->F.xam.j4 Q (some ⟨n,0,none⟩) e ⟨m,0,none⟩ (fG c) true hh:=fun ee hb=>by
  unfold F.xam.j4
  refine ⟨fun _=>?_,fun h=>by cases h⟩
  rw [if_pos hb] at k0
  exact k0 (by decide) _ ee
 -- the last step: a chain that is there is written
 have j1:∀ h3,Ext h2 h3->1<=e->e<=1099511627776->a.Count≠0->rt=true->F.xam.j1 Q (some ⟨n,0,none⟩) e ⟨m,0,none⟩ (fG c) h3:=by
  intro h3 e3 he1 he2 hac hrt1
  rw [if_neg (by rintro (h | h | h | h) <;> first | omega | (rw [hrt1] at h;cases h))] at k0 k1
  have e03:=e02.trans e3
  have z3:=z.ext e03
  unfold F.xam.j1
  simp only [aZ,aC,Nat.zero_add,Nat.add_zero]
  rw [gB z3.cs3]
  refine P.mX z3.th z3.ok (l9 g) fun h4 e4=>?_
  have e04:=e03.trans e4
  have e14:Ext h1 h4:=(e2.trans e3).trans e4
  have z4:=z3.ext e4
  have hlk:=z3.look g
  rw [hlk]
  -- room is asked for
  have j2:∀ (h5:H) (l:Option Addr) (is th:Bool),Ext h4 h5->¬ (C.bT ((cx S c).getD [])).2.1 > e->((aR S:Int)+fc S e c<=slots->∀ h6,Ext h5 h6->((!is)=true->F.xee h6 fun r60 h59=>ldP h59 ⟨n,3,none⟩ fun y63=>F.xcs y63 (fG c) r60 h59 fun h65=>F.xam.j3 Q (some ⟨n,0,none⟩) e ⟨m,0,none⟩ r60 th h65)∧((!is)=false->F.xam.j3 Q (some ⟨n,0,none⟩) e ⟨m,0,none⟩ l th h6)) ->
    F.xam.j2 Q (some ⟨n,0,none⟩) e ⟨m,0,none⟩ (fG c) l is th h5:=by
   intro h5 l is th e5 hnw hgo
   have z5:=z4.ext e5
   unfold F.xam.j2
   simp only [aZ,aC,Nat.zero_add,Nat.add_zero]
   rw [bA z5.cs0]
   refine ⟨c,rcc (e14.trans e5),aW z5.cs2 (sM z5 fun h6 e6=>⟨(z5.ext e6).cs2,(z5.ext e6).cs0,?_⟩)⟩
   rw [hZ]
   rw [if_neg hnw] at k0 k1
   have hus:=z.us
   have hsl:=z.sl
   rw [hZ] at hus
   have hnd:0<=fc S e c∧fc S e c<=2:=by
    unfold fc pm
    split
    ·omega
    ·cases cx S c with
     | none=>simp
     | some vs=>simp only;split <;> (try split) <;> (try split) <;> omega
   rw [w64 (by omega) (by omega)]
   refine ⟨fun g2=>?_,fun g2=>hgo (by have:=of_decide_eq_false g2;omega) h6 e6⟩
   have g2:=of_decide_eq_true g2
   rw [if_pos g2] at k0
   exact k0 (by decide) h6 ((e04.trans e5).trans e6)
  have hgs:cx S c=(dI Rec.c Z c).map (·.vs):=by rw [← hZ];exact z.getS c
  have hpu:=fun (hn:¬ (C.bT ((cx S c).getD [])).2.1 > e)=>sQ (a:=a) sok g hn
  -- the numbers
  have nums:∀ (h8:H) (rs' es':Sl) (T':Tb (Option Addr)) (Z':List Rec) (th:Bool),SZ h8 n tn rs' es' T' Z' slots R (aR S:Int) (ck S:Int)->toS Z'=jJ S e c a->cX R h h8->¬ (C.bT ((cx S c).getD [])).2.1 > e->(aR S:Int)+fc S e c<=slots ->
    (dH ((cx S c).getD [])=if th then 1 else 0) ->
    (nn (some ⟨n,0,none⟩) fun a36=>ldI .i64 h8 ((a36.add 0).add 0) fun y38=>nn (some ⟨n,0,none⟩) fun a40=>stH h8 ((a40.add 0).add 0) [(.int .i64 (IntKind.wrap .i64 (y38+C.iP ((cx S c).getD []) ⟨e,a,false⟩)))] fun h42 =>
     ((!th)=true->nn (some ⟨n,0,none⟩) fun a44=>ldI .i64 h42 ((a44.add 0).add 0) fun y46=>nn (some ⟨n,0,none⟩) fun a48=>stH h42 ((a48.add 0).add 0) [(.int .i64 (IntKind.wrap .i64 (y46+1)))] fun h50=>nn (some ⟨n,0,none⟩) fun a51=>ldI .i64 h50 ((a51.add 0).add 1) fun y53=>nn (some ⟨n,0,none⟩) fun a55=>stH h50 ((a55.add 0).add 1) [(.int .i64 (IntKind.wrap .i64 (y53+1)))] fun h57=>Q 0 h57)∧((!th)=false->Q 0 h42)):=by
   intro h8 rs' es' T' Z' th z8 hZ' so hnw hroom hth
   obtain ⟨p1,p2,p3⟩:=hpu hnw
   have hsl:=z.sl
   have htl:ck S<=aR S:=lQ
   have hus:=z.us
   rw [hZ] at hus
   have hlr:=kT ((cx S c).getD []) ⟨e,a,false⟩
   rw [if_neg hnw,if_neg (show ¬ (aR S:Int)+fc S e c > slots by omega)] at k1
   simp only [aZ,aC,Nat.zero_add,Nat.add_zero]
   rw [bA z8.cs0,w64 (by omega) (by omega)]
   refine z8.st0 fun h9 z9 o9=>?_
   have so9:=so.trans o9
   refine ⟨fun g3=>?_,fun g3=>?_⟩
   ·have hth0:th=false:=by simpa using g3
    rw [hth0] at hth
    simp only [Bool.false_eq_true,if_false] at hth
    rw [bA z9.cs0,w64 (by omega) (by omega)]
    refine z9.st0 fun h10 z10 o10=>?_
    rw [bA z10.cs1,w64 (by omega) (by omega)]
    refine z10.st1 fun h11 z11 o11=>?_
    refine k1 rfl h11 ⟨tn,rs',es',T',Z',hZ',?_⟩ ((so9.trans o10).trans o11)
    rw [hZ',p1,p2,p3,hth]
    have q1:(aR S:Int)+C.iP ((cx S c).getD []) ⟨e,a,false⟩+1=aR S+(C.iP ((cx S c).getD []) ⟨e,a,false⟩+(1-((0:Nat):Int))):=by omega
    have q2:(ck S:Int)+1=ck S+(1-((0:Nat):Int)):=by omega
    rw [← q1,← q2];exact z11
   ·have hth1:th=true:=by simpa using g3
    rw [hth1] at hth
    simp only [if_true] at hth
    refine k1 rfl h9 ⟨tn,rs',es',T',Z',hZ',?_⟩ so9
    rw [hZ',p1,p2,p3,hth]
    have q1:(aR S:Int)+C.iP ((cx S c).getD []) ⟨e,a,false⟩=aR S+(C.iP ((cx S c).getD []) ⟨e,a,false⟩+(1-((1:Nat):Int))):=by omega
    have q2:(ck S:Int)=ck S+(1-((1:Nat):Int)):=by omega
    rw [← q1,← q2];exact z9
  cases hg:dI Rec.c Z c with
  | none =>
   refine ⟨fun h=>(by cases h),fun _=>?_⟩
   have hgd:(cx S c).getD []=[]:=by rw [hgs,hg];rfl
   have hnw:¬ (C.bT ((cx S c).getD [])).2.1 > e:=by rw [hgd];show ¬ (0:Int) > e;omega
   refine j2 h4 _ _ _ (.refl _) hnw fun hroom h6 e6=>⟨fun _=>?_,fun h=>by cases h⟩
   have z6:=z4.ext e6
   refine C.lu fun p h7 hp c7 e7=>?_
   have z7:=z6.ext e7
   rw [gB z7.cs3]
   obtain ⟨T',t1,t2,t3,t4,t5,t6⟩:=Db (z:=P.iv) z7.ok (fG c) (some ⟨p,0,none⟩)
   have hcnt:=z7.count
   have hzl:=z7.len
   have hrl:=z7.rl
   have hgn:dO T (fG c)=none:=by rw [z.look g,hg];rfl
   rw [hgn] at t5
   simp only [Option.isSome_none,Bool.false_eq_true,if_false] at t5
   have hrl':T'.row.length<=4200000:=by
    rcases t6 with ⟨_,q1,q2,_⟩ | ⟨_,q2,_⟩
    ·have q1:3*T.row.length<4*(T.count+1):=q1
     omega
    ·omega
   refine P.jY z7.th z7.ok (l9 g) t1 (by show _<=1099511627776;omega) (by show _<=1099511627776;omega) fun h8 rs' es' th8 stp=>?_
   unfold F.xam.j3
   simp only [aC,Nat.zero_add,Nat.add_zero]
   have hp6:p<h7.size:=c7.lt
   have l7:=z7.f_lt
   have c8:C.Ch h8 p [] none:=c7.only stp.only (fun hb=>by
    have:=z6.th.lt p hb;omega) fun b hb=>by cases hb
   have e17:Ext h1 h7:=(e14.trans e6).trans e7
   have e07:=((e04.trans e6).trans e7)
   have rb8:Cells h8 ⟨m,3,none⟩ a.cells:=(ra e17).only stp.only fun hb=>by
    have:=z.th.lt m hb;omega
   refine ⟨a,rb8,?_⟩
   refine C.jY c8 (by simp) (fun h=>absurd (by rw [tQ he1 he2];simp) h) fun _ h9 B' c9 o9 kin9=>?_
   have hsetq:toS (eu Rec.c Z ⟨c,C.fH [] ⟨e,a,false⟩,p,B'⟩)=jJ S e c a:=by
    rw [qb,hZ];unfold jJ;rw [hgd]
   have vok:VOk (C.fH [] ⟨e,a,false⟩):=oH (.inl rfl) (.inr rfl) (fun h=>by cases h) he1 he2
   obtain ⟨p1,p2,p3⟩:=hpu hnw
   have hz:=z.add (c:=c) g hg (e07) (by have:=((e04.trans e6)).size;omega) hp6 th8 t2 stp t4 hrl' c9 o9 kin9 vok (by rw [hsetq];omega) hR
   have:=nums h9 rs' es' T' _ false (by rw [← hZ];exact hz.1) hsetq hz.2 hnw hroom (by rw [hgd];rfl)
   rw [hgd] at this
   exact this
  | some r =>
   refine ⟨fun _=>?_,fun h=>by cases h⟩
   obtain ⟨hr,hrc⟩:=fW hg
   have hgd:(cx S c).getD []=r.vs:=by rw [hgs,hg];rfl
   have hv:=(z.wf r hr).2
   refine C.jK (z4.ch r hr) (by have:=z.vlen hr;omega) fun h5 e5=>⟨fun g2=>?_,fun g2=>?_⟩
   ·have g2:=of_decide_eq_true g2
    rw [hgd,if_pos g2] at k0
    exact k0 (by decide) h5 (e04.trans e5)
   have hnw:¬ (C.bT ((cx S c).getD [])).2.1 > e:=by rw [hgd];exact of_decide_eq_false g2
   refine j2 h5 _ _ _ e5 hnw fun hroom h6 e6=>⟨fun h=>(by cases h),fun _=>?_⟩
   have e06:=(e04.trans e5).trans e6
   have z6:=z.ext e06
   unfold F.xam.j3
   simp only [aC,Nat.zero_add,Nat.add_zero]
   refine ⟨a,ra ((e14.trans e5).trans e6),?_⟩
   refine C.jY (z6.ch r hr) (by have:=z.vlen hr;omega) (fun h=>absurd (by rw [tQ he1 he2,if_neg (fun h2=>by rw [hgd] at hnw;omega)]) h) fun _ h9 B' c9 o9 kin9=>?_
   have hsetq:toS (eu Rec.c Z ⟨r.c,C.fH r.vs ⟨e,a,false⟩,r.p,B'⟩)=jJ S e c a:=by
    rw [qb,hZ,hrc];unfold jJ;rw [hgd]
   have hn2:C.fE r.vs<=e:=by rw [hK];rw [hgd] at hnw;omega
   have vok:VOk (C.fH r.vs ⟨e,a,false⟩):=oH (.inr hv) (.inl hn2) (fun h=>by cases h) he1 he2
   obtain ⟨p1,p2,p3⟩:=hpu hnw
   have hz:=z6.lay hr c9 o9 kin9 vok (by rw [hsetq];omega) fun b hb=>hR b (by have:=e06.size;omega)
   have:=nums h9 rs es T _ (eS r.vs) (by rw [← hZ];exact hz.1) hsetq ((cX.of e06).trans hz.2) hnw hroom (by rw [hgd];rfl)
   rw [hgd] at this
   exact this
 have e2r:Ext h1 h2:=e2
 refine ⟨fun g2=>bad e02 (.inl (of_decide_eq_true g2)),fun g2=>⟨fun g3=>bad e02 (.inr (.inl (of_decide_eq_true g3))),fun g3=>?_⟩⟩
 rw [bA (a0 e2)]
 refine ⟨fun g4=>bad e02 (.inr (.inr (.inl (by simpa using g4)))),fun g4=>⟨a,ra e2,hrt h2 _ fun h3 e3=>?_⟩⟩
 have g2:=of_decide_eq_false g2
 have g3:=of_decide_eq_false g3
 have g4:a.Count≠0:=by simpa using g4
 cases hrv:rt with
 | false=>exact bad (e02.trans e3) (.inr (.inr (.inr hrv)))
 | true =>
  unfold F.xam.j4
  exact ⟨fun h=>(by cases h),fun _=>j1 h3 e3 (by omega) (by omega) g4 hrv⟩
theorem wd {S:SL}(h:SOk S){e:Int}{c:Cel}{vs:List Ver}(hg:cx S c=some vs) (ha:eS vs=true) :
  (aR (il S e c):Int)=aR S+(C.iP vs ⟨e,zA,true⟩-1)∧(ck (il S e c):Int)=ck S-1:=by
 have h1:=oT h.sort c (C.fH ((cx S c).getD []) ⟨e,zA,true⟩)
 have h2:=sT h.sort c (C.fH ((cx S c).getD []) ⟨e,zA,true⟩)
 have h3:=oI ((cx S c).getD []) ⟨e,zA,true⟩
 have h4:=sD ((cx S c).getD []) ⟨e,zA,true⟩
 have h5:=lT ((cx S c).getD [])
 have h6:dH ((cx S c).getD [])=1:=by rw [hg];unfold dH;rw [Option.getD_some,if_pos ha]
 simp only [if_true] at h3 h4
 rw [show (C.iP vs ⟨e,zA,true⟩)=C.iP ((cx S c).getD []) ⟨e,zA,true⟩ from by rw [hg];rfl]
 unfold il
 refine ⟨by omega,by omega⟩
theorem nZ {e:Int}{c:Cel}{Q:Int->H->Prop}(s:SH h n S slots R) (hR:∀ b,h.size<=b->R b)
  (k0:gn S e c≠0->∀ h',Ext h h'->Q (gn S e c) h')
  (k1:gn S e c=0->∀ h',SH h' n (il S e c) slots R->cX R h h'->Q 0 h'):F.xbt (some ⟨n,0,none⟩) e c h Q:=by
 have sok:=s.ok
 obtain ⟨tn,rs,es,T,Z,hZ,z⟩:=s
 unfold F.xbt
 refine aN fun m h1 hm b1 e1 s1=>⟨c,Blk.cells b1,?_⟩
 unfold gn at k0 k1
 refine nE (fun g h2 e2=>⟨fun _=>?_,fun g2=>absurd (by simpa using g2) g⟩) fun g h2 e2=>⟨fun g2=>by simp at g2,fun _=>?_⟩
 ·rw [if_pos g] at k0;exact k0 g h2 (e1.trans e2)
 rw [if_neg (fun h=>h g)] at k0 k1
 have e02:=e1.trans e2
 have bad:(e<1∨e > 1099511627776)->F.xbt.j2 Q (some ⟨n,0,none⟩) e ⟨m,0,none⟩ true h2:=fun hb=>by
  unfold F.xbt.j2
  refine ⟨fun _=>?_,fun h=>by cases h⟩
  rw [if_pos hb] at k0
  exact k0 (by decide) _ e02
 refine ⟨fun g2=>bad (.inl (of_decide_eq_true g2)),fun g2=>?_⟩
 have g2:=of_decide_eq_false g2
 cases hb:decide (e > 1099511627776) with
 | true=>exact bad (.inr (of_decide_eq_true hb))
 | false =>
  have g3:=of_decide_eq_false hb
  unfold F.xbt.j2
  refine ⟨fun h=>(by cases h),fun _=>?_⟩
  rw [if_neg (by omega)] at k0 k1
  unfold F.xbt.j1
  refine ⟨c,(Blk.cells b1).ext e2,?_⟩
  have z2:=z.ext e02
  have hgs:cx S c=(dI Rec.c Z c).map (·.vs):=by rw [← hZ];exact z.getS c
  refine mB z2 (fun g4 h3 e3=>⟨fun _=>?_,fun h=>by simp at h⟩) fun _ r hg h3 e3=>⟨fun h=>by simp at h,fun _=>?_⟩
  ·have:dI Rec.c Z c=none:=by
    rcases g4 with g4 | g4
    ·exact absurd g g4
    ·exact g4
   rw [hgs,this] at k0
   exact k0 (fun h=>by cases h) h3 (e02.trans e3)
  ·obtain ⟨hr,hrc⟩:=fW hg
   rw [hg] at hgs
   have hgs:cx S c=some r.vs:=hgs
   rw [hgs] at k0 k1
   dsimp only at k0 k1
   have e03:=e02.trans e3
   have z3:=z.ext e03
   have hv:=(z.wf r hr).2
   have hml:=tQ (vs:=r.vs) (e:=e) (by omega) (by omega)
   have hmne:r.vs≠[]:=hv.ne
   refine C.nZ (z3.ch r hr) (by have:=z.vlen hr;omega) (fun g4=>⟨fun g5=>?_,fun g5=>?_⟩) (fun g4 g5 h4 e4=>⟨fun _=>?_,fun h=>by simp at h⟩) fun g4 g5 h4 B' c4 o4 kin4=>⟨fun h=>by simp at h,fun _=>?_⟩
   ·rw [hml] at g4 ⊢
    have:r.vs≠[]∧e<(C.bT r.vs).2.1:=by
     refine Classical.byContradiction fun hn=>?_
     rw [if_neg hn] at g4;exact g4 rfl
    rw [if_pos this]
    rw [if_pos (show (C.bT r.vs).2.1 > e from this.2)] at k0
    exact k0 (by decide) h3 e03
   ·exact absurd (by simpa using g5) g4
   ·have hnw:¬ (C.bT r.vs).2.1 > e:=fun hh=>by rw [hml,if_pos ⟨hmne,hh⟩] at g4;cases g4
    rw [if_neg hnw,if_pos (show eS r.vs=false from g5)] at k0
    exact k0 (by decide) h4 (e03.trans e4)
   ·have hnw:¬ (C.bT r.vs).2.1 > e:=fun hh=>by rw [hml,if_pos ⟨hmne,hh⟩] at g4;cases g4
    rw [if_neg hnw,if_neg (show ¬ eS r.vs=false from by rw [show eS r.vs=(C.bT r.vs).2.2 from rfl,g5];decide)] at k1
    obtain ⟨p1,p2⟩:=wd (e:=e) sok hgs g5
    have hus:=z.us
    have hsl:=z.sl
    rw [hZ] at hus
    have hlr:=kT r.vs ⟨e,zA,true⟩
    have htl:ck S<=aR S:=lQ
    have hsetq:toS (eu Rec.c Z ⟨r.c,C.fH r.vs ⟨e,zA,true⟩,r.p,B'⟩)=il S e c:=by
     rw [qb,hZ,hrc];unfold il;rw [hgs];rfl
    have hn2:C.fE r.vs<=e:=by rw [hK];omega
    have vok:VOk (C.fH r.vs ⟨e,zA,true⟩):=oH (.inr hv) (.inl hn2) (fun _=>rfl) (by show 1<=e;omega) (by show e<=_;omega)
    have hz:=z3.lay hr c4 o4 kin4 vok (by rw [hsetq];omega) fun b hb=>hR b (by have:=e03.size;omega)
    obtain ⟨z4,so4⟩:=hz
    rw [hZ] at z4
    simp only [aZ,aC,Nat.zero_add,Nat.add_zero]
    rw [bA z4.cs0,w64 (n:=C.iP r.vs ⟨e,zA,true⟩-1) (by omega) (by omega),w64 (by omega) (by omega)]
    refine z4.st0 fun h5 z5 o5=>?_
    rw [bA z5.cs1,w64 (by omega) (by omega)]
    refine z5.st1 fun h6 z6 o6=>?_
    refine k1 rfl h6 ⟨tn,rs,es,T,_,hsetq,?_⟩ ((((cX.of e03).trans so4).trans o5).trans o6)
    rw [hsetq,p1,p2];exact z6
end
abbrev Rw:=aO
abbrev cW (x:Rw):List Value:=x.cells
theorem dy (x:Rw):(cW x).length=7:=rfl
def kv (Z:List Rec):List (ByteArray×Option Addr):=Z.map fun r=>(fG r.c,some ⟨r.p,0,none⟩)
theorem jq (Z:List Rec):(kv Z).length=Z.length:=List.length_map _
theorem Cb:∀ (x y:List UInt8),Lib.compareBytes x y=-1->x<y
 | [],[],h=>by simp [Lib.compareBytes] at h
 | [],b :: y,_=>List.nil_lt_cons b y
 | a :: x,[],h=>by simp [Lib.compareBytes] at h
 | a :: x,b :: y,h=>by
  simp only [Lib.compareBytes] at h
  rcases kZ a b with g | g | g
  ·exact List.cons_lt_cons_iff.2 (.inl g)
  ·subst g
   simp only [kY,if_false] at h
   exact List.cons_lt_cons_iff.2 (.inr ⟨rfl,Cb x y h⟩)
  ·simp [g,jl g] at h
theorem CY {a b:Cel}(ha:okC a=0) (hb:okC b=0) (h:bZ a b=-1):kq a<kq b:=
 Cb _ _ (by rw [Bw (mI ha) (mI hb) (lM ha) (lM hb)];exact h)
section
variable {h h':H}{n tn:Nat}{rs es:Sl}{T:Tb (Option Addr)}{Z:List Rec}{slots:Nat}{R:Nat->Prop}{u t:Int}
theorem Dm (ok:TOk T){k:ByteArray}{v:Option Addr}(hg:dO T k=some v):∃ p∈P.tkL (T.row ++ T.elder),p.1=k:=by
 have go:∀ (W:List (Pl (Option Addr))),d5 W k=some v->∃ p∈P.tkL W,p.1=k:=fun W hv=>by
  obtain ⟨i,p,h1,h2,h3,h4⟩:=ru hv
  exact ⟨(p.key,.pointer p.value),List.mem_map.2 ⟨p,List.mem_filter.2 ⟨List.mem_of_getElem? h1,by simp [h2]⟩,rfl⟩,qF h3⟩
 unfold dO at hg
 rw [P.mn]
 cases hv:d5 T.row k with
 | some w =>
  rw [hv] at hg;cases hg
  obtain ⟨p,h1,h2⟩:=go _ hv
  exact ⟨p,List.mem_append_left _ h1,h2⟩
 | none =>
  rw [hv] at hg
  obtain ⟨p,h1,h2⟩:=go _ hg
  exact ⟨p,List.mem_append_right _ h1,h2⟩
theorem vL (z:SZ h n tn rs es T Z slots R u t):P.xY T=kv Z:=by
 have hk:∀ c:Cel,(fG c).data.toList=kq c:=fun c=>by simp [fG]
 have hsort:(Z.map fun r=>fG r.c).Pairwise fun a b=>a.data.toList<b.data.toList:=by
  rw [List.pairwise_map]
  have:=z.srt
  refine List.Pairwise.imp_of_mem ?_ this
  intro a b ha hb hab
  rw [hk,hk]
  exact CY (z.wf a ha).1 (z.wf b hb).1 hab
 have hn2:(Z.map fun r=>fG r.c).Nodup:=hsort.imp fun {a b} hab e=>by subst e;exact List.lt_irrefl _ hab
 have hn1:=P.zk z.ok
 have hp:((P.tkL (T.row ++ T.elder)).map (·.1)).Perm (Z.map fun r=>fG r.c):=(List.perm_ext_iff_of_nodup hn1 hn2).2 fun k=>by
  constructor
  ·intro hk'
   obtain ⟨⟨k2,v⟩,hm,rfl⟩:=List.mem_map.1 hk'
   obtain ⟨w,hw,_⟩:=P.uh z.ok hm
   obtain ⟨r,hr,e⟩:=z.all k2 w hw
   refine List.mem_map.2 ⟨r,hr,qF ?_⟩
   rw [jO];exact e.symm
  ·intro hk'
   obtain ⟨r,hr,rfl⟩:=List.mem_map.1 hk'
   have hg:=z.get r hr
   refine Classical.byContradiction fun hno=>?_
   have hlt:=Dm z.ok hg
   obtain ⟨p,hp1,hp2⟩:=hlt
   exact hno (List.mem_map.2 ⟨p,hp1,hp2⟩)
 unfold P.xY
 rw [rh hp,P.AH hsort,List.map_map]
 refine List.map_congr_left fun r hr=>?_
 simp only [Function.comp,z.get r hr,Option.getD_some]
end
theorem ri {h:H}{n:Nat}{c d:Cel}{e:TypeId}{K:H->Prop}(b:Blk h n c.cells.toArray e) (k:∀ h',Blk h' n d.cells.toArray e->bI (·=n) h h'->h'.size=h.size->K h'):stH h ⟨n,0,none⟩ d.cells K:=by
 refine cC b (Nat.le_refl 3) fun h' q1 q2 q3=>k h' ?_ q2 q3
 rw [cE (by rfl)] at q1
 exact q1
theorem xG {d:Nat}{h:H}{K:H->Prop}(hd:h[d]?=some (.deferred (some []))) (k:∀ h',bI (·=d) h h'->K h'):lO [d] h K:=
 ⟨hd,k _ ⟨by simp [put],fun b hb hn=>by simp only [put];rw [Array.getElem?_setIfInBounds_ne (fun e=>hn e.symm)]⟩⟩
theorem yO {h:H}{n4 n6:Nat}{fr to c:Cel}{K:Value->H->Prop}(b4:Cells h ⟨n4,0,none⟩ fr.cells) (b6:Cells h ⟨n6,0,none⟩ to.cells) (k:∀ h',Ext h h'->K (.bool (decide (bZ fr c<=0) && decide (bZ c to<0))) h') :
  CV PP (.func (.func ic) #[] #[.pointer (some ⟨n4,0,none⟩),.pointer (some ⟨n6,0,none⟩)]) [.agg c.cells.toArray] h K:=by
 refine wS (fun a w=>jh a w) ?_
 have:F.xfj c ⟨n4,0,none⟩ ⟨n6,0,none⟩ h fun r h'=>K (.bool r) h':=by
  unfold F.xfj
  refine aN fun m h1 hm b1 e1 s1=>⟨fr,b4.ext e1,c,Blk.cells b1,i9 fun h2 e2=>⟨fun g=>⟨c,(Blk.cells b1).ext e2,to,(b6.ext e1).ext e2,i9 fun h3 e3=>?_⟩,fun g=>?_⟩⟩
  ·have:=k h3 ((e1.trans e2).trans e3)
   rw [g,Bool.true_and] at this;exact this
  ·have:=k h2 (e1.trans e2)
   rw [g,Bool.false_and] at this;exact this
 have:=F.xfj_ok this
 simp only [List.append_toArray,Array.empty_append,Array.append_empty]
 exact this.mono fun r h' ⟨r0,e,q⟩=>by subst e;exact q
def iV (e:Int) (fr to:Cel) (Z:List Rec):List Rw:=(Z.filter fun r=>inS e fr to (r.c,r.vs)).map fun r=>wE e (r.c,r.vs)
theorem vg (e:Int) (fr to:Cel) (Z:List Rec):cy (toS Z) e fr to=iV e fr to Z:=by
 unfold cy iV toS
 rw [List.filter_map,List.map_map]
 rfl
theorem yP (e:Int) (fr to:Cel){Z:List Rec}{i:Nat}{r:Rec}(h:Z[i]?=some r):iV e fr to (Z.take (i+1))=iV e fr to (Z.take i) ++ (if inS e fr to (r.c,r.vs) then [wE e (r.c,r.vs)] else []):=by
 obtain ⟨h1,h2⟩:=List.getElem?_eq_some_iff.1 h
 unfold iV
 rw [List.take_succ_eq_append_getElem h1,h2,List.filter_append,List.map_append]
 congr 1
 by_cases hi:inS e fr to (r.c,r.vs) <;> simp [hi]
theorem AB (e:Int) (fr to:Cel) (Z:List Rec) (i:Nat):(iV e fr to (Z.take i)) <+: iV e fr to Z:=by
 unfold iV
 exact ((List.take_prefix i Z).filter _).map _
structure RI (h hL h':H) (n2 n4 n6 n8 n10 n12 ka ma b:Nat) (r:Sl) (L:List (ByteArray×Option Addr)) (ep most:Int) (fr to:Cel) (rows:List Rw):Prop where
 ext:Ext h h'
 b2:Blk h' n2 #[.int .i64 ep] eX
 b4:Blk h' n4 fr.cells.toArray aJ
 b6:Blk h' n6 to.cells.toArray aJ
 b8:Blk h' n8 #[.int .i64 most] eX
 b12:Blk h' n12 #[.func (.func ic) #[] #[.pointer (some ⟨n4,0,none⟩),.pointer (some ⟨n6,0,none⟩)]] ls
 sq:P.pB h' ka ma b r L
 dfr:h'[hL.size]?=some (.deferred (some []))
 out:∃ o,Blk h' n10 #[o.enc] eF∧aU h' o bQ 7 (rows.flatMap cW)∧∀ x,o.blk=some x->hL.size+2<=x
 len:rows.length<=most.toNat
 sz:hL.size+1<=h'.size
 lt:n2<hL.size∧n4<hL.size∧n6<hL.size∧n8<hL.size∧n10<hL.size∧n12<hL.size∧(∀ m,SQF ka ma b r m->m<hL.size∧m≠n10)∧n2≠n10∧n4≠n10∧n6≠n10∧n8≠n10∧n12≠n10∧h.size<=n10
section
variable {h hL h' h'':H}{n2 n4 n6 n8 n10 n12 ka ma b:Nat}{r:Sl}{L:List (ByteArray×Option Addr)}{ep most:Int}{fr to:Cel}{rows:List Rw}
theorem RI.only {S:Nat->Prop}(v:RI h hL h' n2 n4 n6 n8 n10 n12 ka ma b r L ep most fr to rows) (o:bI S h' h'') (hS:∀ m,S m->hL.size<m∧∀ o:Sl,Blk h' n10 #[o.enc] eF->o.blk≠some m):RI h hL h'' n2 n4 n6 n8 n10 n12 ka ma b r L ep most fr to rows:=by
 obtain ⟨l2,l4,l6,l8,l10,l12,lq,q⟩:=v.lt
 have no:∀ m,m<=hL.size->¬ S m:=fun m hm h=>by have:=(hS m h).1;omega
 obtain ⟨ou,o1,o2,o3⟩:=v.out
 have hle:h.size<=hL.size:=by obtain ⟨_,_,_,_,_,hq⟩:=q;omega
 exact ⟨v.ext.step o fun m hm=>no m (by omega),o.block v.b2 (no _ (by omega)),o.block v.b4 (no _ (by omega)),o.block v.b6 (no _ (by omega)),o.block v.b8 (no _ (by omega)),o.block v.b12 (no _ (by omega)),v.sq.only o fun m hm=>no m (by have:=(lq m hm).1;omega),o.block v.dfr (no _ (by omega)),
  ⟨ou,o.block o1 (no _ (by omega)),o2.only o fun m hm hs=>(hS m hs).2 ou o1 hm,o3⟩,v.len,by have:=o.size;have:=v.sz;omega,v.lt⟩
theorem RI.e (v:RI h hL h' n2 n4 n6 n8 n10 n12 ka ma b r L ep most fr to rows) (e:Ext h' h''):RI h hL h'' n2 n4 n6 n8 n10 n12 ka ma b r L ep most fr to rows:=v.only e fun _ f=>f.elim
end
theorem qj {h:H}{n:Nat}{S:SL}{slots:Nat}{R:Nat->Prop}{ep most:Int}{fr to:Cel}{Q:Sl->H->Prop}(s:SH h n S slots R)
  (k:∀ r h',aU h' r bQ 7 (((cy S ep fr to).take most.toNat).flatMap cW)->dL h r->Ext h h'->Q r h'):F.xat (some ⟨n,0,none⟩) ep fr to most h Q:=by
 obtain ⟨tn,rs,es,T,Z,rfl,z⟩:=s
 unfold F.xat
 refine aN fun n2 h1 hn2 b2 e1 s1=>aN fun n4 h3 hn4 b4 e3 s3=>aN fun n6 h5 hn6 b6 e5 s5=>aN fun n8 h7 hn8 b8 e7 s7=>aN fun n10 h9 hn10 b10 e9 s9=>aN fun n12 h11 hn12 b12 e11 s11=>?_
 refine cC b12 (by simp) fun h13 b13 o13 s13=>?_
 have x2:Blk h13 n2 #[.int .i64 ep] eX:=o13.block (((((e3.trans e5).trans e7).trans e9).trans e11).block b2 fun f=>f) (by omega)
 have x4:Blk h13 n4 fr.cells.toArray aJ:=o13.block ((((e5.trans e7).trans e9).trans e11).block b4 fun f=>f) (by omega)
 have x6:Blk h13 n6 to.cells.toArray aJ:=o13.block (((e7.trans e9).trans e11).block b6 fun f=>f) (by omega)
 have x8:Blk h13 n8 #[.int .i64 most] eX:=o13.block ((e9.trans e11).block b8 fun f=>f) (by omega)
 have x10:Blk h13 n10 #[(⟨none,0,0⟩:Sl).enc] eF:=o13.block (e11.block b10 fun f=>f) (by omega)
 have e013:Ext h h13:=(((((e1.trans e3).trans e5).trans e7).trans e9).trans e11).step o13 fun m hm hb=>by omega
 have z13:=z.ext e013
 simp only [aZ,aC,Nat.zero_add,Nat.add_zero]
 rw [gB z13.cs3]
 have hcnt:=z.count
 have hzl:=z.len
 refine P.qc z13.th z13.ok (by omega) fun hL ka ma b r sq eL hmine _=>?_
 rw [vL z13] at sq
 have hLs:=eL.size
 have hgt:∀ {Y:List Rec}{i:Nat}{x:ByteArray×Option Addr},(kv Y)[i]?=some x->∃ q,Y[i]?=some q∧x=(fG q.c,some ⟨q.p,0,none⟩):=fun {Y i x} hx=>by
  unfold kv at hx
  rw [List.getElem?_map] at hx
  cases hy:Y[i]? with
  | none=>rw [hy] at hx;cases hx
  | some q=>rw [hy] at hx;cases hx;exact ⟨q,rfl,rfl⟩
 -- the end
 have fin:∀ (h':H) (rows:List Rw),RI h hL h' n2 n4 n6 n8 n10 n12 ka ma b r (kv Z) ep most fr to rows->rows=(cy (toS Z) ep fr to).take most.toNat->F.xat.j1 Q (hL.size :: ([]:List Nat)) ⟨n10,0,none⟩ h':=fun h' rows v hrows=>by
  obtain ⟨o,o1,o2,o3⟩:=v.out
  unfold F.xat.j1
  refine dJ (Blk.cell (i:=0) o1 rfl) (xG v.dfr fun h9 o9=>?_)
  rw [hrows] at o2
  refine k o h9 (o2.only o9 fun m hm e=>by have:=o3 m hm;omega) (fun x hx=>by have:=o3 x hx;have:=e013.size;omega) (v.ext.step o9 fun m hm e=>by have:=e013.size;omega)
 refine P.oQ (I:=fun i h'=>RI h hL h' n2 n4 n6 n8 n10 n12 ka ma b r (kv Z) ep most fr to (iV ep fr to (Z.take i)))
  (E:=fun j h'=>j=0∧∃ i,RI h hL h' n2 n4 n6 n8 n10 n12 ka ma b r (kv Z) ep most fr to (iV ep fr to (Z.take i))∧most<=((iV ep fr to (Z.take i)).length:Int))
  (fun i h' h'' v o=>v.only o fun m hm=>⟨by omega,fun ou hou hb=>?_⟩) (fun j h' h'' v o=>⟨v.1,v.2.elim fun i hi=>⟨i,hi.1.only o fun m hm=>⟨by omega,fun ou hou hb=>?_⟩,hi.2⟩⟩) (fun i h' v=>v.sq) ?_ ?_ (fun h' v=>?_) (fun j h' v=>?_)
 ·obtain ⟨o',o1,o2,o3⟩:=v.out
  have heq:=o1.symm.trans hou
  have:o'=ou:=nq.1 (by simpa using heq)
  subst this
  have:=o3 m hb;omega
 ·obtain ⟨o',o1,o2,o3⟩:=hi.1.out
  have heq:=o1.symm.trans hou
  have:o'=ou:=nq.1 (by simpa using heq)
  subst this
  have:=o3 m hb;omega
 ·have ep0:Ext hL (hL.push (.deferred (some []))):=.push _ _
  have eH:=eL.trans ep0
  refine ⟨e013.trans eH,eH.block x2 fun f=>f,eH.block x4 fun f=>f,eH.block x6 fun f=>f,eH.block x8 fun f=>f,eH.block b13 fun f=>f,sq.only ep0 fun m hm f=>f,by simp,⟨_,eH.block x10 fun f=>f,by simpa [iV] using aU.nil _ bQ 7,fun x hx=>by simp [Sl.blk] at hx⟩,by simp [iV],by simp,?_⟩
  refine ⟨by omega,by omega,by omega,by omega,by omega,by omega,fun m hm=>⟨sq.lt m hm,?_⟩,by omega,by omega,by omega,by omega,by omega,by omega⟩
  have:=hmine m hm;omega
 ·intro X i x h5 K J hX v hx hxi kK kJ
  obtain ⟨q,hq,rfl⟩:=hgt hxi
  have hqz:q∈Z:=List.mem_of_getElem? hq
  obtain ⟨o,o1,o2,o3⟩:=v.out
  have hlo:=bH dy (by omega) o2
  refine dJ (Blk.cell (i:=0) o1 rfl) (aW (Blk.cell (i:=0) v.b8 rfl) ⟨fun g=>?_,fun g=>?_⟩)
  ·have g:=of_decide_eq_true g
   exact kJ 0 h5 ⟨rfl,i,v,by rw [← hlo];exact g⟩ hx
  ·have g:=of_decide_eq_false g
   have hok:=(z.wf q hqz).1
   have hv:=(z.wf q hqz).2
   refine xL (by show (kq q.c).toArray.size<_;have:=uN hok;simp;omega) fun h6 e6=>?_
   rw [show (fG q.c).data.toList=kq q.c from by simp [fG],oj (mI hok) (lM hok)]
   refine aN fun m7 h7 hm7 b7 e7 s7=>?_
   have b7':Blk h7 m7 fO.cells.toArray aJ:=b7
   refine ri b7' (d:=q.c) fun h8 b8' o8 s8=>?_
   have e58:Ext h5 h8:=(e6.trans e7).step o8 fun m hm hb=>by have:=e6.size;omega
   have v8:=v.e e58
   refine aW (Blk.cell (i:=0) v8.b2 rfl) ?_
   have zq:=z.ext v8.ext
   refine wT (zq.ch q hqz) hv.rise (by have:=z.vlen hqz;omega) fun h9 e9=>?_
   refine aN fun m10 h10 hm10 bb10 e10 s10=>?_
   have bb10':Blk h10 m10 zA.cells.toArray cf:=bb10
   refine C.eK bb10' fun h11' b11 o11 s11'=>?_
   have e8b:Ext h8 h11':=(e9.trans e10).step o11 fun m hm hb=>by have:=e9.size;omega
   have e5b:=e58.trans e8b
   have v11:=v.e e5b
   have x11:h11'[hL.size+1]?=some X:=e5b.block hx fun f=>f
   have b8b:Blk h11' m7 q.c.cells.toArray aJ:=e8b.block b8' fun f=>f
   have hsn:=yP ep fr to hq
   -- nothing is told
   have skip:∀ h12',Ext h11' h12'->inS ep fr to (q.c,q.vs)=false->K h12':=fun h12' e12 hno=>by
    refine kK h12' ?_ (e12.block x11 fun f=>f)
    rw [hsn,hno]
    simp only [Bool.false_eq_true,if_false,List.append_nil]
    exact v11.e e12
   have lay:∀ (h12:H),Ext h11' h12->inS ep fr to (q.c,q.vs)=true->F.xat.j2 Q K J (hL.size+1) ⟨n10,0,none⟩ ⟨m7,0,none⟩ ⟨m10,0,none⟩ true h12:=fun h12 e12 hyes=>by
    unfold F.xat.j2
    refine ⟨fun _=>?_,fun h=>by cases h⟩
    have v12:=v11.e e12
    have e512:=e5b.trans e12
    have o1':Blk h12 n10 #[o.enc] eF:=e512.block o1 fun f=>f
    refine dJ (Blk.cell (i:=0) o1' rfl) ⟨q.c,(Blk.cells b8b).ext e12,(atV q.vs ep).1,(Blk.cells b11).ext e12,?_⟩
    have hsz:h5.size<=h12.size:=e512.size
    have hrl:(iV ep fr to (Z.take i)).length<=1048576:=by
     unfold iV
     have:=List.length_filter_le (fun r:Rec=>inS ep fr to (r.c,r.vs)) (Z.take i)
     rw [List.length_map]
     rw [List.length_take] at this
     omega
    have hh5:hL.size+1<h5.size:=(Array.getElem?_eq_some_iff.1 hx).1
    refine dT fun n14 h14 hn14 b14 e14 s14=>?_
    refine fI (L:=iV ep fr to (Z.take i)) (M:=[wE ep (q.c,q.vs)]) dy (by omega) fR ((o2.ext e512).ext e14) (dB b14 rfl) (fun x=>ei x) (by simp only [List.length_singleton];omega) fun r15 h15 w15 o15 n15=>?_
    have x14:Blk h14 n10 #[o.enc] eF:=e14.block o1' fun f=>f
    have l10:=v.lt.2.2.2.2.1
    have hob:o.blk≠some n10:=fun e=>by have:=o3 _ e;omega
    have x15:Blk h15 n10 #[o.enc] eF:=o15.block x14 hob
    refine cC x15 (by simp) fun h16 b16 o16 s16=>?_
    have r15n:∀ y,r15.blk=some y->hL.size+2<=y:=fun y hy=>by
     rcases n15 with n15 | ⟨y',n15,n16⟩
     ·exact o3 y (by rw [← n15];exact hy)
     ·rw [n15] at hy;cases hy
      have:=e14.size;omega
    have v14:=v12.e e14
    obtain ⟨_,_,_,_,_,_,lq,d2,d4,d6,d8,d12,dh⟩:=v.lt
    have lts:=v.lt
    have no:∀ m,m<=hL.size+1->¬ (o.blk=some m):=fun m hm e=>by have:=o3 m e;omega
    refine kK h16 ?_ (o16.block (o15.block (e14.block (e12.block x11 fun f=>f) fun f=>f) (no _ (Nat.le_refl _))) (by omega))
    have kp:∀ {m:Nat}{y:Obj},m<=hL.size->m≠n10->h14[m]?=some y->h16[m]?=some y:=fun hm hne hy=>o16.block (o15.block hy (no _ (by omega))) hne
    have o14:bI (fun m=>o.blk=some m∨m=n10) h14 h16:=(o15.mono fun _ _ e=>.inl e).trans o16 fun _ _ e=>.inr e
    refine ⟨v14.ext.step o14 fun m hm e=>?_,kp (by omega) d2 v14.b2,kp (by omega) d4 v14.b4,kp (by omega) d6 v14.b6,kp (by omega) d8 v14.b8,kp (by omega) d12 v14.b12,v14.sq.only o14 fun m hm e=>?_,kp (Nat.le_refl _) (by omega) v14.dfr,⟨r15,b16,?_,r15n⟩,?_,?_,lts⟩
    ·have hle:h.size<=hL.size:=by have:=e013.size;omega
     rcases e with e | e
     ·have:=o3 m e;omega
     ·omega
    ·rcases e with e | e
     ·have:=o3 m e;have:=(lq m hm).1;omega
     ·exact (lq m hm).2 e
    ·rw [hsn,hyes]
     exact w15.only o16 fun m hm e=>by have:=r15n m hm;omega
    ·rw [hsn,hyes,List.length_append]
     simp only [if_true,List.length_singleton]
     rw [hlo] at g;omega
    ·have:=o14.size;have:=v14.sz;omega
   refine ⟨fun g2=>?_,fun g2=>?_⟩
   ·refine ⟨_,Blk.cell (i:=0) v11.b12 rfl,q.c,Blk.cells b8b,yO (Blk.cells v11.b4) (Blk.cells v11.b6) fun h12 e12=>⟨_,rfl,?_⟩⟩
    have hin:inS ep fr to (q.c,q.vs)=(decide (bZ fr q.c<=0) && decide (bZ q.c to<0)):=by
     unfold inS;rw [show (atV (q.c,q.vs).2 ep).2=true from g2,Bool.true_and]
    rw [← hin]
    cases hi:inS ep fr to (q.c,q.vs) with
    | true=>exact lay h12 e12 hi
    | false =>
     unfold F.xat.j2
     exact ⟨fun h=>(by cases h),fun _=>skip h12 e12 hi⟩
   ·unfold F.xat.j2
    refine ⟨fun h=>(by cases h),fun _=>skip h11' (.refl _) ?_⟩
    unfold inS;rw [show (atV (q.c,q.vs).2 ep).2=false from g2,Bool.false_and]
 ·refine fin h' _ v ?_
  rw [jq,List.take_length,vg]
  have hl:=v.len
  rw [jq,List.take_length] at hl
  exact (List.take_of_length_le hl).symm
 ·obtain ⟨rfl,i,v,hm⟩:=v
  refine ⟨_,rfl,fun _=>fin h' _ v ?_⟩
  rw [vg]
  have hl:=v.len
  obtain ⟨tl,htl⟩:=AB ep fr to Z i
  rw [← htl]
  have:most.toNat=(iV ep fr to (Z.take i)).length:=by omega
  rw [this,List.take_left]
theorem Aj {k:IntKind}{ts:Array TypeId}{t:TypeId}{h:H}{a b:Int}{K:Int->H->Prop}(kk:K (if a<b then b else a) h):BS PP (Builtin.max_ ts t #[.int k a,.int k b]) h k K:=fun w hw =>
 ⟨_,w,rfl,.refl _,_,rfl,by rw [hw];exact kk⟩
def kw (L:List Nat):Nat:=L.foldl max 0
theorem fM {n:Nat}(h:n<9000000000000000000):IntKind.wrap .i64 ((n:Int)+1)=((n+1:Nat):Int):=by rw [w64 (by omega) (by omega)];omega
abbrev cN (n:Nat):List Value:=[.int .i64 (n:Int)]
theorem qt (n:Nat):(cN n).length=1:=rfl
theorem zm {h:H}{s:Sl}{L:List Nat}{Q:Int->H->Prop}(rd:bS h s 1 (L.flatMap cN)) (hn:L≠[]) (hl:L.length<4611686018427387904) (k:Q (kw L:Int) h):F.xby s h Q:=by
 have hs:=cz qt (by omega) rd
 have hpos:=List.length_pos_iff.2 hn
 have at_:∀ {i:Nat}{x:Nat}{K:Int->Prop},L[i]?=some x->K (x:Int)->bD s (i:Int) 1 fun a=>ldI .i64 h a K:=fun {i x K} hx kk=>by
  obtain ⟨p,p1,p2,p3⟩:=gw qt (by omega) rd hx
  exact dK (i:=i) p1 (by have:=(List.getElem?_eq_some_iff.1 hx).1;omega) rfl ((bA (n:=x) p3.one).2 kk)
 unfold F.xby
 rw [hs]
 refine ⟨fun g=>by have:=of_decide_eq_true g;omega,fun _=>?_⟩
 unfold F.xby.j1
 obtain ⟨x0,hx0⟩:∃ x,L[0]?=some x:=⟨_,List.getElem?_eq_getElem hpos⟩
 refine at_ (i:=0) hx0 ⟨L.length+1,?_⟩
 have key:∀ (d i m:Nat),i<=L.length->L.length-i<d->m=kw (L.take i)->F.xby.l2 Q d s (m:Int) (i:Int) h:=by
  intro d
  induction d with
  | zero=>intro i m _ hd;omega
  | succ d ih =>
   intro i m hi hd hm
   unfold F.xby.l2
   rw [hs]
   refine ⟨fun g=>?_,fun g=>?_⟩
   ·have g:=of_decide_eq_true g
    obtain ⟨x,hx⟩:∃ x,L[i]?=some x:=⟨_,List.getElem?_eq_getElem (by omega)⟩
    refine at_ hx (Aj ?_)
    rw [fM (by omega)]
    have hmx:(if (m:Int)<(x:Int) then (x:Int) else (m:Int))=((max m x:Nat):Int):=by split <;> omega
    rw [hmx]
    refine ih (i+1) (max m x) (by omega) (by omega) ?_
    obtain ⟨h1,h2⟩:=List.getElem?_eq_some_iff.1 hx
    rw [List.take_succ_eq_append_getElem h1,h2]
    unfold kw at hm ⊢
    rw [List.foldl_append,← hm];rfl
   ·have:i=L.length:=by have:=of_decide_eq_false g;omega
    rw [this,List.take_length] at hm
    rw [hm];exact k
 refine key _ 1 x0 (by omega) (by omega) ?_
 cases L with
 | nil=>exact absurd rfl hn
 | cons y r=>simp at hx0;subst hx0;simp [kw]
def lI (Z:List Rec):List Nat:=Z.map fun r=>r.vs.length
theorem mc (Z:List Rec):(lI Z).length=Z.length:=List.length_map _
def gp (S:SL):Nat:=kw (S.map fun x=>x.2.length)
structure MI (h hL h':H) (n2 ka ma b:Nat) (r:Sl) (L:List (ByteArray×Option Addr)) (out:List Nat):Prop where
 ext:Ext h h'
 sq:P.pB h' ka ma b r L
 dfr:h'[hL.size]?=some (.deferred (some []))
 out:∃ o,Blk h' n2 #[o.enc] eW∧aU h' o eX 1 (out.flatMap cN)∧∀ x,o.blk=some x->hL.size+2<=x
 sz:hL.size+1<=h'.size
 lt:n2<hL.size∧(∀ m,SQF ka ma b r m->m<hL.size∧m≠n2)∧h.size<=n2
theorem MI.only {h hL h' h'':H}{n2 ka ma b:Nat}{r:Sl}{L:List (ByteArray×Option Addr)}{out:List Nat}{S:Nat->Prop}(v:MI h hL h' n2 ka ma b r L out) (o:bI S h' h'') (hS:∀ m,S m->hL.size<m∧∀ o:Sl,Blk h' n2 #[o.enc] eW->o.blk≠some m):MI h hL h'' n2 ka ma b r L out:=by
 obtain ⟨l2,lq,q⟩:=v.lt
 have no:∀ m,m<=hL.size->¬ S m:=fun m hm h=>by have:=(hS m h).1;omega
 obtain ⟨ou,o1,o2,o3⟩:=v.out
 exact ⟨v.ext.step o fun m hm=>no m (by omega),v.sq.only o fun m hm=>no m (by have:=(lq m hm).1;omega),o.block v.dfr (no _ (by omega)),
  ⟨ou,o.block o1 (no _ (by omega)),o2.only o fun m hm hs=>(hS m hs).2 ou o1 hm,o3⟩,by have:=o.size;have:=v.sz;omega,v.lt⟩
theorem xR {h:H}{n:Nat}{S:SL}{slots:Nat}{R:Nat->Prop}{Q:Int->H->Prop}(s:SH h n S slots R) (k:∀ h',Ext h h'->Q (gp S:Int) h'):F.xes (some ⟨n,0,none⟩) h Q:=by
 obtain ⟨tn,rs,es,T,Z,rfl,z⟩:=s
 unfold F.xes
 refine aN fun n2 h1 hn2 b2 e1 s1=>?_
 have z1:=z.ext e1
 simp only [aZ,aC,Nat.zero_add,Nat.add_zero]
 rw [gB z1.cs3]
 have hcnt:=z.count
 have hzl:=z.len
 refine P.qc z1.th z1.ok (by omega) fun hL ka ma b r sq eL hmine _=>?_
 rw [vL z1] at sq
 have hLs:=eL.size
 have hmost:gp (toS Z)=kw (lI Z):=by unfold gp toS lI;rw [List.map_map];rfl
 refine P.oQ (I:=fun i h'=>MI h hL h' n2 ka ma b r (kv Z) (lI (Z.take i))) (E:=fun j h'=>False)
  (fun i h' h'' v o=>v.only o fun m hm=>⟨by omega,fun ou hou hb=>?_⟩) (fun j h' h'' v o=>v) (fun i h' v=>v.sq) ?_ ?_ (fun h' v=>?_) (fun j h' v=>v.elim)
 ·obtain ⟨o',o1,o2,o3⟩:=v.out
  have heq:=o1.symm.trans hou
  have:o'=ou:=nq.1 (by simpa using heq)
  subst this
  have:=o3 m hb;omega
 ·have ep0:Ext hL (hL.push (.deferred (some []))):=.push _ _
  refine ⟨(e1.trans eL).trans ep0,sq.only ep0 fun m hm f=>f,by simp,⟨_,ep0.block (eL.block b2 fun f=>f) fun f=>f,by simpa [lI] using aU.nil _ eX 1,fun x hx=>by simp [Sl.blk] at hx⟩,by simp,?_⟩
  exact ⟨by omega,fun m hm=>⟨sq.lt m hm,by have:=hmine m hm;omega⟩,by omega⟩
 ·intro X i x h5 K J hX v hx hxi kK kJ
  unfold kv at hxi
  rw [List.getElem?_map] at hxi
  obtain ⟨q,hq,rfl⟩:∃ q,Z[i]?=some q∧x=(fG q.c,some ⟨q.p,0,none⟩):=by
   cases hy:Z[i]? with
   | none=>rw [hy] at hxi;cases hxi
   | some q=>rw [hy] at hxi;cases hxi;exact ⟨q,rfl,rfl⟩
  have hqz:q∈Z:=List.mem_of_getElem? hq
  obtain ⟨o,o1,o2,o3⟩:=v.out
  have hlo:=bH qt (by omega) o2
  rw [mc,List.length_take] at hlo
  have zq:=z.ext v.ext
  have c5:aA h5 ⟨n2,0,none⟩=some o.enc:=Blk.cell (i:=0) o1 rfl
  refine dJ c5 (C.ur (zq.ch q hqz) ⟨c5,?_⟩)
  refine dT fun n14 h14 hn14 b14 e14 s14=>⟨e14.cell c5 fun f=>f,?_⟩
  have hi:i<Z.length:=(List.getElem?_eq_some_iff.1 hq).1
  refine fI (L:=lI (Z.take i)) (M:=[q.vs.length]) qt (by omega) lz (o2.ext e14) (dB b14 rfl) (fun x=>de rfl) (by simp only [List.length_singleton,mc,List.length_take];omega) fun r15 h15 w15 o15 n15=>?_
  have x14:Blk h14 n2 #[o.enc] eW:=e14.block o1 fun f=>f
  obtain ⟨l2,lq,ld⟩:=v.lt
  have lts:=v.lt
  have hob:o.blk≠some n2:=fun e=>by have:=o3 _ e;omega
  have x15:Blk h15 n2 #[o.enc] eW:=o15.block x14 hob
  have hh5:hL.size+1<h5.size:=(Array.getElem?_eq_some_iff.1 hx).1
  refine cC x15 (by simp) fun h16 b16 o16 s16=>?_
  have r15n:∀ y,r15.blk=some y->hL.size+2<=y:=fun y hy=>by
   rcases n15 with n15 | ⟨y',n15,n16⟩
   ·exact o3 y (by rw [← n15];exact hy)
   ·rw [n15] at hy;cases hy
    have:=e14.size;omega
  have v14:MI h hL h14 n2 ka ma b r (kv Z) (lI (Z.take i)):=v.only e14 fun _ f=>f.elim
  have no:∀ m,m<=hL.size+1->¬ (o.blk=some m):=fun m hm e=>by have:=o3 m e;omega
  have o14:bI (fun m=>o.blk=some m∨m=n2) h14 h16:=(o15.mono fun _ _ e=>.inl e).trans o16 fun _ _ e=>.inr e
  refine kK h16 ⟨v14.ext.step o14 fun m hm e=>?_,v14.sq.only o14 fun m hm e=>?_,o14.block v14.dfr fun e=>?_,⟨r15,b16,?_,r15n⟩,?_,lts⟩ (o14.block (e14.block hx fun f=>f) fun e=>?_)
  ·rcases e with e | e
   ·have:=o3 m e;have:=(e1.trans eL).size;omega
   ·omega
  ·rcases e with e | e
   ·have:=o3 m e;have:=(lq m hm).1;omega
   ·exact (lq m hm).2 e
  ·rcases e with e | e
   ·exact no _ (by omega) e
   ·omega
  ·have hsn:lI (Z.take (i+1))=lI (Z.take i) ++ [q.vs.length]:=by
    unfold lI
    obtain ⟨h1,h2⟩:=List.getElem?_eq_some_iff.1 hq
    rw [List.take_succ_eq_append_getElem h1,h2,List.map_append];rfl
   rw [hsn]
   exact w15.only o16 fun m hm e=>by have:=r15n m hm;omega
  ·have:=o14.size;have:=v14.sz;omega
  ·rcases e with e | e
   ·exact no _ (Nat.le_refl _) e
   ·omega
 ·obtain ⟨o,o1,o2,o3⟩:=v.out
  rw [jq,List.take_length] at o2
  have hlo:=bH qt (by omega) o2
  rw [mc] at hlo
  have c5:aA h' ⟨n2,0,none⟩=some o.enc:=Blk.cell (i:=0) o1 rfl
  have hle:h.size<=hL.size:=(e1.trans eL).size
  refine dJ c5 ⟨fun g=>?_,fun g=>dJ c5 ?_⟩
  ·have hz:Z=[]:=List.eq_nil_of_length_eq_zero (by have:(o.len:Int)=0:=(by simpa using g);omega)
   refine xG v.dfr fun h9 o9=>?_
   have:=k h9 (v.ext.step o9 fun m hm e=>by omega)
   rw [hmost,hz] at this;exact this
  ·have hz:Z≠[]:=fun e=>by rw [e] at hlo;simp [hlo] at g
   refine zm o2.reads (by simpa [lI] using hz) (by rw [mc];omega) (xG v.dfr fun h9 o9=>?_)
   have:=k h9 (v.ext.step o9 fun m hm e=>by omega)
   rw [hmost] at this;exact this
theorem vK:dH []=0:=rfl
theorem pn {vs:List Ver}(hv:VOk vs) (E:List Int):dH (C.bF vs E)=dH vs:=by
 have hl:(C.bT vs)=((vs.getLast hv.ne).value,(vs.getLast hv.ne).epoch,!(vs.getLast hv.ne).dead):=by
  unfold C.bT;rw [List.getLast?_eq_some_getLast hv.ne]
 rcases C.wv hv.rise hv.ne E with ⟨h1,h2⟩ | h1
 ·rw [h1,vK]
  unfold dH eS
  rw [hl,h2];rfl
 ·unfold dH eS
  rw [hl]
  unfold C.bT
  rw [h1]
theorem u4 {vs:List Ver}(hv:VOk vs) (E:List Int) (h:C.bF vs E≠[]):VOk (C.bF vs E):=by
 have hs:=C.sO vs E
 exact ⟨h,C.ve hv.rise hs,fun v hm=>hv.dead v (hs.subset hm),fun v hm=>hv.ep v (hs.subset hm)⟩
theorem lN {vs:List Ver}(hv:VOk vs) (E:List Int):dl (C.bF vs E)+(vs.length-(C.bF vs E).length)=dl vs:=by
 have h1:=pn hv E
 have h2:=C.nN vs E
 rw [lT,lT,h1];omega
def i7 (E:List Int) (Z:List Rec):Nat:=(Z.map fun r=>r.vs.length-(C.bF r.vs E).length).sum
def jw (E:List Int) (Z:List Rec):List ByteArray:=(Z.filter fun r=>(C.bF r.vs E).isEmpty).map fun r=>fG r.c
theorem yh (E:List Int){Z:List Rec}{i:Nat}{r:Rec}(h:Z[i]?=some r):i7 E (Z.take (i+1))=i7 E (Z.take i)+(r.vs.length-(C.bF r.vs E).length):=by
 obtain ⟨h1,h2⟩:=List.getElem?_eq_some_iff.1 h
 unfold i7
 rw [List.take_succ_eq_append_getElem h1,h2,List.map_append,List.sum_append];simp
theorem qz (E:List Int){Z:List Rec}{i:Nat}{r:Rec}(h:Z[i]?=some r):jw E (Z.take (i+1))=jw E (Z.take i) ++ (if (C.bF r.vs E).isEmpty then [fG r.c] else []):=by
 obtain ⟨h1,h2⟩:=List.getElem?_eq_some_iff.1 h
 unfold jw
 rw [List.take_succ_eq_append_getElem h1,h2,List.filter_append,List.map_append]
 congr 1
 by_cases hi:(C.bF r.vs E).isEmpty <;> simp [hi]
theorem vh {α:Type}{key:α->Cel}{x:α}:∀ {S:List α}{i:Nat}{y:α},fA key S->S[i]?=some y->key x=key y->eu key S x=S.set i x
 | [],i,y,_,h,_=>by simp at h
 | z :: r,0,y,hs,h,he=>by
  simp at h;subst h
  unfold eu
  rw [he,eC];simp
 | z :: r,i+1,y,hs,h,he=>by
  have h':=List.pairwise_cons.1 hs
  have hy:r[i]?=some y:=by simpa using h
  have hlt:=h'.1 y (List.mem_of_getElem? hy)
  have:=dR (key z) (key y)
  unfold eu
  rw [he,if_neg (by omega),if_neg (by omega),vh h'.2 hy he];rfl
theorem um (S:SL):aR (S.filter fun x=>!x.2.isEmpty)=aR S∧ck (S.filter fun x=>!x.2.isEmpty)=ck S:=by
 induction S with
 | nil=>exact ⟨rfl,rfl⟩
 | cons x r ih =>
  unfold aR ck at ih ⊢
  by_cases h:x.2.isEmpty
  ·have hx:x.2=[]:=by simpa using h
   simp only [List.filter_cons,h,Bool.not_true,Bool.false_eq_true,if_false,List.map_cons,List.sum_cons]
   rw [hx,show dl []=0 from rfl,show dH []=0 from rfl]
   omega
  ·simp only [List.filter_cons,h,Bool.not_false,if_true,List.map_cons,List.sum_cons]
   omega
theorem tA (E:List Int):∀ (Z:List Rec),(∀ r∈Z,VOk r.vs)->aR ((toS Z).map fun x=>(x.1,C.bF x.2 E))+i7 E Z=aR (toS Z)∧ck ((toS Z).map fun x=>(x.1,C.bF x.2 E))=ck (toS Z)
 | [],_=>⟨rfl,rfl⟩
 | r :: Z,h=>by
  have ih:=tA E Z fun x hx=>h x (by simp [hx])
  have h1:=lN (h r (by simp)) E
  have h2:=pn (h r (by simp)) E
  unfold aR ck i7 toS at ih ⊢
  simp only [List.map_cons,List.sum_cons]
  omega
theorem yI (E:List Int){Z:List Rec}(h:∀ r∈Z,VOk r.vs):aR (dp (toS Z) E)+i7 E Z=aR (toS Z)∧ck (dp (toS Z) E)=ck (toS Z):=by
 have h1:=um ((toS Z).map fun x=>(x.1,C.bF x.2 E))
 have h2:=tA E Z h
 unfold dp
 rw [h1.1,h1.2];exact h2
section
variable {W:List Ver->Prop}{h h':H}{n tn:Nat}{rs es:Sl}{T:Tb (Option Addr)}{Z:List Rec}{slots:Nat}{R:Nat->Prop}{u t:Int}
theorem iw {h:H}{m:Nat}{c:Array Value}{e:TypeId}(b:Blk h m c e) (he:¬ ShE e):¬ lw h m:=fun ⟨e',h1,c',h2⟩=>he (by
 have:=b.symm.trans h2
 simp at this
 rw [this.2];exact h1)
theorem SZG.drop (z:SZG W h n tn rs es T Z slots R u t){c:Cel}(hc:okC c=0){T':Tb (Option Addr)}{rs' es':Sl}(th:P.TH h' tn rs' es' T') (ok:TOk T') (stp:Stp h tn rs es h' rs' es') (hget:∀ k,dO T' k=if kL k=kL (fG c) then none else dO T k) (hrl:T'.row.length<=4200000) (hR:∀ b,h.size<=b->R b) :
  SZG W h' n tn rs' es' T' (Z.filter fun r=>decide (bZ r.c c≠0)) slots R u t∧cX R h h':=by
 have hsub:(Z.filter fun r=>decide (bZ r.c c≠0)).Sublist Z:=List.filter_sublist
 have hmem:∀ {r:Rec},r∈(Z.filter fun r=>decide (bZ r.c c≠0))↔r∈Z∧bZ r.c c≠0:=fun {r}=>by rw [List.mem_filter];simp
 have hreg:∀ b,FT tn rs' es' b->R b:=fun b hb=>by
  rcases stp.new b hb with e | e
  ·rcases e with e | e | e
   ·subst e;exact z.rt
   ·exact z.rr b e
   ·exact z.re b e
  ·exact hR b e
 have hus:∀ (Y:List Rec),aR (toS (Y.filter fun r=>decide (bZ r.c c≠0)))<=aR (toS Y):=fun Y=>by
  induction Y with
  | nil=>exact Nat.le_refl _
  | cons x r ih =>
   unfold aR toS at ih ⊢
   rw [List.filter_cons]
   split
   ·simp only [List.map_cons,List.sum_cons];omega
   ·simp only [List.map_cons,List.sum_cons];omega
 refine ⟨{ sb:=stp.only.block z.sb fun e=>z.n_ft e rfl,th:=th,ok:=ok,ch:=fun r hr=>?_,get:=fun r hr=>?_,all:=fun k v hk=>?_,srt:=z.srt.sublist hsub,pd:=z.pd.sublist hsub,bd:=z.bd.sublist hsub,wf:=fun r hr=>z.wf r (hmem.1 hr).1,us:=Nat.le_trans (hus Z) z.us,sl:=z.sl,rl:=hrl,rn:=z.rn,rt:=z.rt,rr:=fun b hb=>hreg b (.inr (.inl hb)),re:=fun b hb=>hreg b (.inr (.inr hb)),rp:=fun r hr=>z.rp r (hmem.1 hr).1 },?_⟩
 ·have hr':=(hmem.1 hr).1
  exact (z.ch r hr').only stp.only (fun e=>(z.ch_ft hr' e).1 rfl) fun b hb e=>(z.ch_ft hr' e).2 hb
 ·obtain ⟨h1,h2⟩:=hmem.1 hr
  rw [hget,if_neg]
  ·exact z.get r h1
  ·intro he
   rw [jO,jO] at he
   exact h2 (dq.2 (tK (z.wf r h1).1 hc he))
 ·rw [hget] at hk
  split at hk
  ·cases hk
  ·rename_i hne
   obtain ⟨r,hr,e⟩:=z.all k v hk
   refine ⟨r,hmem.2 ⟨hr,fun h0=>hne ?_⟩,e⟩
   rw [e,dq.1 h0,jO]
 ·exact stp.only.mono fun b _ e=>by
   obtain ⟨ty,q1,q2⟩:=xm z.th e
   refine ⟨?_,ty,?_,q1⟩
   ·rcases e with e | e | e
    ·subst e;exact z.rt
    ·exact z.rr b e
    ·exact z.re b e
   ·rcases q2 with rfl | rfl
    ·exact .inr (.inl rfl)
    ·exact .inr (.inr (.inl rfl))
end
def qR (Cs:List Cel) (Z:List Rec):List Rec:=Z.filter fun r:Rec=>decide (∀ c∈Cs,bZ r.c c≠0)
theorem BG (Z:List Rec):qR [] Z=Z:=by
 unfold qR;rw [List.filter_eq_self];intro r _;simp
theorem Au (c:Cel) (Cs:List Cel) (Z:List Rec):qR (c :: Cs) Z=qR Cs (Z.filter fun r:Rec=>decide (bZ r.c c≠0)):=by
 unfold qR
 rw [List.filter_filter]
 congr 1
 funext r
 simp
 rw [Bool.and_comm]
theorem yk {W:List Ver->Prop}{n tn:Nat}{slots:Nat}{R:Nat->Prop}{u t:Int}{ds:List Nat}{n4:Nat}{o:Sl}{Cs:List Cel}{Q:Int->H->Prop}{hb:H}(hCs:∀ c∈Cs,okC c=0) (hlen:Cs.length<1073741824) (hR:∀ b,hb.size<=b->R b) :
  ∀ (d i:Nat) (h:H) (rs es:Sl) (T:Tb (Option Addr)) (Z:List Rec),i<=Cs.length->Cs.length-i<d->SZG W h n tn rs es T Z slots R u t->aU h o jt 1 ((Cs.map fG).flatMap cT)->hb.size<=h.size ->
   (∀ h' rs' es' T',SZG W h' n tn rs' es' T' (qR (Cs.drop i) Z) slots R u t->cX R h h'->F.xcj.l1 Q 1 ds (some ⟨n,0,none⟩) ⟨n4,0,none⟩ o (Cs.length:Int) (Cs.length:Int) h') ->
   F.xcj.l1 Q d ds (some ⟨n,0,none⟩) ⟨n4,0,none⟩ o (Cs.length:Int) (i:Int) h:=by
 intro d
 induction d with
 | zero=>intro i h rs es T Z _ hd;omega
 | succ d ih =>
  intro i h rs es T Z hi hd z w hsz k
  by_cases hlt:i<Cs.length
  ·unfold F.xcj.l1
   refine ⟨fun _=>?_,fun g=>by have:=of_decide_eq_false g;omega⟩
   obtain ⟨c,hc⟩:∃ c,Cs[i]?=some c:=⟨_,List.getElem?_eq_getElem hlt⟩
   have hcm:=List.mem_of_getElem? hc
   have hk:(Cs.map fG)[i]?=some (fG c):=by rw [List.getElem?_map,hc];rfl
   obtain ⟨p,p1,p2,p3⟩:=gw i4 (by omega) w.reads hk
   have hl:=bH i4 (by omega) w
   rw [List.length_map] at hl
   refine dK (i:=i) p1 (by omega) rfl ((eP (n:=fG c) p3.one).2 ?_)
   simp only [aZ,aC,Nat.zero_add,Nat.add_zero]
   rw [gB z.cs3]
   obtain ⟨T',t1,t2,t3,t4,t5,t6,t7⟩:=Bj (z:=P.iv) z.ok (fG c)
   refine P.xM z.th z.ok (l9 (hCs c hcm)) t1 fun h2 es2 th2 stp=>?_
   have hz:=z.drop (hCs c hcm) th2 t2 stp t4 (by have:=z.rl;omega) fun b hb'=>hR b (by omega)
   rw [fM (by omega)]
   have hw:aU h2 o jt 1 ((Cs.map fG).flatMap cT):=hz.2.owns w (by unfold ShE;decide)
   refine ih (i+1) h2 rs es2 T' _ (by omega) (by omega) hz.1 hw (by have:=hz.2.size;omega) fun h' rs' es' T'' z' so'=>?_
   refine k h' rs' es' T'' ?_ (hz.2.trans so')
   have he:qR (Cs.drop i) Z=qR (Cs.drop (i+1)) (Z.filter fun r:Rec=>decide (bZ r.c c≠0)):=by
    obtain ⟨q1,q2⟩:=List.getElem?_eq_some_iff.1 hc
    rw [List.drop_eq_getElem_cons q1,q2,Au]
   rw [he];exact z'
  ·have hi':i=Cs.length:=by omega
   subst hi'
   have hz:qR (Cs.drop Cs.length) Z=Z:=by rw [List.drop_length,BG]
   have:=k h rs es T (by rw [hz];exact z) (.refl _)
   unfold F.xcj.l1 at this ⊢
   exact ⟨fun g=>by have:=of_decide_eq_true g;omega,fun g=>this.2 g⟩
section
variable {W W':List Ver->Prop}{h h':H}{n tn:Nat}{rs es:Sl}{T:Tb (Option Addr)}{Z:List Rec}{slots:Nat}{R R':Nat->Prop}{u t:Int}
theorem SZG.turn (z:SZG W h n tn rs es T Z slots R u t) (hw:∀ r∈Z,W r.vs->W' r.vs) (hr:∀ b,b<h.size->R b->R' b):SZG W' h n tn rs es T Z slots R' u t:=by
 obtain ⟨l1,l2,l3⟩:=z.f_lt
 exact { z with wf:=fun r hr=>⟨(z.wf r hr).1,hw r hr (z.wf r hr).2⟩,rn:=hr _ l1 z.rn,rt:=hr _ (l2 _ (.inl rfl)) z.rt,rr:=fun b hb=>hr _ (l2 _ (.inr (.inl hb))) (z.rr b hb),re:=fun b hb=>hr _ (l2 _ (.inr (.inr hb))) (z.re b hb),rp:=fun r hm=>⟨hr _ (l3 r hm).1 (z.rp r hm).1,fun x hx=>hr _ ((l3 r hm).2 x hx) ((z.rp r hm).2 x hx)⟩ }
end
abbrev WP (vs:List Ver):Prop:=vs=[]∨VOk vs
def ToP (E:List Int) (Z Zi:List Rec) (i:Nat):Prop:=Zi.length=Z.length∧∀ (j:Nat) (r:Rec),Z[j]?=some r->∃ B,Zi[j]?=some ⟨r.c,if j<i then C.bF r.vs E else r.vs,r.p,B⟩
structure PI (h hL h':H) (n n2 n4 n7 ka ma b tn:Nat) (rs es r:Sl) (T:Tb (Option Addr)) (L:List (ByteArray×Option Addr)) (held:Sl) (E:List Int) (Z:List Rec) (slots:Nat) (R:Nat->Prop) (u t:Int) (i:Nat):Prop where
 so:cX R h h'
 b2:Blk h' n2 #[held.enc] eW
 b4:Blk h' n4 #[.int .i64 (i7 E (Z.take i):Int)] eX
 b7:∃ o,Blk h' n7 #[o.enc] dE∧aU h' o jt 1 ((jw E (Z.take i)).flatMap cT)∧∀ x,o.blk=some x->hL.size+2<=x
 sq:P.pB h' ka ma b r L
 dfr:h'[hL.size]?=some (.deferred (some []))
 sz:hL.size+1<=h'.size
 z:∃ Zi,SZG WP h' n tn rs es T Zi slots (fun b=>R b∧b≠hL.size+1) u t∧ToP E Z Zi i
 lt:n2<hL.size∧n4<hL.size∧n7<hL.size∧h.size<=n2∧h.size<=n4∧h.size<=n7∧n2≠n4∧n2≠n7∧n4≠n7∧∀ m,SQF ka ma b r m->m<hL.size∧m≠n4∧m≠n7∧h.size<=m
theorem wb:¬ ShE eX:=by unfold ShE;decide
theorem Dh:¬ ShE jt:=by unfold ShE;decide
theorem AG:¬ ShE dE:=by unfold ShE;decide
theorem wN (Z:List Rec) (i:Nat):aR (toS (Z.take i))<=aR (toS Z):=by
 have:toS Z=toS (Z.take i) ++ toS (Z.drop i):=by unfold toS;rw [← List.map_append,List.take_append_drop]
 rw [this]
 unfold aR
 rw [List.map_append,List.sum_append];omega
theorem mz {h:H}{n:Nat}{S:SL}{slots:Nat}{R:Nat->Prop}{held:Sl}{E:List Int}{Q:Int->H->Prop}(s:SH h n S slots R) (rd:bS h held 1 (E.flatMap cI)) (hE:E.length<1073741824)
  (hlt:E≠[]->∀ b,held.blk=some b->b<h.size∧¬ (R b∧lw h b)) (hR:∀ b,h.size<=b->R b)
  (k:∀ h',SH h' n (dp S E) slots R->cX R h h'->Q ((aR S:Int)-aR (dp S E)) h'):F.xcj (some ⟨n,0,none⟩) held h Q:=by
 obtain ⟨tn,rs,es,T,Z,hZS,z⟩:=s
 have hvok:∀ r∈Z,VOk r.vs:=fun r hr=>(z.wf r hr).2
 have hsum:=yI E hvok
 rw [hZS] at hsum
 unfold F.xcj
 refine aN fun n2 h1 hn2 b2 e1 s1=>aN fun n4 h3 hn4 b4 e3 s3=>?_
 refine cC b4 (by simp) fun h5 b5 o5 s5=>aN fun n7 h6 hn7 b7 e6 s6=>?_
 have b4':Blk h5 n4 #[.int .i64 0] eX:=b5
 have e06:Ext h h6:=((e1.trans e3).step o5 fun m hm hb=>by omega).trans e6
 have x2:Blk h6 n2 #[held.enc] eW:=e6.block (o5.block (e3.block b2 fun f=>f) (by omega)) fun f=>f
 have x4:Blk h6 n4 #[.int .i64 0] eX:=e6.block b4' fun f=>f
 have z6:=z.ext e06
 simp only [aZ,aC,Nat.zero_add,Nat.add_zero]
 rw [gB z6.cs3]
 have hcnt:=z.count
 have hzl:=z.len
 have hus:=z.us
 have hsl:=z.sl
 obtain ⟨f1,f2,f3⟩:=z.f_lt
 refine P.qc z6.th z6.ok (by omega) fun hL ka ma b r sq eL hmine _=>?_
 rw [vL z6] at sq
 have hLs:=eL.size
 have e06s:=e06.size
 have e0L:=e06.trans eL
 -- the record's place
 have keepZ:∀ {a c:H}{Zi:List Rec}{P:Nat->Prop},SZG WP a n tn rs es T Zi slots (fun b=>R b∧b≠hL.size+1) (aR (toS Z):Int) (ck (toS Z):Int)->bI P a c->(∀ b,P b->b=hL.size+1∨¬ lw a b)->SZG WP c n tn rs es T Zi slots (fun b=>R b∧b≠hL.size+1) (aR (toS Z):Int) (ck (toS Z):Int):=fun hz o hp=>hz.keep o fun b hb ht hP=>by
  rcases hp b hP with e | e
  ·exact hb.2 e
  ·exact e ht
 refine P.oQ (I:=fun i h'=>PI h hL h' n n2 n4 n7 ka ma b tn rs es r T (kv Z) held E Z slots R (aR (toS Z):Int) (ck (toS Z):Int) i) (E:=fun j h'=>False)
  (fun i h' h'' v o=>?_) (fun j h' h'' v o=>v) (fun i h' v=>v.sq) ?_ ?_ (fun h' v=>?_) (fun j h' v=>v.elim)
 ·obtain ⟨l2,l4,l7,g2,g4,g7,d24,d27,d47,lq⟩:=v.lt
  obtain ⟨ou,q1,q2,q3⟩:=v.b7
  obtain ⟨Zi,zi,tp⟩:=v.z
  exact ⟨bI.trans v.so o fun m hm e=>by omega,o.block v.b2 (by omega),o.block v.b4 (by omega),⟨ou,o.block q1 (by omega),q2.only o fun m hm e=>by have:=q3 m hm;omega,q3⟩,v.sq.only o fun m hm e=>by have:=(lq m hm).1;omega,
   o.block v.dfr (by omega),by have:=o.size;have:=v.sz;omega,⟨Zi,keepZ zi o fun b e=>.inl e,tp⟩,v.lt⟩
 ·have ep0:Ext hL (hL.push (.deferred (some []))):=.push _ _
  have eH:=eL.trans ep0
  refine ⟨cX.of (e06.trans eH),eH.block x2 fun f=>f,eH.block x4 fun f=>f,⟨_,eH.block b7 fun f=>f,by simpa [jw] using aU.nil _ jt 1,fun x hx=>by simp [Sl.blk] at hx⟩,sq.only ep0 fun m hm f=>f,by simp,by simp,⟨Z,?_,rfl,fun j r hj=>⟨r.B,?_⟩⟩,?_⟩
  ·exact (z.turn (fun r hr hw=>.inr hw) fun b hb hr=>⟨hr,by omega⟩).ext (e06.trans eH)
  ·rw [if_neg (Nat.not_lt_zero j)];exact hj
  ·exact ⟨by omega,by omega,by omega,by omega,by omega,by omega,by omega,by omega,by omega,fun m hm=>⟨sq.lt m hm,by have:=hmine m hm;omega,by have:=hmine m hm;omega,by have:=hmine m hm;omega⟩⟩
 ·intro X i x h5 K J hX v hx hxi kK kJ
  unfold kv at hxi
  rw [List.getElem?_map] at hxi
  obtain ⟨q,hq,rfl⟩:∃ q,Z[i]?=some q∧x=(fG q.c,some ⟨q.p,0,none⟩):=by
   cases hy:Z[i]? with
   | none=>rw [hy] at hxi;cases hxi
   | some q=>rw [hy] at hxi;cases hxi;exact ⟨q,rfl,rfl⟩
  have hqz:q∈Z:=List.mem_of_getElem? hq
  have lts:=v.lt
  obtain ⟨l2,l4,l7,g2,g4,g7,d24,d27,d47,lq⟩:=v.lt
  obtain ⟨o,q1,q2,q3⟩:=v.b7
  obtain ⟨Zi,zi,tl,tp⟩:=v.z
  obtain ⟨B,hB⟩:=tp i q hq
  rw [if_neg (Nat.lt_irrefl i)] at hB
  have hBm:=List.mem_of_getElem? hB
  have hqp:=(f3 q hqz).1
  have hh5:hL.size+1<h5.size:=(Array.getElem?_eq_some_iff.1 hx).1
  have c4:aA h5 ⟨n4,0,none⟩=some (.int .i64 (i7 E (Z.take i):Int)):=Blk.cell (i:=0) v.b4 rfl
  refine aW c4 (dJ (Blk.cell (i:=0) v.b2 rfl) ?_)
  have rd5:bS h5 held 1 (E.flatMap cI):=rd.keep v.so fun hne bb hb hs=>(hlt hne bb hb).2 hs
  have hv:=hvok q hqz
  have so5:=v.so.size
  have hvl:=z.vlen hqz
  have chq:C.Ch h5 q.p q.vs B:=zi.ch ⟨q.c,q.vs,q.p,B⟩ hBm
  refine C.mz chq hv.rise (by omega) hE rd5 (fun hne bb hb=>by have:=(hlt hne bb hb).1;omega) fun h6 B' c6 o6 kin6=>?_
  have c46:aA h6 ⟨n4,0,none⟩=some (.int .i64 (i7 E (Z.take i):Int)):=o6.cell c4 (by simp only;omega)
  refine ⟨c46,?_⟩
  have hpu:=lN hv E
  have hple:=C.nN q.vs E
  have hsn:=yh E hq
  have hdle:=(tA E (Z.take (i+1)) fun r hr=>hvok r (List.mem_of_mem_take hr)).1
  have hut:=wN Z (i+1)
  have hw:IntKind.wrap .i64 ((i7 E (Z.take i):Int)+((q.vs.length:Int)-((C.bF q.vs E).length:Int)))=(i7 E (Z.take (i+1)):Int):=by rw [w64 (by omega) (by omega)];omega
  rw [hw]
  have hsetu:aR (toS (eu Rec.c Zi ⟨q.c,C.bF q.vs E,q.p,B'⟩))<=slots:=by
   rw [qb]
   show aR (oS (toS Zi) q.c (C.bF q.vs E))<=slots
   have hs:gI (toS Zi):=by unfold gI fA;rw [List.pairwise_map];exact zi.srt
   have h1:=oT hs q.c (C.bF q.vs E)
   have h2:cx (toS Zi) q.c=some q.vs:=by
    rw [SZG.getS zi q.c]
    have:=gm zi.srt hBm
    simp only at this
    rw [this];rfl
   rw [h2] at h1
   simp only [Option.getD_some] at h1
   have:=zi.us
   omega
  have hwp:WP (C.bF q.vs E):=by
   by_cases he:C.bF q.vs E=[]
   ·exact .inl he
   ·exact .inr (u4 hv E he)
  obtain ⟨z6q,so6⟩:=zi.lay (r:=⟨q.c,q.vs,q.p,B⟩) hBm c6 (o6.mono fun _ _ e=>.inl e) kin6 hwp hsetu fun bb hb=>⟨hR bb (by omega),by omega⟩
  have z6':SZG WP h6 n tn rs es T (eu Rec.c Zi ⟨q.c,C.bF q.vs E,q.p,B'⟩) slots (fun b=>R b∧b≠hL.size+1) (aR (toS Z):Int) (ck (toS Z):Int):=z6q
  rw [vh (x:=⟨q.c,C.bF q.vs E,q.p,B'⟩) zi.srt hB rfl] at z6'
  have tp6:ToP E Z (Zi.set i ⟨q.c,C.bF q.vs E,q.p,B'⟩) (i+1):=⟨by rw [List.length_set];exact tl,fun j r hj=>by
   by_cases hji:j=i
   ·subst hji
    rw [hq] at hj;cases hj
    exact ⟨B',by rw [List.getElem?_set_self (by rw [tl];exact (List.getElem?_eq_some_iff.1 hq).1),if_pos (by omega)]⟩
   ·obtain ⟨B2,h2⟩:=tp j r hj
    refine ⟨B2,?_⟩
    rw [List.getElem?_set_ne (fun e=>hji e.symm),h2]
    by_cases hlt':j<i
    ·rw [if_pos hlt',if_pos (by omega)]
    ·rw [if_neg hlt',if_neg (by omega)]⟩
  have b46:Blk h6 n4 #[.int .i64 (i7 E (Z.take i):Int)] eX:=o6.block v.b4 (by omega)
  refine cC b46 (by simp) fun h7 b47 o7 s7=>?_
  have z7:=keepZ z6' o7 fun bb e=>.inr (by subst e;exact iw b46 wb)
  have no7:∀ m,m≠q.p->m≠n4->∀ y,h5[m]?=some y->h7[m]?=some y:=fun m h1 h2 y hy=>o7.block (o6.block hy h1) h2
  have so7:cX R h h7:=by
   have a1:cX R h5 h6:=so6.mono fun m hm e=>⟨e.1.1,e.2⟩
   exact bI.trans (v.so.trans a1) o7 fun m hm e=>by omega
  have o57:bI (fun m=>m=q.p∨m=n4) h5 h7:=(o6.mono fun _ _ e=>.inl e).trans o7 fun _ _ e=>.inr e
  have q2':aU h7 o jt 1 ((jw E (Z.take i)).flatMap cT):=q2.only o57 fun m hm e=>by have:=q3 m hm;omega
  have sq7:P.pB h7 ka ma b r (kv Z):=v.sq.only o57 fun m hm e=>by
   have:=lq m hm
   rcases e with e | e <;> omega
  have x7:h7[hL.size+1]?=some X:=no7 _ (by omega) (by omega) _ hx
  have d7:h7[hL.size]?=some (.deferred (some [])):=no7 _ (by omega) (by omega) _ v.dfr
  have x72:Blk h7 n2 #[held.enc] eW:=no7 _ (by omega) (by omega) _ v.b2
  have x77:Blk h7 n7 #[o.enc] dE:=no7 _ (by omega) (by omega) _ q1
  have sz7:h5.size<=h7.size:=o57.size
  have hmem7:(⟨q.c,C.bF q.vs E,q.p,B'⟩:Rec)∈Zi.set i ⟨q.c,C.bF q.vs E,q.p,B'⟩:=List.mem_of_getElem? (List.getElem?_set_self (by rw [tl];exact (List.getElem?_eq_some_iff.1 hq).1))
  have ch7:C.Ch h7 q.p (C.bF q.vs E) B':=z7.ch ⟨q.c,C.bF q.vs E,q.p,B'⟩ hmem7
  refine C.ur ch7 ⟨fun g=>?_,fun g=>?_⟩
  ·have h0:((C.bF q.vs E).length:Int)=0:=by simpa using g
   have hnil:C.bF q.vs E=[]:=List.eq_nil_of_length_eq_zero (by omega)
   refine dJ (Blk.cell (i:=0) x77 rfl) (dT fun n14 h14 hn14 b14 e14 s14=>?_)
   have hel:(jw E (Z.take i)).length<=1048576:=by
    unfold jw
    have:=List.length_filter_le (fun r:Rec=>(C.bF r.vs E).isEmpty) (Z.take i)
    rw [List.length_map]
    rw [List.length_take] at this
    omega
   refine fI (L:=jw E (Z.take i)) (M:=[fG q.c]) i4 (by omega) ph (q2'.ext e14) (dB b14 rfl) (fun x=>de rfl) (by simp only [List.length_singleton];omega) fun r15 h15 w15 o15 n15=>?_
   have x14:Blk h14 n7 #[o.enc] dE:=e14.block x77 fun f=>f
   have hob:o.blk≠some n7:=fun e=>by have:=q3 _ e;omega
   have x15:Blk h15 n7 #[o.enc] dE:=o15.block x14 hob
   refine cC x15 (by simp) fun h16 b16 o16 s16=>?_
   have r15n:∀ y,r15.blk=some y->hL.size+2<=y:=fun y hy=>by
    rcases n15 with n15 | ⟨y',n15,n16⟩
    ·exact q3 y (by rw [← n15];exact hy)
    ·rw [n15] at hy;cases hy
     have:=e14.size;omega
   have o14:bI (fun m=>o.blk=some m∨m=n7) h14 h16:=(o15.mono fun _ _ e=>.inl e).trans o16 fun _ _ e=>.inr e
   have o716:bI (fun m=>o.blk=some m∨m=n7) h7 h16:=(e14.only (S:=fun m=>o.blk=some m∨m=n7)).trans o14 fun _ _ e=>e
   have no:∀ m,m<=hL.size+1->m≠n7->¬ (o.blk=some m∨m=n7):=fun m hm hne e=>by
    rcases e with e | e
    ·have:=q3 m e;omega
    ·exact hne e
   have so16:cX R h h16:=bI.trans so7 o716 fun m hm e=>by
    rcases e with e | e
    ·have:=q3 m e;omega
    ·omega
   refine kK h16 ⟨so16,o716.block x72 (no _ (by omega) d27),o716.block b47 (no _ (by omega) d47),⟨r15,b16,?_,r15n⟩,sq7.only o716 fun m hm=>no m (by have:=lq m hm;omega) (lq m hm).2.2.1,o716.block d7 (no _ (by omega) (by omega)),by have:=o716.size;omega,⟨_,keepZ z7 o716 fun bb e=>.inr ?_,tp6⟩,lts⟩ (o716.block x7 (no _ (Nat.le_refl _) (by omega)))
   ·rw [qz E hq,if_pos (by rw [hnil];rfl)]
    exact w15.only o16 fun m hm e=>by have:=r15n m hm;omega
   ·rcases e with e | e
    ·obtain ⟨c,hc⟩:=q2'.typ e
     exact iw hc Dh
    ·subst e;exact iw x77 AG
  ·have hne:(C.bF q.vs E).isEmpty=false:=by
    cases hp:C.bF q.vs E with
    | nil=>rw [hp] at g;simp at g
    | cons a b=>rfl
   refine kK h7 ⟨so7,x72,b47,⟨o,x77,?_,q3⟩,sq7,d7,by omega,⟨_,z7,tp6⟩,lts⟩ x7
   rw [qz E hq,hne]
   simpa using q2'
 ·obtain ⟨l2,l4,l7,g2,g4,g7,d24,d27,d47,lq⟩:=v.lt
  obtain ⟨o,q1,q2,q3⟩:=v.b7
  obtain ⟨Zn,zn,tl,tp⟩:=v.z
  rw [jq,List.take_length] at q2
  have b4:=v.b4
  rw [jq,List.take_length] at b4
  rw [jq] at tp
  have hek:jw E Z=((Z.filter fun r=>(C.bF r.vs E).isEmpty).map fun r=>r.c).map fG:=by unfold jw;rw [List.map_map];rfl
  rw [hek] at q2
  have hlo:=bH i4 (by omega) q2
  rw [List.length_map] at hlo
  have so5:=v.so.size
  refine dJ (Blk.cell (i:=0) q1 rfl) ⟨((Z.filter fun r:Rec=>(C.bF r.vs E).isEmpty).map fun r=>r.c).length+1,?_⟩
  rw [hlo]
  have hfl:=List.length_filter_le (fun r:Rec=>(C.bF r.vs E).isEmpty) Z
  have zR:=zn.turn (W':=WP) (R':=R) (fun r hr hw=>hw) fun b hb hr=>hr.1
  refine yk (hb:=h') (fun c hc=>?_) (by rw [List.length_map];omega) (fun bb hb=>hR bb (by omega)) _ 0 h' rs es T Zn (by omega) (by omega) zR q2 (Nat.le_refl _) fun h2 rs2 es2 T2 z2 so2=>?_
  ·obtain ⟨r',hr',rfl⟩:=List.mem_map.1 hc
   exact (z.wf r' (List.mem_filter.1 hr').1).1
  ·rw [List.drop_zero] at z2
   unfold F.xcj.l1
   refine ⟨fun g=>by have:=of_decide_eq_true g;omega,fun _=>?_⟩
   simp only [aZ,aC,Nat.zero_add,Nat.add_zero]
   have b42:Blk h2 n4 #[.int .i64 (i7 E Z:Int)] eX:=so2.block b4 fun hs=>iw b4 wb hs.2
   rw [bA z2.cs0,bA (Blk.cell (i:=0) b42 rfl)]
   rw [hZS] at z2 ⊢
   rw [hZS] at hus
   rw [w64 (by omega) (by omega)]
   refine z2.st0 fun h3 z3 so3=>?_
   have b43:Blk h3 n4 #[.int .i64 (i7 E Z:Int)] eX:=so3.block b42 fun hs=>iw b42 wb hs.2
   rw [bA (Blk.cell (i:=0) b43 rfl)]
   have nd:∀ {hh:H},hh[hL.size]?=some (.deferred (some []))->¬ lw hh hL.size:=fun hd ⟨e,_,c,h2⟩=>by
    have:=hd.symm.trans h2
    simp at this
   have d2:=so2.block v.dfr fun hs=>nd v.dfr hs.2
   have d3:=so3.block d2 fun hs=>nd d2 hs.2
   refine xG d3 fun h9 o9=>?_
   have z9:SZG WP h9 n tn rs2 es2 T2 _ slots R _ _:=z3.keep o9 fun b hb ht e=>by subst e;exact nd d3 ht
   have so9:cX R h h9:=bI.trans ((v.so.trans so2).trans so3) o9 fun m hm e=>by have:=e0L.size;omega
   -- what is left
   have hidx:∀ x∈Zn,∃ q∈Z,x.c=q.c∧x.vs=C.bF q.vs E:=fun x hx=>by
    obtain ⟨j,hj⟩:=List.mem_iff_getElem?.1 hx
    have hjl:=(List.getElem?_eq_some_iff.1 hj).1
    obtain ⟨q,hq⟩:∃ q,Z[j]?=some q:=⟨_,List.getElem?_eq_getElem (by omega)⟩
    obtain ⟨B,hB⟩:=tp j q hq
    rw [hj,if_pos (by omega)] at hB
    cases hB
    exact ⟨q,List.mem_of_getElem? hq,rfl,rfl⟩
   have htoS:toS Zn=(toS Z).map fun x=>(x.1,C.bF x.2 E):=by
    apply List.ext_getElem?
    intro j
    unfold toS
    rw [List.map_map,List.getElem?_map,List.getElem?_map]
    cases hq:Z[j]? with
    | none =>
     have:Zn[j]?=none:=by rw [List.getElem?_eq_none_iff] at hq ⊢;omega
     rw [this];rfl
    | some q =>
     obtain ⟨B,hB⟩:=tp j q hq
     rw [if_pos (by have:=(List.getElem?_eq_some_iff.1 hq).1;omega)] at hB
     rw [hB];rfl
   have hout:qR ((Z.filter fun r:Rec=>(C.bF r.vs E).isEmpty).map fun r=>r.c) Zn=Zn.filter fun r:Rec=>!r.vs.isEmpty:=by
    unfold qR
    refine List.filter_congr fun x hx=>?_
    obtain ⟨q,hq,h1,h2⟩:=hidx x hx
    rw [h2]
    cases he:(C.bF q.vs E).isEmpty with
    | true =>
     have:¬ ∀ c∈(Z.filter fun r:Rec=>(C.bF r.vs E).isEmpty).map (fun r=>r.c),bZ x.c c≠0:=fun hall=>hall q.c (List.mem_map.2 ⟨q,List.mem_filter.2 ⟨hq,he⟩,rfl⟩) (by rw [h1];exact eC _)
     rw [decide_eq_false this];rfl
    | false =>
     have:∀ c∈(Z.filter fun r:Rec=>(C.bF r.vs E).isEmpty).map (fun r=>r.c),bZ x.c c≠0:=fun c hc h0=>by
      obtain ⟨q',hq',rfl⟩:=List.mem_map.1 hc
      obtain ⟨m1,m2⟩:=List.mem_filter.1 hq'
      have hcc:=(dq.1 h0).symm.trans h1
      have g1:=gm z.srt m1
      have g2:=gm z.srt hq
      rw [hcc,g2] at g1
      cases g1
      rw [he] at m2;cases m2
     rw [decide_eq_true this];rfl
   rw [hout] at z9
   have hS':toS (Zn.filter fun r:Rec=>!r.vs.isEmpty)=dp S E:=by
    rw [← hZS]
    unfold dp
    rw [← htoS]
    unfold toS
    rw [List.filter_map];rfl
   have zz:SZ h9 n tn rs2 es2 T2 _ slots R _ _:=z9.turn (W':=VOk) (R':=R) (fun x hx hw=>by
    obtain ⟨m1,m2⟩:=List.mem_filter.1 hx
    obtain ⟨q,hq,h1,h2⟩:=hidx x m1
    rw [h2] at m2 ⊢
    exact u4 (hvok q hq) E fun e=>by rw [e] at m2;cases m2) fun b hb hr=>hr
   have hdiff:((i7 E Z:Nat):Int)=(aR S:Int)-aR (dp S E):=by omega
   rw [hdiff]
   refine k h9 ⟨tn,rs2,es2,T2,_,hS',?_⟩ so9
   rw [hS',hsum.2]
   have:(aR S:Int)-(i7 E Z:Int)=aR (dp S E):=by omega
   rw [this] at zz
   exact zz
abbrev mJ (v:Int):ag:=⟨1,v,v,v⟩
theorem uX {h:H}{v:Int}{Q:ag->H->Prop}(k:∀ h',Ext h h'->Q (mJ v) h'):F.xeb v h Q:=by
 unfold F.xeb
 refine aN fun m h1 hm b1 e1 s1=>?_
 have b1':Blk h1 m zA.cells.toArray cf:=b1
 exact C.eK b1' (d:=mJ v) fun h2 b2 o2 s2=>⟨_,b2.cells,k h2 (e1.step o2 fun x hx hb=>by omega)⟩
theorem yL (a b c:Int):lW ⟨1,a,b,c⟩ (decide (b=a∧c=a)):=fun h Q k=>by
 unfold F.xca
 refine aN fun m h1 hm b1 e1 s1=>?_
 have c0:aA h1 ⟨m,0,none⟩=some (.int .i64 1):=Blk.cells b1 0 _ rfl
 have c1:aA h1 ⟨m,1,none⟩=some (.int .i64 a):=Blk.cells b1 1 _ rfl
 have c2:aA h1 ⟨m,2,none⟩=some (.int .i64 b):=Blk.cells b1 2 _ rfl
 have c3:aA h1 ⟨m,3,none⟩=some (.int .i64 c):=Blk.cells b1 3 _ rfl
 simp only [aC,Nat.zero_add,Nat.add_zero]
 rw [bA c0]
 refine ⟨fun g=>by have:=of_decide_eq_true g;omega,fun _=>?_⟩
 rw [bA c0]
 refine ⟨fun _=>?_,fun g=>by simp at g⟩
 rw [bA c2,bA c1]
 have k:=k h1 e1
 refine ⟨fun g=>?_,fun g=>?_⟩
 ·have g:b=a:=by simpa using g
  rw [bA c3,bA c1]
  have:decide (b=a∧c=a)=(c == a):=by
   by_cases h:c=a <;> simp [g,h]
  rw [this] at k;exact k
 ·have g:¬ b=a:=by simpa using g
  have:decide (b=a∧c=a)=false:=by simp [g]
  rw [this] at k;exact k
theorem q8 (v:Int):lW (mJ v) true:=by
 have:=yL v v v
 simpa using this
theorem zr {a b:ag}:((a.Count == b.Count) && ((a.Sum == b.Sum) && ((a.Min == b.Min) && ((a.Max == b.Max) && true))))=true↔a=b:=by
 obtain ⟨a1,a2,a3,a4⟩:=a
 obtain ⟨b1,b2,b3,b4⟩:=b
 simp [and_assoc]
abbrev cA:Cel:=⟨0,⟨#[97]⟩,0⟩
theorem sR {h:H}{s:Sl}{A:List Rw}(rd:bS h s 7 (A.flatMap cW)){i:Nat}{x:Rw}(hx:A[i]?=some x){K:Addr->Prop}(k:∀ a,Cells h a (cW x)->K a):bD s (i:Int) 7 K:=by
 obtain ⟨p,p1,p2,p3⟩:=gw dy (by omega) rd hx
 have hl:=cz dy (by omega) rd
 exact dK (i:=i) p1 (by have:=(List.getElem?_eq_some_iff.1 hx).1;omega) rfl (k _ p3)
theorem Dc {x y:Rw}:((((x.Cell.View == y.Cell.View) && ((x.Cell.Key.toList == y.Cell.Key.toList) && ((x.Cell.Start == y.Cell.Start) && true)))) && ((((x.Agg.Count == y.Agg.Count) && ((x.Agg.Sum == y.Agg.Sum) && ((x.Agg.Min == y.Agg.Min) && ((x.Agg.Max == y.Agg.Max) && true))))) && true))=true↔x=y:=by
 obtain ⟨⟨a1,⟨⟨a2⟩⟩,a3⟩,⟨a4,a5,a6,a7⟩⟩:=x
 obtain ⟨⟨b1,⟨⟨b2⟩⟩,b3⟩,⟨b4,b5,b6,b7⟩⟩:=y
 simp [dF,and_assoc]
theorem ed {α:Type}{L:List α}{i:Nat}{x:α}(h:L[i]?=some x):L.take (i+1)=L.take i ++ [x]:=by
 obtain ⟨h1,h2⟩:=List.getElem?_eq_some_iff.1 h
 rw [List.take_succ_eq_append_getElem h1,h2]
theorem ms {h:H}{r s:Sl}{A C:List Rw}{Q:Bool->H->Prop}(ra:bS h r 7 (A.flatMap cW)) (rc:bS h s 7 (C.flatMap cW)) (hs:A.length<4000000) (kt:A=C->Q true h) (kf:A≠C->Q false h):F.xcn r s h Q:=by
 have la:=cz dy (by omega) ra
 have lc:=cz dy (by omega) rc
 unfold F.xcn
 rw [la,lc]
 refine ⟨fun gg=>kf fun e=>by rw [e] at gg;simp at gg,fun gg=>⟨A.length+1,?_⟩⟩
 have hl:A.length=C.length:=by simp at gg;omega
 have key:∀ (d i:Nat),i<=A.length->A.length-i<d->A.take i=C.take i->F.xcn.l1 Q d r s (i:Int) h:=by
  intro d
  induction d with
  | zero=>intro i _ hm;omega
  | succ d ih =>
   intro i hi hm he
   unfold F.xcn.l1
   simp only [decide_eq_true_eq,decide_eq_false_iff_not]
   rw [la]
   refine ⟨fun gg=>?_,fun gg=>?_⟩
   ·obtain ⟨x,hx⟩:∃ x,A[i]?=some x:=⟨_,List.getElem?_eq_getElem (by omega)⟩
    obtain ⟨y,hy⟩:∃ y,C[i]?=some y:=⟨_,List.getElem?_eq_getElem (by omega)⟩
    refine sR ra hx fun a ca=>⟨x,ca,sR rc hy fun a' ca'=>⟨y,ca',?_⟩⟩
    have hrow:=Dc (x:=x) (y:=y)
    refine ⟨fun g2=>kf fun e=>?_,fun g2=>?_⟩
    ·have:x=y:=by rw [e] at hx;rw [hx] at hy;exact Option.some.inj hy
     rw [hrow.2 this] at g2;cases g2
    ·have hxy:x=y:=hrow.1 (by simpa using g2)
     rw [fM (by omega)]
     refine ih (i+1) (by omega) (by omega) ?_
     rw [ed hx,ed hy,he,hxy]
   ·have:i=A.length:=by omega
    subst this
    rw [List.take_length] at he
    exact kt (by rw [he,hl,List.take_length])
 exact key _ 0 (by omega) (by omega) (by simp)
structure St where
 x:fP
 E:List Int
 C:List Cel
structure DK (h:H) (y:St):Prop where
 re:bS h y.x.Held 1 (y.E.flatMap cI)
 be:y.E≠[]->∀ b,y.x.Held.blk=some b->b<h.size
 oe:∀ e∈y.E,-9223372036854775808<=e∧e<9223372036854775808
 rc:bS h y.x.Cells 3 (y.C.flatMap ae.cells)
 bc:y.C≠[]->∀ b,y.x.Cells.blk=some b->b<h.size
 oc:∀ c∈y.C,(-9223372036854775808<=c.View∧c.View<9223372036854775808)∧(-9223372036854775808<=c.Start∧c.Start<9223372036854775808)∧c.Key.size<=maxLen
 k64:-9223372036854775808<=y.x.Kind∧y.x.Kind<9223372036854775808
 e64:-9223372036854775808<=y.x.Epoch∧y.x.Epoch<9223372036854775808
 m64:-9223372036854775808<=y.x.Most∧y.x.Most<9223372036854775808
 cel:(-9223372036854775808<=y.x.Cell.View∧y.x.Cell.View<9223372036854775808)∧(-9223372036854775808<=y.x.Cell.Start∧y.x.Cell.Start<9223372036854775808)∧y.x.Cell.Key.size<=maxLen
 agg:(-9223372036854775808<=y.x.Agg.Count∧y.x.Agg.Count<9223372036854775808)∧(-9223372036854775808<=y.x.Agg.Sum∧y.x.Agg.Sum<9223372036854775808)∧(-9223372036854775808<=y.x.Agg.Min∧y.x.Agg.Min<9223372036854775808)∧(-9223372036854775808<=y.x.Agg.Max∧y.x.Agg.Max<9223372036854775808)
 too:(-9223372036854775808<=y.x.To.View∧y.x.To.View<9223372036854775808)∧(-9223372036854775808<=y.x.To.Start∧y.x.To.Start<9223372036854775808)∧y.x.To.Key.size<=maxLen
open Go Go.Proofs.YtjjchpaomgmmdaaGreat.V Go.Proofs.YtjjchpaomgmmdaaGreat.V.M
section
variable {α:Type}{key:α->Cel}
theorem oU {S:List α}(hs:fA key S):S.Pairwise (·≠·):=hs.imp fun h e=>by subst e;rw [eC] at h;cases h
theorem kA:∀ {A B:List α},fA key A->fA key B->(∀ x,x∈A↔x∈B)->A=B
 | [],[],_,_,_=>rfl
 | [],b :: B,_,_,h=>by have:=(h b).2 (List.mem_cons_self ..);cases this
 | a :: A,[],_,_,h=>by have:=(h a).1 (List.mem_cons_self ..);cases this
 | a :: A,b :: B,ha,hb,h=>by
  have ha':=List.pairwise_cons.1 ha
  have hb':=List.pairwise_cons.1 hb
  have hab:a=b:=by
   rcases List.mem_cons.1 ((h a).1 (List.mem_cons_self ..)) with h1 | h1
   ·exact h1
   ·rcases List.mem_cons.1 ((h b).2 (List.mem_cons_self ..)) with h2 | h2
    ·exact h2.symm
    ·have e1:=hb'.1 a h1
     have e2:=ha'.1 b h2
     rw [dR,e2] at e1;cases e1
  subst hab
  have hA:a∉A:=fun hm=>by have:=ha'.1 a hm;rw [eC] at this;cases this
  have hB:a∉B:=fun hm=>by have:=hb'.1 a hm;rw [eC] at this;cases this
  rw [kA ha'.2 hb'.2 fun x=>⟨fun hx=>?_,fun hx=>?_⟩]
  ·rcases List.mem_cons.1 ((h x).1 (List.mem_cons_of_mem _ hx)) with h1 | h1
   ·subst h1;exact absurd hx hA
   ·exact h1
  ·rcases List.mem_cons.1 ((h x).2 (List.mem_cons_of_mem _ hx)) with h1 | h1
   ·subst h1;exact absurd hx hB
   ·exact h1
end
def rt (n:Nat) (c:Cel):Nat:=nB c.Key % n
theorem po {n:Nat}(h:0<n) (c:Cel):rt n c<n:=Nat.mod_lt _ h
def bR (n k:Nat) (S:SL):SL:=S.filter fun x=>decide (rt n x.1=k)
theorem iS {n k:Nat}{S:SL}{x:Cel×List Ver}:x∈bR n k S↔x∈S∧rt n x.1=k:=by unfold bR;rw [List.mem_filter];simp
theorem BH {n k:Nat}{S:SL}(h:SOk S):SOk (bR n k S):=⟨List.Pairwise.filter _ h.sort,fun x hx=>h.ok x (iS.1 hx).1⟩
theorem Av {n k:Nat}{S:SL}:(bR n k S).length<=S.length:=List.length_filter_le _ _
theorem mg {S:SL}(h:gI S) (c:Cel) (vs:List Ver):gI (oS S c vs):=lP (key:=fun x:Cel×List Ver=>x.1) h
theorem nM {n k:Nat}{S:SL}(h:gI S) (c:Cel) (vs:List Ver):bR n k (oS S c vs)=if rt n c=k then oS (bR n k S) c vs else bR n k S:=by
 have hp:gI (bR n k S):=List.Pairwise.filter _ h
 have hq:gI (bR n k (oS S c vs)):=List.Pairwise.filter _ (mg h c vs)
 have hm:∀ x,x∈bR n k (oS S c vs)↔(x=(c,vs)∨(x∈S∧x.1≠c))∧rt n x.1=k:=fun x=>by rw [iS,jQ (key:=fun x:Cel×List Ver=>x.1) h]
 split
 ·rename_i hc
  refine kA (key:=fun x:Cel×List Ver=>x.1) hq (mg hp c vs) fun x=>?_
  rw [hm,jQ (key:=fun x:Cel×List Ver=>x.1) hp,iS]
  constructor
  ·rintro ⟨h1 | h1,h2⟩
   ·exact .inl h1
   ·exact .inr ⟨⟨h1.1,h2⟩,h1.2⟩
  ·rintro (h1 | h1)
   ·subst h1;exact ⟨.inl rfl,hc⟩
   ·exact ⟨.inr ⟨h1.1.1,h1.2⟩,h1.1.2⟩
 ·rename_i hc
  refine kA (key:=fun x:Cel×List Ver=>x.1) hq hp fun x=>?_
  rw [hm,iS]
  constructor
  ·rintro ⟨h1 | h1,h2⟩
   ·subst h1;exact absurd h2 hc
   ·exact ⟨h1.1,h2⟩
  ·rintro ⟨h1,h2⟩
   exact ⟨.inr ⟨h1,fun e=>hc (by rw [← e];exact h2)⟩,h2⟩
theorem nL {n:Nat}{S:SL}(c:Cel):cx (bR n (rt n c) S) c=cx S c:=by
 unfold cx dI bR
 rw [List.find?_filter]
 congr 2
 funext x
 by_cases h:bZ x.1 c=0
 ·have:=dq.1 h
  simp [this,eC]
 ·simp [h]
theorem tV {n:Nat}{S:SL}(c:Cel) (e:Int):atS (bR n (rt n c) S) c e=atS S c e:=by unfold atS;rw [nL]
theorem oP {n:Nat}{S:SL}(c:Cel) (e:Int):gn (bR n (rt n c) S) e c=gn S e c:=by unfold gn;rw [nL]
theorem mM {n k:Nat}{S:SL}(e:Int) (fr to:Cel):cy (bR n k S) e fr to=(cy S e fr to).filter fun r=>decide (rt n r.Cell=k):=by
 unfold cy bR
 rw [List.filter_map,List.filter_filter,List.filter_filter]
 congr 2
 funext x
 simp only [Function.comp,wE]
 exact Bool.and_comm _ _
abbrev jZ (X:List aO):Prop:=fA (fun r:aO=>r.Cell) X
theorem qX {S:SL}(h:SOk S) (e:Int) (fr to:Cel):jZ (cy S e fr to):=by
 unfold cy jZ fA
 rw [List.pairwise_map]
 exact List.Pairwise.filter _ h.sort
theorem pq {α:Type}{X:List α}{m:Nat}{q:α->Bool}{x:α}(hx:x∈X.take m) (hq:q x=true):x∈(X.filter q).take m:=by
 have e:X.filter q=(X.take m).filter q ++ (X.drop m).filter q:=by rw [← List.filter_append,List.take_append_drop]
 rw [e,List.take_append]
 refine List.mem_append_left _ ?_
 rw [List.take_of_length_le (Nat.le_trans (List.length_filter_le _ _) (by rw [List.length_take];omega))]
 exact List.mem_filter.2 ⟨hx,hq⟩
theorem pi {α:Type}{X:List α}{m:Nat}{p:α->Bool}(h:∀ x∈X.take m,p x=true):(X.filter p).take m=X.take m:=by
 have e:X.filter p=X.take m ++ (X.drop m).filter p:=by
  conv=>lhs;rw [← List.take_append_drop m X,List.filter_append]
  rw [List.filter_eq_self.2 h]
 rw [e,List.take_append]
 by_cases hm:m<=X.length
 ·rw [show m-(X.take m).length=0 by rw [List.length_take];omega,List.take_zero,List.append_nil,List.take_take,Nat.min_self]
 ·rw [List.drop_eq_nil_of_le (by omega),List.filter_nil,List.take_nil,List.append_nil,List.take_take,Nat.min_self]
theorem Af {Ls:List (List aO)}{x:aO}:x∈mR Ls↔∃ l∈Ls,x∈l:=by
 unfold mR kU
 induction Ls with
 | nil=>simp
 | cons l Ls ih=>rw [List.foldr_cons,List.mem_merge,ih];simp
theorem yA (a b c:aO) (h1:leC a b=true) (h2:leC b c=true):leC a c=true:=by
 unfold leC at *
 exact decide_eq_true (pe (of_decide_eq_true h1) (of_decide_eq_true h2))
theorem yz (a b:aO):(leC a b || leC b a)=true:=by
 unfold leC
 have:=dR a.Cell b.Cell
 have:=cZ a.Cell b.Cell
 simp only [Bool.or_eq_true,decide_eq_true_eq]
 omega
theorem BC {Ls:List (List aO)}(h:∀ l∈Ls,l.Pairwise fun a b=>leC a b=true):(mR Ls).Pairwise fun a b=>leC a b=true:=by
 unfold mR kU
 induction Ls with
 | nil=>simp
 | cons l Ls ih =>
  rw [List.foldr_cons]
  exact List.pairwise_merge yA yz _ _ (h l (List.mem_cons_self ..)) (ih fun x hx=>h x (List.mem_cons_of_mem _ hx))
theorem sG:∀ Ls:List (List aO),(mR Ls).Perm Ls.flatten
 | []=>.refl _
 | l :: Ls=>by
  unfold mR kU
  rw [List.foldr_cons,List.flatten_cons]
  exact (List.merge_perm_append leC).trans ((sG Ls).append_left l)
theorem BX {X:List aO}(h:jZ X):X.Pairwise fun a b=>leC a b=true:=h.imp fun hh=>by unfold leC;rw [hh];rfl
theorem AC {X:List aO}(hX:jZ X){n:Nat}(hn:0<n) (m:Nat):(mR ((List.range n).map fun k=>(X.filter fun r=>decide (rt n r.Cell=k)).take m)).take m=X.take m:=by
 classical
 generalize hL:((List.range n).map fun k=>(X.filter fun r=>decide (rt n r.Cell=k)).take m)=Ls
 have hmem:∀ x,x∈mR Ls↔∃ k,k<n∧x∈(X.filter fun r=>decide (rt n r.Cell=k)).take m:=fun x=>by
  rw [Af,← hL]
  constructor
  ·rintro ⟨l,hl,hx⟩
   obtain ⟨k,hk,rfl⟩:=List.mem_map.1 hl
   exact ⟨k,List.mem_range.1 hk,hx⟩
  ·rintro ⟨k,hk,hx⟩
   exact ⟨_,List.mem_map.2 ⟨k,List.mem_range.2 hk,rfl⟩,hx⟩
 have sub:∀ x,x∈mR Ls->x∈X:=fun x hx=>by
  obtain ⟨k,_,hk⟩:=(hmem x).1 hx
  exact (List.mem_filter.1 (List.mem_of_mem_take hk)).1
 -- nothing stands in it twice
 have nd:(mR Ls).Nodup:=by
  refine (sG Ls).nodup_iff.2 ?_
  unfold List.Nodup
  rw [List.pairwise_flatten]
  refine ⟨fun l hl=>?_,?_⟩
  ·rw [← hL] at hl
   obtain ⟨k,_,rfl⟩:=List.mem_map.1 hl
   exact List.Pairwise.sublist ((List.take_sublist _ _).trans List.filter_sublist) (oU hX)
  ·rw [← hL,List.pairwise_map]
   refine List.Pairwise.imp ?_ List.nodup_range
   intro a b hab
   refine fun x h1 y h2 he=>hab ?_
   subst he
   have h1:=(List.mem_filter.1 (List.mem_of_mem_take h1)).2
   have h2:=(List.mem_filter.1 (List.mem_of_mem_take h2)).2
   rw [decide_eq_true_eq] at h1 h2
   rw [← h1,← h2]
 have inj:∀ a b,a∈X->b∈X->a.Cell=b.Cell->a=b:=fun a b ha hb he=>by
  have h1:=gm (key:=fun r:aO=>r.Cell) hX ha
  have h2:=gm (key:=fun r:aO=>r.Cell) hX hb
  rw [he] at h1
  rw [h1] at h2
  exact Option.some.inj h2
 have srt:jZ (mR Ls):=by
  have h1:(mR Ls).Pairwise fun a b=>leC a b=true:=BC fun l hl=>by
   rw [← hL] at hl
   obtain ⟨k,_,rfl⟩:=List.mem_map.1 hl
   exact List.Pairwise.sublist ((List.take_sublist _ _).trans List.filter_sublist) (BX hX)
  have h2:=List.Pairwise.and h1 nd
  refine h2.imp_of_mem ?_
  intro a b ha hb ⟨hl,hne⟩
  have hl:bZ a.Cell b.Cell<=0:=of_decide_eq_true hl
  rcases cZ a.Cell b.Cell with h | h | h
  ·exact h
  ·exact absurd (inj a b (sub a ha) (sub b hb) (dq.1 h)) hne
  ·omega
 have hf:mR Ls=X.filter fun r=>decide (r∈mR Ls):=by
  refine kA (key:=fun r:aO=>r.Cell) srt (List.Pairwise.filter _ hX) fun x=>?_
  rw [List.mem_filter,decide_eq_true_eq]
  exact ⟨fun h=>⟨sub x h,h⟩,fun h=>h.2⟩
 rw [hf]
 refine pi fun x hx=>decide_eq_true ((hmem x).2 ⟨rt n x.Cell,po hn _,pq hx (decide_eq_true rfl)⟩)
theorem vl {f:Nat->Nat}:∀ n,(∀ k,k<n->f k=0)->((List.range n).map f).sum=0
 | 0,_=>rfl
 | n+1,h=>by rw [List.range_succ,List.map_append,List.sum_append,vl n fun k hk=>h k (by omega)];simp [h n (by omega)]
theorem xH {f g:Nat->Nat}{j d:Nat}:∀ n,(∀ k,k<n->f k=g k+if k=j then d else 0)->j<n->((List.range n).map f).sum=((List.range n).map g).sum+d
 | 0,_,h=>by omega
 | n+1,h,hj=>by
  rw [List.range_succ,List.map_append,List.sum_append,List.map_append,List.sum_append]
  by_cases hn:j<n
  ·rw [xH n (fun k hk=>h k (by omega)) hn]
   have:=h n (by omega)
   rw [if_neg (by omega)] at this
   simp [this];omega
  ·have hjn:j=n:=by omega
   have e:(List.range n).map f=(List.range n).map g:=List.map_congr_left fun k hk=>by
    have hk:=List.mem_range.1 hk
    rw [h k (by omega),if_neg (by omega)];rfl
   have:=h n (by omega)
   rw [if_pos hjn.symm] at this
   simp [e,this];omega
theorem iy {n k:Nat}{x:Cel×List Ver}{S:SL}:bR n k (x :: S)=if rt n x.1=k then x :: bR n k S else bR n k S:=by
 unfold bR;rw [List.filter_cons]
 by_cases h:rt n x.1=k <;> simp [h]
theorem oX {n:Nat}(hn:0<n) (f:Cel×List Ver->Nat):∀ S:SL,((List.range n).map fun k=>((bR n k S).map f).sum).sum=(S.map f).sum
 | []=>vl n fun k _=>rfl
 | x :: S=>by
  rw [xH (g:=fun k=>((bR n k S).map f).sum) (j:=rt n x.1) (d:=f x) n (fun k hk=>?_) (po hn _),oX hn f S,List.map_cons,List.sum_cons]
  ·omega
  ·show ((bR n k (x :: S)).map f).sum=((bR n k S).map f).sum+if k=rt n x.1 then f x else 0
   rw [iy]
   by_cases h:rt n x.1=k
   ·rw [if_pos h,if_pos h.symm,List.map_cons,List.sum_cons];omega
   ·rw [if_neg h,if_neg (fun e=>h e.symm)];rfl
theorem pw {n:Nat}(hn:0<n) (S:SL):((List.range n).map fun k=>ck (bR n k S)).sum=ck S:=oX hn _ S
theorem xj:∀ (L:List Nat) (a b:Nat),L.foldl max a<=b↔a<=b∧∀ x∈L,x<=b
 | [],a,b=>by simp
 | y :: L,a,b=>by
  rw [List.foldl_cons,xj L (max a y) b]
  simp only [List.mem_cons,forall_eq_or_imp]
  rw [Nat.max_le,and_assoc]
theorem pV {L:List Nat}{b:Nat}:kw L<=b↔∀ x∈L,x<=b:=by
 unfold kw;rw [xj];simp
theorem qL {n:Nat}(hn:0<n) (S:SL):kw ((List.range n).map fun k=>gp (bR n k S))=gp S:=by
 have key:∀ b,kw ((List.range n).map fun k=>gp (bR n k S))<=b↔gp S<=b:=fun b=>by
  unfold gp
  rw [pV,pV]
  constructor
  ·intro h x hx
   obtain ⟨y,hy,rfl⟩:=List.mem_map.1 hx
   have:=pV.1 (h _ (List.mem_map.2 ⟨rt n y.1,List.mem_range.2 (po hn _),rfl⟩)) y.2.length (List.mem_map.2 ⟨y,iS.2 ⟨hy,rfl⟩,rfl⟩)
   exact this
  ·intro h x hx
   obtain ⟨k,hk,rfl⟩:=List.mem_map.1 hx
   exact pV.2 fun z hz=>by
    obtain ⟨y,hy,rfl⟩:=List.mem_map.1 hz
    exact h _ (List.mem_map.2 ⟨y,(iS.1 hy).1,rfl⟩)
 exact Nat.le_antisymm ((key _).2 (Nat.le_refl _)) ((key _).1 (Nat.le_refl _))
end Go.Proofs.YtjjchpaomgmmdaaGreat.V.S
namespace Go.Proofs.YtjjchpaomgmmdaaGreat.V
open Go
set_option linter.unusedVariables false
set_option linter.unusedSimpArgs false
section
variable {T:Type}{P:Program}{enc:TypeId×Value->T}{w:World}{base:Nat}{spare:Nat->Bool}{held:Bool}{fuel:Nat}
theorem mZ {a:Addr}{n:Nat}{cs:List Value}(h:w.cells? base a n=some cs):cs.length=n∧∀ j v,cs[j]?=some v->w.cell? (a.add j)=some v:=by
 obtain ⟨h1,h2,h3⟩:=World.cells?_some h
 refine ⟨h2,fun j v hv=>?_⟩
 have hj:j<n:=by rw [← h2];exact (List.getElem?_eq_some_iff.1 hv).1
 rw [h3 j hj,hv]
theorem wl {t e:TypeId}{k:Nat}{v:Value}{x:DataW T×List MemPlace}(G:List Value->Prop) (ht:P.underlying t=some (.slice e)) (hk:P.cellsOf e=k) (hk0:0<k) (h:DataW.trod enc P w base spare held fuel t [v]=some x)
  (hG:∀ n cs y,DataW.trod enc P w base spare held n e cs=some y->cs.length=k->G cs) :
  ∃ s:Sl,v=s.enc∧s.len<=s.cap∧s.cap<=maxLen∧∃ CS:List (List Value),CS.length=s.len∧(∀ c∈CS,c.length=k∧G c)∧bS w.heap s k CS.flatten∧(CS≠[]->∀ b,s.blk=some b->b<w.heap.size):=by
 rcases DataW.trod_slice ht h with ⟨h0,_⟩ | ⟨a,len,cap,elems,rest,n,_,h0,_,hb,hl,hm,hlen,hel,_,_⟩
 ·simp at h0;subst h0
  exact ⟨⟨none,0,0⟩,rfl,Nat.le_refl _,Nat.zero_le _,[],rfl,(fun c hc=>by cases hc),⟨by simp,fun _=>⟨rfl,rfl⟩,fun i v hv=>by simp at hv⟩,fun h=>absurd rfl h⟩
 ·simp at h0;subst h0
  rw [hk] at hel
  have each:∀ i,i<len->∃ cs,w.cells? base (a.add (i*k)) k=some cs∧G cs:=fun i hi=>by
   have hx:=hel i hi
   rw [List.getElem?_eq_getElem (by omega),Option.bind_eq_some_iff] at hx
   obtain ⟨cs,hc,ht'⟩:=hx
   exact ⟨cs,hc,hG _ _ _ ht' (mZ hc).1⟩
  obtain ⟨CS,hCS,hall⟩:∃ CS:List (List Value),CS.length=len∧∀ i c,CS[i]?=some c->w.cells? base (a.add (i*k)) k=some c∧G c:=by
   clear hel h
   have:∀ m,m<=len->∃ CS:List (List Value),CS.length=m∧∀ i c,CS[i]?=some c->w.cells? base (a.add (i*k)) k=some c∧G c:=fun m=>by
    induction m with
    | zero=>intro _;exact ⟨[],rfl,fun i c hc=>by simp at hc⟩
    | succ m ih =>
     intro hm2
     obtain ⟨CS,h1,h2⟩:=ih (by omega)
     obtain ⟨c,h3,h4⟩:=each m (by omega)
     refine ⟨CS ++ [c],by simp [h1],fun i d hd=>?_⟩
     by_cases hi:i<CS.length
     ·rw [List.getElem?_append_left hi] at hd;exact h2 i d hd
     ·rw [List.getElem?_append_right (by omega)] at hd
      have hi2:i-CS.length=0:=by
       have:=(List.getElem?_eq_some_iff.1 hd).1
       simp at this;omega
      rw [hi2] at hd;simp at hd;subst hd
      have:i=m:=by omega
      subst this;exact ⟨h3,h4⟩
   exact this len (Nat.le_refl _)
  have hlen':∀ c∈CS,c.length=k∧G c:=fun c hc=>by
   obtain ⟨i,hi⟩:=List.mem_iff_getElem?.1 hc
   exact ⟨(mZ (hall i c hi).1).1,(hall i c hi).2⟩
  have hspot:0<len->a.spot=none∧a.block<w.heap.size:=fun h0=>by
   obtain ⟨c,hc⟩:∃ c,CS[0]?=some c:=⟨_,List.getElem?_eq_getElem (by omega)⟩
   obtain ⟨h1,h2⟩:=mZ (hall 0 c hc).1
   obtain ⟨v,hv⟩:∃ v,c[0]?=some v:=⟨_,List.getElem?_eq_getElem (by omega)⟩
   have hcell:aA w.heap ((a.add (0*k)).add 0)=some v:=h2 0 v hv
   have e0:∀ p:Addr,p.add 0=p:=fun p=>by unfold Addr.add;split <;> simp_all
   rw [Nat.zero_mul,e0,e0] at hcell
   unfold aA at hcell
   split at hcell
   ·rename_i hh
    refine ⟨?_,(Array.getElem?_eq_some_iff.1 hh).1⟩
    cases hs:a.spot with
    | none=>rfl
    | some s=>rw [hs] at hcell;simp at hcell
   ·cases hcell
  refine ⟨⟨some a,len,cap⟩,rfl,hl,hm,CS,hCS,hlen',⟨?_,(fun h=>by cases h),fun i v hv=>?_⟩,fun hne b hb=>?_⟩
  ·rw [← hCS]
   have:∀ (L:List (List Value)),(∀ c∈L,c.length=k)->L.flatten.length=L.length*k:=fun L=>by
    induction L with
    | nil=>intro _;simp
    | cons c r ih=>intro hL;simp [hL c (by simp),ih fun c hc=>hL c (List.mem_cons_of_mem _ hc),Nat.add_mul];omega
   exact this CS fun c hc=>(hlen' c hc).1
  ·have:∀ (L:List (List Value)) (m:Nat),(∀ c∈L,c.length=k)->(∀ i c,L[i]?=some c->∀ j v,c[j]?=some v->w.cell? (a.add ((m+i)*k+j))=some v)->∀ i v,L.flatten[i]?=some v->w.cell? (a.add (m*k+i))=some v:=fun L=>by
    induction L with
    | nil=>intro m _ _ i v hv;simp at hv
    | cons c r ih =>
     intro m hL hc i v hv
     have hcl:=hL c (by simp)
     rw [List.flatten_cons] at hv
     by_cases hi:i<c.length
     ·rw [List.getElem?_append_left hi] at hv
      exact hc 0 c rfl i v hv
     ·rw [List.getElem?_append_right (by omega)] at hv
      have:=ih (m+1) (fun c hc=>hL c (List.mem_cons_of_mem _ hc)) (fun i d hd j v hj=>by
       have:=hc (i+1) d (by simpa using hd) j v hj
       rwa [show m+(i+1)=m+1+i from by omega] at this) _ v hv
      rwa [show (m+1)*k+(i-c.length)=m*k+i from by rw [Nat.add_mul];omega] at this
   have hlt:0<len:=by
    rcases Nat.eq_zero_or_pos len with h0 | h0
    ·have:CS=[]:=List.eq_nil_of_length_eq_zero (by omega)
     subst this;simp at hv
    ·exact h0
   obtain ⟨hsp,_⟩:=hspot hlt
   refine ⟨a,rfl,hsp,?_⟩
   have:=this CS 0 (fun c hc=>(hlen' c hc).1) (fun i c hc j v hj=>by
    have h1:=(mZ (hall i c hc).1).2 j v hj
    obtain ⟨ab,ao,asp⟩:=a
    simp only at hsp;subst hsp
    rw [aC,aC] at h1
    rw [aC,Nat.zero_add,← Nat.add_assoc];exact h1) i v hv
   rw [Nat.zero_mul,Nat.zero_add] at this
   exact this
  ·simp [Sl.blk] at hb
   subst hb
   have:0<len:=by
    rw [← hCS];exact List.length_pos_iff.2 hne
   exact (hspot this).2
end
end Go.Proofs.YtjjchpaomgmmdaaGreat.V
namespace Go.Proofs.YtjjchpaomgmmdaaGreat.V.S
open Go Go.Proofs.YtjjchpaomgmmdaaGreat.V
set_option linter.unusedVariables false
set_option linter.unusedSimpArgs false
abbrev W64 (n:Int):Prop:=-9223372036854775808<=n∧n<9223372036854775808
abbrev zf (c:Cel):Prop:=W64 c.View∧W64 c.Start∧c.Key.size<=maxLen
section
variable {T:Type}{enc:TypeId×Value->T}{w:World}{base:Nat}{spare:Nat->Bool}{held:Bool}{fuel:Nat}
theorem qD {α:Type}(f:α->List Value) (ok:α->Prop){t e:TypeId}{k:Nat}{v:Value}{y:DataW T×List MemPlace}(hf:∀ x,(f x).length=k) (ht:PP.underlying t=some (.slice e)) (hk:PP.cellsOf e=k) (hk0:0<k) (h:DataW.trod enc PP w base spare held fuel t [v]=some y)
  (hG:∀ n cs y,DataW.trod enc PP w base spare held n e cs=some y->cs.length=k->∃ x,cs=f x∧ok x) :
  ∃ (s:Sl) (L:List α),v=s.enc∧bS w.heap s k (L.flatMap f)∧s.len<=s.cap∧(L≠[]->∀ b,s.blk=some b->b<w.heap.size)∧(∀ x∈L,ok x)∧L.length<=9223372036854775807:=by
 obtain ⟨s,h1,h2,h3,CS,h4,h5,h6,h7⟩:=wl (fun cs=>∃ x:α,cs=f x∧ok x) ht hk hk0 h fun n cs y hy hl=>hG n cs y hy hl
 have:∀ (L:List (List Value)),(∀ c∈L,c.length=k∧∃ x:α,c=f x∧ok x)->∃ S:List α,L=S.map f∧∀ x∈S,ok x:=fun L=>by
  induction L with
  | nil=>intro _;exact ⟨[],rfl,fun n hn=>by cases hn⟩
  | cons c r ih =>
   intro hL
   obtain ⟨E,h1,h2⟩:=ih fun c hc=>hL c (List.mem_cons_of_mem _ hc)
   obtain ⟨_,n,rfl,hn⟩:=hL c (by simp)
   refine ⟨n :: E,by rw [h1];rfl,fun m hm=>?_⟩
   rcases List.mem_cons.1 hm with e | e
   ·subst e;exact hn
   ·exact h2 m e
 obtain ⟨S,rfl,hS⟩:=this CS h5
 have hr:bS w.heap s k (S.flatMap f):=by rw [List.flatMap_def];exact h6
 refine ⟨s,S,h1,hr,h2,fun hn b hb=>h7 (by simpa using hn) b hb,hS,?_⟩
 have:=cz hf hk0 hr
 simp only [maxLen] at h3;omega
theorem Cm {β:Type}:∀ {l:List β},l.length=4->∃ a b c d,l=[a,b,c,d]
 | [a,b,c,d],_=>⟨a,b,c,d,rfl⟩
theorem zs {cs:List Value}{y:DataW T×List MemPlace}(h:DataW.trod enc PP w base spare held fuel cf cs=some y) (hl:cs.length=4):∃ x:ag,cs=x.cells∧W64 x.Count∧W64 x.Sum∧W64 x.Min∧W64 x.Max:=by
 obtain ⟨xs,n,_,_,_,hlen,hf⟩:=DataW.trod_struct wO h
 have hlen4:xs.length=4:=hlen
 have k2:PP.cellsOf 2=1:=by kernel_rfl
 obtain ⟨c0,c1,c2,c3,rfl⟩:=Cm hl
 obtain ⟨y0,y1,y2,y3,rfl⟩:=Cm hlen4
 have f0:DataW.trod enc PP w base spare held n 2 (([c0,c1,c2,c3].drop 0).take (PP.cellsOf 2))=some y0:=hf 0 _ rfl
 have f1:DataW.trod enc PP w base spare held n 2 (([c0,c1,c2,c3].drop 1).take (PP.cellsOf 2))=some y1:=hf 1 _ rfl
 have f2:DataW.trod enc PP w base spare held n 2 (([c0,c1,c2,c3].drop 2).take (PP.cellsOf 2))=some y2:=hf 2 _ rfl
 have f3:DataW.trod enc PP w base spare held n 2 (([c0,c1,c2,c3].drop 3).take (PP.cellsOf 2))=some y3:=hf 3 _ rfl
 rw [k2] at f0 f1 f2 f3
 simp only [List.drop_zero,List.drop_succ_cons,List.take_succ_cons,List.take_zero] at f0 f1 f2 f3
 obtain ⟨m0,e0,_,w0⟩:=DataW.trod_int ZBU f0
 obtain ⟨m1,e1,_,w1⟩:=DataW.trod_int ZBU f1
 obtain ⟨m2,e2,_,w2⟩:=DataW.trod_int ZBU f2
 obtain ⟨m3,e3,_,w3⟩:=DataW.trod_int ZBU f3
 simp only [List.cons.injEq,and_true] at e0 e1 e2 e3
 subst e0;subst e1;subst e2;subst e3
 exact ⟨⟨m0,m1,m2,m3⟩,rfl,ir w0,ir w1,ir w2,ir w3⟩
theorem Cl {β:Type}:∀ {l:List β},l.length=3->∃ a b c,l=[a,b,c]
 | [a,b,c],_=>⟨a,b,c,rfl⟩
theorem oo {cs:List Value}{y:DataW T×List MemPlace}(h:DataW.trod enc PP w base spare held fuel aJ cs=some y) (hl:cs.length=3) :
  ∃ c:Cel,cs=c.cells∧zf c:=by
 obtain ⟨xs,n,_,_,_,hlen,hf⟩:=DataW.trod_struct vq h
 have hlen3:xs.length=3:=hlen
 have k3:PP.cellsOf 3=1:=by kernel_rfl
 have k9:PP.cellsOf 9=1:=by kernel_rfl
 have k2:PP.cellsOf 2=1:=by kernel_rfl
 obtain ⟨c0,c1,c2,rfl⟩:=Cl hl
 obtain ⟨y0,y1,y2,rfl⟩:=Cl hlen3
 have f0:DataW.trod enc PP w base spare held n 3 (([c0,c1,c2].drop 0).take (PP.cellsOf 3))=some y0:=hf 0 _ rfl
 have f1:DataW.trod enc PP w base spare held n 9 (([c0,c1,c2].drop 1).take (PP.cellsOf 9))=some y1:=hf 1 _ rfl
 have f2:DataW.trod enc PP w base spare held n 2 (([c0,c1,c2].drop 2).take (PP.cellsOf 2))=some y2:=hf 2 _ rfl
 rw [k3] at f0
 rw [k9] at f1
 rw [k2] at f2
 simp only [List.drop_zero,List.drop_succ_cons,List.take_succ_cons,List.take_zero] at f0 f1 f2
 obtain ⟨m0,e0,_,w0⟩:=DataW.trod_int ZBM f0
 obtain ⟨s1,e1,_,w1⟩:=DataW.trod_string ZBF f1
 obtain ⟨m2,e2,_,w2⟩:=DataW.trod_int ZBU f2
 simp only [List.cons.injEq,and_true] at e0 e1 e2
 subst e0;subst e1;subst e2
 exact ⟨⟨m0,s1,m2⟩,rfl,ir w0,ir w2,w1⟩
theorem yv {v:Value}{y:DataW T×List MemPlace}(h:DataW.trod enc PP w base spare held fuel eW [v]=some y) :
  ∃ (s:Sl) (L:List Int),v=s.enc∧bS w.heap s 1 (L.flatMap cI)∧s.len<=s.cap∧(L≠[]->∀ b,s.blk=some b->b<w.heap.size)∧(∀ x∈L,W64 x)∧L.length<=9223372036854775807:=
 qD cI W64 fZ A0 (show PP.cellsOf 3=1 from by kernel_rfl) (by omega) h fun n cs y hy _=>by
  obtain ⟨m,e1,_,e2⟩:=DataW.trod_int ZBM hy
  exact ⟨m,e1,ir e2⟩
theorem vT {v:Value}{y:DataW T×List MemPlace}(h:DataW.trod enc PP w base spare held fuel dw [v]=some y) :
  ∃ (s:Sl) (L:List Cel),v=s.enc∧bS w.heap s 3 (L.flatMap ae.cells)∧s.len<=s.cap∧(L≠[]->∀ b,s.blk=some b->b<w.heap.size)∧(∀ x∈L,zf x)∧L.length<=9223372036854775807:=
 qD ae.cells zf (fun _=>rfl) rN (show PP.cellsOf aJ=3 from by kernel_rfl) (by omega) h fun n cs y hy hl=>oo hy hl
theorem C4 {β:Type}:∀ {l:List β},l.length=15->∃ c0 c1 c2 c3 c4 c5 c6 c7 c8 c9 c10 c11 c12 c13 c14,l=[c0,c1,c2,c3,c4,c5,c6,c7,c8,c9,c10,c11,c12,c13,c14]
 | [c0,c1,c2,c3,c4,c5,c6,c7,c8,c9,c10,c11,c12,c13,c14],_=>⟨c0,c1,c2,c3,c4,c5,c6,c7,c8,c9,c10,c11,c12,c13,c14,rfl⟩
theorem DV {β:Type}:∀ {l:List β},l.length=8->∃ a b c d e f g h,l=[a,b,c,d,e,f,g,h]
 | [a,b,c,d,e,f,g,h],_=>⟨a,b,c,d,e,f,g,h,rfl⟩
theorem yT {cs:List Value}{y:DataW T×List MemPlace}(h:DataW.trod enc PP w base spare held fuel fF cs=some y) (hl:cs.length=15):∃ x:St,cs=x.x.cells∧DK w.heap x:=by
 obtain ⟨xs,n,_,_,_,hlen,hf⟩:=DataW.trod_struct nW h
 have hlen8:xs.length=8:=hlen
 have k3:PP.cellsOf 3=1:=by kernel_rfl
 have kc:PP.cellsOf aJ=3:=by kernel_rfl
 have ka:PP.cellsOf cf=4:=by kernel_rfl
 have kl:PP.cellsOf dw=1:=by kernel_rfl
 have ki:PP.cellsOf eW=1:=by kernel_rfl
 obtain ⟨c0,c1,c2,c3,c4,c5,c6,c7,c8,c9,c10,c11,c12,c13,c14,rfl⟩:=C4 hl
 obtain ⟨y0,y1,y2,y3,y4,y5,y6,y7,rfl⟩:=DV hlen8
 have f0:DataW.trod enc PP w base spare held n 3 (([c0,c1,c2,c3,c4,c5,c6,c7,c8,c9,c10,c11,c12,c13,c14].drop 0).take (PP.cellsOf 3))=some y0:=hf 0 _ rfl
 rw [k3] at f0
 have f1:DataW.trod enc PP w base spare held n 3 (([c0,c1,c2,c3,c4,c5,c6,c7,c8,c9,c10,c11,c12,c13,c14].drop 1).take (PP.cellsOf 3))=some y1:=hf 1 _ rfl
 rw [k3] at f1
 have f2:DataW.trod enc PP w base spare held n aJ (([c0,c1,c2,c3,c4,c5,c6,c7,c8,c9,c10,c11,c12,c13,c14].drop 2).take (PP.cellsOf aJ))=some y2:=hf 2 _ rfl
 rw [kc] at f2
 have f3:DataW.trod enc PP w base spare held n cf (([c0,c1,c2,c3,c4,c5,c6,c7,c8,c9,c10,c11,c12,c13,c14].drop 5).take (PP.cellsOf cf))=some y3:=hf 3 _ rfl
 rw [ka] at f3
 have f4:DataW.trod enc PP w base spare held n dw (([c0,c1,c2,c3,c4,c5,c6,c7,c8,c9,c10,c11,c12,c13,c14].drop 9).take (PP.cellsOf dw))=some y4:=hf 4 _ rfl
 rw [kl] at f4
 have f5:DataW.trod enc PP w base spare held n eW (([c0,c1,c2,c3,c4,c5,c6,c7,c8,c9,c10,c11,c12,c13,c14].drop 10).take (PP.cellsOf eW))=some y5:=hf 5 _ rfl
 rw [ki] at f5
 have f6:DataW.trod enc PP w base spare held n aJ (([c0,c1,c2,c3,c4,c5,c6,c7,c8,c9,c10,c11,c12,c13,c14].drop 11).take (PP.cellsOf aJ))=some y6:=hf 6 _ rfl
 rw [kc] at f6
 have f7:DataW.trod enc PP w base spare held n 3 (([c0,c1,c2,c3,c4,c5,c6,c7,c8,c9,c10,c11,c12,c13,c14].drop 14).take (PP.cellsOf 3))=some y7:=hf 7 _ rfl
 rw [k3] at f7
 simp only [List.drop_zero,List.drop_succ_cons,List.take_succ_cons,List.take_zero] at f0 f1 f2 f3 f4 f5 f6 f7
 obtain ⟨m0,e0,_,w0⟩:=DataW.trod_int ZBM f0
 obtain ⟨m1,e1,_,w1⟩:=DataW.trod_int ZBM f1
 obtain ⟨x2,e2,w2⟩:=oo f2 rfl
 obtain ⟨x3,e3,w3⟩:=zs f3 rfl
 obtain ⟨s4,L4,e4,r4,_,b4,o4,_⟩:=vT f4
 obtain ⟨s5,L5,e5,r5,_,b5,o5,_⟩:=yv f5
 obtain ⟨x6,e6,w6⟩:=oo f6 rfl
 obtain ⟨m7,e7,_,w7⟩:=DataW.trod_int ZBM f7
 refine ⟨⟨⟨m0,m1,x2,x3,s4,s5,x6,m7⟩,L5,L4⟩,?_,⟨r5,b5,o5,r4,b4,o4,ir w0,ir w1,ir w7,w2,w3,w6⟩⟩
 have:[c0,c1,c2,c3,c4,c5,c6,c7,c8,c9,c10,c11,c12,c13,c14]=[c0] ++ [c1] ++ [c2,c3,c4] ++ [c5,c6,c7,c8] ++ [c9] ++ [c10] ++ [c11,c12,c13] ++ [c14]:=rfl
 rw [this,e0,e1,e2,e3,e4,e5,e6,e7];rfl
end
set_option maxRecDepth 20000
theorem jB {h:H}{a:Addr}{x:Rw}(c:Cells h a (cW x)):Cells h (a.add 0) x.Cell.cells:=fun i v hv=>by
 have hi:i<3:=(List.getElem?_eq_some_iff.1 hv).1
 have:=c i v (by
  match i,hi,hv with
  | 0,_,hv=>exact hv
  | 1,_,hv=>exact hv
  | 2,_,hv=>exact hv)
 have e:(a.add 0).add i=a.add i:=by simp [Addr.add]
 rw [e];exact this
theorem xD {h:H}{a:Addr}{x:Rw}(c:Cells h a (cW x)):Cells h (a.add 3) x.Agg.cells:=fun i v hv=>by
 have hi:i<4:=(List.getElem?_eq_some_iff.1 hv).1
 have:=c (3+i) v (by
  match i,hi,hv with
  | 0,_,hv=>exact hv
  | 1,_,hv=>exact hv
  | 2,_,hv=>exact hv
  | 3,_,hv=>exact hv)
 have e:(a.add 3).add i=a.add (3+i):=by simp [Addr.add,Nat.add_assoc]
 rw [e];exact this
end Go.Proofs.YtjjchpaomgmmdaaGreat.V.S
namespace Go.Proofs.YtjjchpaomgmmdaaGreat.V
open Go
set_option linter.unusedVariables false
set_option linter.unusedSimpArgs false
abbrev cS8 (s:Sl):List Value:=[s.enc]
theorem gO (s:Sl):(cS8 s).length=1:=rfl
theorem ie {h h':H}{s r:Sl}{e e':TypeId}{k k':Nat}{cs ds:List Value}(w:aU h r e k cs) (o:bI (fun b=>s.blk=some b) h h') (ws:aU h s e' k' ds) (he:e≠e'):aU h' r e k cs:=w.only o fun y hy hb=>by
 obtain ⟨_,⟨q1,q2,q3⟩ | ⟨b',c',q1,q2,_⟩⟩:=w
 ·simp [Sl.blk,q1] at hy
 ·simp [Sl.blk,q1] at hy
  subst hy
  exact nK ws q2 (fun e=>he e.symm) hb
theorem mN {α:Type}{f:α->List Value}{kk:Nat}{e:TypeId}{h:H}{s:Sl}{D:List α}{i:Nat}{x:α}{K:H->Prop}(hf:∀ x,(f x).length=kk) (hk:0<kk) (w:aU h s e kk (D.flatMap f)) (hi:i<D.length)
  (k:∀ h',aU h' s e kk ((D.set i x).flatMap f)->bI (fun b=>s.blk=some b) h h'->K h'):bD s (i:Int) kk fun a=>stH h a (f x) K:=by
 obtain ⟨b,p1,p2⟩:=jz hf hk w (i:=i) (x:=D[i]) (List.getElem?_eq_getElem hi)
 have hl:=bH hf hk w
 refine cl (i:=i) p1 (by rw [hl];exact hi) rfl ?_
 exact ix (i:=i) (x:=x) hf w p1 hi fun h' w' o _=>k h' w' o
theorem Dk {hh:H}{s:Sl}{ss:List Sl}(w:bS hh s 1 (ss.flatMap cS8)){i:Nat}{x:Sl}(hs:ss[i]?=some x){K:Sl->Prop}(k:K x):bD s (i:Int) 1 fun a=>ldL hh a K:=by
 obtain ⟨q,r1,r2,r3⟩:=gw gO (by omega) w hs
 have hl:=cz gO (by omega) w
 exact dK (i:=i) r1 (by have:=(List.getElem?_eq_some_iff.1 hs).1;omega) rfl ((bj r3.one).2 k)
section
variable {α:Type}{f:α->List Value}{kk:Nat}{e:TypeId}{base h h':H}{Z:List (Sl×List α)}
end
end Go.Proofs.YtjjchpaomgmmdaaGreat.V
namespace Go.Proofs.YtjjchpaomgmmdaaGreat.V.S
open Go Go.Proofs.YtjjchpaomgmmdaaGreat.V
set_option linter.unusedVariables false
set_option linter.unusedSimpArgs false
set_option maxRecDepth 20000
theorem SH.turn {h:H}{n:Nat}{S:SL}{slots:Nat}{R R':Nat->Prop}(s:SH h n S slots R) (hr:∀ b,b<h.size->R b->R' b):SH h n S slots R':=by
 obtain ⟨tn,rs,es,T,Z,hZ,z⟩:=s
 exact ⟨tn,rs,es,T,Z,hZ,z.turn (fun r hr h=>h) hr⟩
theorem xy {h:H}{t:Sl}{e:TypeId}{k:Nat}{cs:List Value}(w:aU h t e k cs) (he:¬ ShE e){b:Nat}(hb:t.blk=some b):¬ lw h b:=by
 obtain ⟨_,⟨q1,_,_⟩ | ⟨b',c',q1,q2,_⟩⟩:=w
 ·simp [Sl.blk,q1] at hb
 ·simp [Sl.blk,q1] at hb
  subst hb
  exact iw q2 he
theorem nb {b:Bool}(h:b=true){P:Prop}:(!b)=true->P:=fun g=>by subst h;cases g
open Go Go.Proofs.YtjjchpaomgmmdaaGreat.V Go.Proofs.YtjjchpaomgmmdaaGreat.V.M
abbrev tSt:TypeId:=rm
abbrev tPs:TypeId:=ro
abbrev cQ (q:Nat):List Value:=[.pointer (some ⟨q,0,none⟩)]
theorem oh (q:Nat):(cQ q).length=1:=rfl
theorem Co:¬ ShE tSt:=by unfold ShE;decide
theorem Cn:¬ ShE tPs:=by unfold ShE;decide
theorem Di {h:H}{b:Nat}(t:lw h b):b<h.size:=by
 obtain ⟨e,_,c,hc⟩:=t
 exact dx hc
structure TS (h:H) (p:Nat) (l:Sl) (ps:List Nat) (S:SL) (slots:Nat) (R:Nat->Prop):Prop where
 ok:SOk S
 n1:1<=ps.length
 n2:ps.length<=16
 sb:Blk h p #[l.enc] tSt
 own:aU h l tPs 1 (ps.flatMap cQ)
 lt:∀ b,R b->b<h.size
 ex:∃ Rk:Nat->Nat->Prop,(∀ k q,ps[k]?=some q->SH h q (bR ps.length k S) slots (Rk k))∧(∀ k b,k<ps.length->Rk k b->R b)∧(∀ j k b,j<ps.length->k<ps.length->Rk j b->Rk k b->j=k)
section
variable {h h':H}{p:Nat}{l:Sl}{ps:List Nat}{S:SL}{slots:Nat}{R:Nat->Prop}
theorem TS.keep {P:Nat->Prop}(t:TS h p l ps S slots R) (o:bI P h h') (hn:∀ b,R b->lw h b->¬ P b) (h1:¬ P p) (h2:∀ b,l.blk=some b->¬ P b):TS h' p l ps S slots R:=by
 obtain ⟨Rk,e1,e2,e3⟩:=t.ex
 exact ⟨t.ok,t.n1,t.n2,o.block t.sb h1,t.own.only o fun b hb=>h2 b hb,fun b hb=>Nat.lt_of_lt_of_le (t.lt b hb) o.size,Rk,fun k q hq=>(e1 k q hq).keep o fun b hb ht=>hn b (e2 k b (List.getElem?_eq_some_iff.1 hq).1 hb) ht,e2,e3⟩
theorem TS.ext (t:TS h p l ps S slots R) (e:Ext h h'):TS h' p l ps S slots R:=t.keep e (fun _ _ _ f=>f) (fun f=>f) fun _ _ f=>f
theorem TS.len (t:TS h p l ps S slots R):l.len=ps.length:=bH oh (by omega) t.own
theorem TS.ldl (t:TS h p l ps S slots R){K:Sl->Prop}(k:K l):ldL h ⟨p,0,none⟩ K:=(bj (t.sb.cell (i:=0) rfl)).2 k
theorem TS.at (t:TS h p l ps S slots R){i q:Nat}(hq:ps[i]?=some q){K:Option Addr->Prop}(k:K (some ⟨q,0,none⟩)):bD l (i:Int) 1 fun a=>ldP h a K:=by
 obtain ⟨r,r1,r2,r3⟩:=gw oh (by omega) t.own.reads hq
 have hl:=t.len
 refine dK (i:=i) r1 (by have:=(List.getElem?_eq_some_iff.1 hq).1;omega) rfl ?_
 rw [Nat.mul_one] at r3 ⊢
 exact Ad (by have:=r3 0 _ rfl;exact this) k
theorem TS.sh (t:TS h p l ps S slots R){i q:Nat}(hq:ps[i]?=some q):∃ R0,SH h q (bR ps.length i S) slots R0:=by
 obtain ⟨Rk,e1,_⟩:=t.ex
 exact ⟨_,e1 i q hq⟩
theorem TS.op (t:TS h p l ps S slots R){i q:Nat}(hq:ps[i]?=some q):∃ R0:Nat->Prop,SH h q (bR ps.length i S) slots R0∧(∀ b,h.size<=b->R0 b)∧(∀ b,R0 b->R b∨h.size<=b) ∧
  ∀ h' S',gI S'->SH h' q (bR ps.length i S') slots R0->cX R0 h h'->(∀ j,j<ps.length->j≠i->bR ps.length j S'=bR ps.length j S) ->
   ∃ R',TS h' p l ps S' slots R'∧cX R h h'∧∀ b,R' b->R b∨h.size<=b:=by
 obtain ⟨Rk,e1,e2,e3⟩:=t.ex
 have hi:i<ps.length:=(List.getElem?_eq_some_iff.1 hq).1
 refine ⟨fun b=>Rk i b∨h.size<=b,(e1 i q hq).turn fun b _ hb=>.inl hb,fun b hb=>.inr hb,fun b hb=>hb.imp (e2 i b hi) id,fun h' S' srt sh' o oth=>?_⟩
 have o':cX R h h':=o.mono fun b hb g=>⟨g.1.elim (e2 i b hi) (fun x=>by omega),g.2⟩
 have hsz:=o.size
 refine ⟨fun b=>R b∨(h.size<=b∧b<h'.size),⟨⟨srt,fun x hx=>?_⟩,t.n1,t.n2,o.block t.sb (fun g=>iw t.sb Co g.2),t.own.only o fun b hb g=>xy t.own Cn hb g.2,fun b hb=>?_,fun j b=>if j=i then (Rk i b∨h.size<=b)∧b<h'.size else Rk j b,fun k q' hq'=>?_,fun k b hk hb=>?_,fun j k b hj hk h1 h2=>?_⟩,o',fun b hb=>hb.imp id (·.1)⟩
 ·-- each of them is fine
  have hlt:=po (show 0<ps.length by omega) x.1
  have hm:x∈bR ps.length (rt ps.length x.1) S':=iS.2 ⟨hx,rfl⟩
  by_cases hr:rt ps.length x.1=i
  ·rw [hr] at hm;exact sh'.ok.ok x hm
  ·rw [oth _ hlt hr] at hm;exact t.ok.ok x (iS.1 hm).1
 ·rcases hb with hb | hb
  ·have:=t.lt b hb;omega
  ·exact hb.2
 ·by_cases hk:k=i
  ·subst hk
   rw [hq] at hq';cases hq'
   simp only [if_pos]
   exact sh'.turn fun b hb hr=>⟨hr,hb⟩
  ·have hkl:=(List.getElem?_eq_some_iff.1 hq').1
   simp only [if_neg hk]
   rw [oth k hkl hk]
   refine (e1 k q' hq').keep o fun b hb ht g=>g.1.elim (fun x=>hk (e3 k i b hkl hi hb x)) fun x=>?_
   have:=Di ht;omega
 ·by_cases hki:k=i
  ·simp only [if_pos hki] at hb
   rcases hb.1 with g | g
   ·exact .inl (e2 i b hi g)
   ·exact .inr ⟨g,hb.2⟩
  ·simp only [if_neg hki] at hb
   exact .inl (e2 k b hk hb)
 ·have old:∀ k,k<ps.length->Rk k b->b<h.size:=fun k hk g=>t.lt b (e2 k b hk g)
  by_cases hji:j=i
  ·by_cases hki:k=i
   ·omega
   ·simp only [if_pos hji] at h1
    simp only [if_neg hki] at h2
    have:=old k hk h2
    rcases h1.1 with g | g
    ·rw [hji];exact (e3 k i b hk hi h2 g).symm
    ·omega
  ·by_cases hki:k=i
   ·simp only [if_neg hji] at h1
    simp only [if_pos hki] at h2
    have:=old j hj h1
    rcases h2.1 with g | g
    ·rw [hki];exact e3 j i b hj hi h1 g
    ·omega
   ·simp only [if_neg hji] at h1
    simp only [if_neg hki] at h2
    exact e3 j k b hj hk h1 h2
abbrev gH (c:Cel):Prop:=c.Key.size<=9223372036854775807
theorem xE {n x:Nat}(h0:0<n) (hn:n<=16):IntKind.wrap .u64 (n:Int)=(n:Int)∧IntKind.wrap .i64 (Int.tmod (x:Int) (n:Int))=((x % n:Nat):Int):=by
 have:=Nat.mod_lt x h0
 refine ⟨by rw [cg];omega,?_⟩
 rw [← Int.ofNat_tmod,w64 (by omega) (by omega)]
theorem ql {c:Cel}{Q:Int->H->Prop}(t:TS h p l ps S slots R) (hk:gH c) (k:∀ h',Ext h h'->Q ((rt ps.length c:Nat):Int) h'):F.xco (some ⟨p,0,none⟩) c.Key h Q:=by
 unfold F.xco
 simp only [aZ,aC,Nat.add_zero]
 have h1:=t.n1
 refine t.ldl (rO hk fun h5 e5=>⟨(t.ext e5).sb.cell (i:=0) rfl,?_⟩)
 obtain ⟨q1,q2⟩:=xE (x:=nB c.Key) (show 0<ps.length by omega) t.n2
 rw [t.len,q1]
 refine ⟨by omega,?_⟩
 rw [q2]
 exact k h5 e5
theorem TS.has (t:TS h p l ps S slots R) (c:Cel):∃ q,ps[rt ps.length c]?=some q:=⟨_,List.getElem?_eq_getElem (po (by have:=t.n1;omega) c)⟩
theorem TOf {c:Cel}{q:Nat}{Q:Option Addr->H->Prop}(t:TS h p l ps S slots R) (hk:gH c) (hq:ps[rt ps.length c]?=some q) (k:∀ h',Ext h h'->Q (some ⟨q,0,none⟩) h'):F.xda (some ⟨p,0,none⟩) c h Q:=by
 unfold F.xda
 refine aN fun m h1 hm b1 e1 s1=>?_
 have t1:=t.ext e1
 have c1:aA h1 ⟨m,1,none⟩=some (.string c.Key):=Blk.cells b1 1 _ rfl
 simp only [aZ,aC,Nat.add_zero,Nat.zero_add]
 refine t1.ldl ((eP c1).2 (ql t1 hk fun h9 e9=>⟨(t1.ext e9).sb.cell (i:=0) rfl,(t1.ext e9).at hq (k h9 (e1.trans e9))⟩))
end
theorem qS (n k:Nat):bR n k []=[]:=rfl
theorem DN {h:H}{m sl:Int}{Q:Option Addr->Int->H->Prop}(k0:(m<1∨m > 16∨sl<2∨sl > 1048576)->Q none 1 h)
  (k1:1<=m->m<=16->2<=sl->sl<=1048576->∀ h' p l ps R,(ps.length:Int)=m->TS h' p l ps [] sl.toNat R->Ext h h'->(∀ b,R b->h.size<=b)->h.size<=p->dL h l->Q (some ⟨p,0,none⟩) 0 h'):F.xaw m sl h Q:=by
 have bad:(m<1∨m > 16∨sl<2∨sl > 1048576)->F.xaw.j3 Q m sl true h:=fun g=>by
  unfold F.xaw.j3
  exact ⟨fun _=>k0 g,fun g=>by cases g⟩
 unfold F.xaw
 refine ⟨fun g=>bad (by have:=of_decide_eq_true g;omega),fun g1=>⟨fun g=>bad (by have:=of_decide_eq_true g;omega),fun g2=>⟨fun g=>bad (by have:=of_decide_eq_true g;omega),fun g3=>?_⟩⟩⟩
 have g1:=of_decide_eq_false g1
 have g2:=of_decide_eq_false g2
 have g3:=of_decide_eq_false g3
 unfold F.xaw.j3
 refine ⟨fun g=>k0 (by have:=of_decide_eq_true g;omega),fun g4=>?_⟩
 have g4:=of_decide_eq_false g4
 unfold F.xaw.j1
 refine aN fun p h1 hp b1 e1 s1=>⟨m.toNat+1,?_⟩
 have key:∀ (d i:Nat) (hh:H) (l:Sl) (ps:List Nat) (Rk:Nat->Nat->Prop),i<=m.toNat->m.toNat-i<d->ps.length=i->Blk hh p #[l.enc] tSt->aU hh l tPs 1 (ps.flatMap cQ)->dL h l->Ext h hh ->
   (∀ k q,ps[k]?=some q->SH hh q [] sl.toNat (Rk k))->(∀ k b,k<i->Rk k b->h.size<=b∧b<hh.size)->(∀ j k b,j<i->k<i->Rk j b->Rk k b->j=k)->F.xaw.l2 Q d sl ⟨p,0,none⟩ m (i:Int) hh:=by
  intro d
  induction d with
  | zero=>intro i _ _ _ _ _ hm;omega
  | succ d ih =>
   intro i hh l ps Rk hi hm hl b w mi e hs hb hd
   unfold F.xaw.l2
   refine ⟨fun g=>?_,fun g=>?_⟩
   ·have g:=of_decide_eq_true g
    refine lu (R:=fun b=>hh.size<=b) (fun g=>by omega) (fun _ hb=>hb) fun _ _ h4 q sh4 e4 hq=>⟨fun g=>by simp at g,fun _=>?_⟩
    have b4:Blk h4 p #[l.enc] tSt:=e4.block b fun f=>f
    simp only [aC,Nat.add_zero]
    refine (bj (b4.cell (i:=0) rfl)).2 ?_
    refine dT fun m2 h10 hm2 b10 e10 s10=>?_
    have r10:bS h10 ⟨some ⟨m2,0,none⟩,1,1⟩ 1 ([q].flatMap cQ):=dB (by simpa using b10) rfl
    have w10:=(w.ext e4).ext e10
    refine fI (L:=ps) (M:=[q]) oh (by omega) np w10 r10 (fun x v hv=>by simp at hv;subst hv;rfl) (by simp only [List.length_singleton];omega) fun r3 h12 w3 o3 n3=>?_
    have hsz4:=e4.size
    have hsz10:=e10.size
    have hsz3:=o3.size
    have hsz:=e.size
    have m3:dL h r3:=fun y hy=>by
     rcases n3 with n3 | ⟨b',n3,n4⟩
     ·exact mi y (by rw [← n3];exact hy)
     ·rw [n3] at hy;cases hy;omega
    have e12:Ext h h12:=((e.trans e4).trans e10).mine mi o3
    have b12:Blk h12 p #[l.enc] tSt:=o3.block (e10.block b4 fun f=>f) fun hb'=>fz w10 (e10.block b4 fun f=>f) (by decide) hb'
    refine cC b12 (by simp) fun h14 b14 o14 s14=>?_
    rw [cE (by simp)] at b14
    have w14:aU h14 r3 tPs 1 ((ps ++ [q]).flatMap cQ):=w3.only o14 fun y hy hf=>fz w3 b12 (by decide) (by rw [hy,hf])
    rw [w64 (by omega) (by omega)]
    have hsz14:=o14.size
    -- a shard stays
    have stay:∀ {q':Nat}{R':Nat->Prop},SH h10 q' [] sl.toNat R'->SH h14 q' [] sl.toNat R':=fun s=>(s.oth o3 w10 Cn).keep o14 fun x _ ht e=>by subst e;exact iw b12 Co ht
    refine ih (i+1) h14 r3 (ps ++ [q]) (fun k b=>if k=i then hh.size<=b∧b<h14.size else Rk k b) (by omega) (by omega) (by simp [hl]) b14 w14 m3 (e12.step o14 fun x hx e=>by omega) (fun k q' hq'=>?_) (fun k b hk hr=>?_) fun j k b hj hk h1 h2=>?_
    ·by_cases hk:k=i
     ·subst hk
      rw [List.getElem?_append_right (by omega),hl,Nat.sub_self] at hq'
      cases hq'
      simp only [if_pos]
      exact (stay (sh4.ext e10)).turn fun b hb hr=>⟨hr,hb⟩
     ·simp only [if_neg hk]
      have hlt:k<ps.length:=by
       have:=(List.getElem?_eq_some_iff.1 hq').1
       rw [List.length_append,List.length_singleton] at this
       omega
      rw [List.getElem?_append_left hlt] at hq'
      exact stay (((hs k q' hq').ext e4).ext e10)
    ·by_cases hki:k=i
     ·simp only [if_pos hki] at hr;exact ⟨by omega,hr.2⟩
     ·simp only [if_neg hki] at hr
      have:=hb k b (by omega) hr
      exact ⟨this.1,by omega⟩
    ·by_cases hji:j=i
     ·by_cases hki:k=i
      ·omega
      ·simp only [if_pos hji] at h1
       simp only [if_neg hki] at h2
       have:=hb k b (by omega) h2;omega
     ·by_cases hki:k=i
      ·simp only [if_neg hji] at h1
       simp only [if_pos hki] at h2
       have:=hb j b (by omega) h1;omega
      ·simp only [if_neg hji] at h1
       simp only [if_neg hki] at h2
       exact hd j k b (by omega) (by omega) h1 h2
   ·have g:=of_decide_eq_false g
    refine k1 (by omega) (by omega) (by omega) (by omega) hh p l ps (fun b=>∃ k,k<i∧Rk k b) (by omega) ⟨⟨List.Pairwise.nil,fun x hx=>by cases hx⟩,by omega,by omega,b,w,fun x ⟨k,hk,hx⟩=>(hb k x hk hx).2,Rk,fun k q hq=>by rw [qS];exact hs k q hq,fun k b hk hr=>⟨k,by omega,hr⟩,fun j k b hj hk=>hd j k b (by omega) (by omega)⟩ e (fun x ⟨k,hk,hx⟩=>(hb k x hk hx).1) (by omega) mi
 exact key _ 0 h1 ⟨none,0,0⟩ [] (fun _ _=>False) (by omega) (by omega) rfl b1 (by simpa using aU.nil h1 tPs 1) (by intro x hx;simp [Sl.blk] at hx) e1 (fun k q hq=>by simp at hq) (fun k b hk=>by omega) fun j k b hj=>by omega
section
variable {n k:Nat}{S:SL}
theorem u6 (hs:gI S) (e:Int) (c:Cel) (a:ag):bR n (rt n c) (jJ S e c a)=jJ (bR n (rt n c) S) e c a:=by unfold jJ;rw [nM hs,if_pos rfl,nL]
theorem sP (hs:gI S) (e:Int) (c:Cel) (a:ag) (hk:k≠rt n c):bR n k (jJ S e c a)=bR n k S:=by unfold jJ;rw [nM hs,if_neg (fun g=>hk g.symm)]
theorem sB (hs:gI S) (e:Int) (c:Cel):bR n (rt n c) (il S e c)=il (bR n (rt n c) S) e c:=by unfold il;rw [nM hs,if_pos rfl,nL]
theorem qH (hs:gI S) (e:Int) (c:Cel) (hk:k≠rt n c):bR n k (il S e c)=bR n k S:=by unfold il;rw [nM hs,if_neg (fun g=>hk g.symm)]
theorem AQ {f g:Nat->Nat}:∀ n,(∀ k,k<n->f k<=g k)->((List.range n).map f).sum<=((List.range n).map g).sum
 | 0,_=>Nat.le_refl _
 | n+1,h=>by
  rw [List.range_succ,List.map_append,List.sum_append,List.map_append,List.sum_append]
  have:=AQ n fun k hk=>h k (by omega)
  have:=h n (by omega)
  simp;omega
theorem AR {α:Type}(L:List α):(L.map fun _=>1).sum=L.length:=by
 induction L with
 | nil=>rfl
 | cons a L ih=>simp only [List.map_cons,List.sum_cons,List.length_cons];omega
theorem yB (hn:0<n) (S:SL):((List.range n).map fun k=>(bR n k S).length).sum=S.length:=by
 have h:=oX hn (fun _=>1) S
 simp only [AR] at h
 exact h
def dZ (n:Nat) (k:Int) (S:SL):SL:=if 0<=k∧k<n then bR n k.toNat S else []
theorem oO (hk:k<n):dZ n (k:Int) S=bR n k S:=by unfold dZ;rw [if_pos (by omega)];rfl
end
section
variable {h h':H}{p:Nat}{l:Sl}{ps:List Nat}{S:SL}{slots:Nat}{R:Nat->Prop}
theorem CK {e:Int}{x:aO}{b:Bool}{Q:Int->H->Prop}(t:TS h p l ps S slots R) (hk:gH x.Cell) (hrt:lW x.Agg b)
  (k0:nO (bR ps.length (rt ps.length x.Cell) S) slots e x.Cell x.Agg b≠0->∀ h',Ext h h'->Q (nO (bR ps.length (rt ps.length x.Cell) S) slots e x.Cell x.Agg b) h')
  (k1:nO (bR ps.length (rt ps.length x.Cell) S) slots e x.Cell x.Agg b=0->∀ h' R',TS h' p l ps (jJ S e x.Cell x.Agg) slots R'->cX R h h'->(∀ b,R' b->R b∨h.size<=b)->Q 0 h'):F.xdh (some ⟨p,0,none⟩) e x h Q:=by
 unfold F.xdh
 refine aN fun m h1 hm b1 e1 s1=>?_
 have t1:=t.ext e1
 obtain ⟨q,hq⟩:=t.has x.Cell
 refine ⟨x.Cell,jB (Blk.cells b1),x,Blk.cells b1,TOf t1 hk hq fun h7 e7=>⟨(Blk.cells b1).ext e7,?_⟩⟩
 have t7:=t1.ext e7
 have e17:=e1.trans e7
 obtain ⟨R0,sh,hR,hRR,fin⟩:=t7.op hq
 refine jY sh hrt hR (fun g h' e'=>k0 g h' (e17.trans e')) fun g h' sh' o=>?_
 obtain ⟨R',t',o',hR'⟩:=fin h' (jJ S e x.Cell x.Agg) (mg t.ok.sort _ _) (by rw [u6 t.ok.sort];exact sh') o fun j hj hne=>sP t.ok.sort _ _ _ hne
 exact k1 g h' R' t' (cX.trans (cX.of e17) o') fun b hb=>(hR' b hb).imp id fun x=>Nat.le_trans e17.size x
theorem DL {e:Int}{c:Cel}{Q:Int->H->Prop}(t:TS h p l ps S slots R) (hk:gH c)
  (k0:gn S e c≠0->∀ h',Ext h h'->Q (gn S e c) h')
  (k1:gn S e c=0->∀ h' R',TS h' p l ps (il S e c) slots R'->cX R h h'->(∀ b,R' b->R b∨h.size<=b)->Q 0 h'):F.xej (some ⟨p,0,none⟩) e c h Q:=by
 unfold F.xej
 refine aN fun m h1 hm b1 e1 s1=>?_
 have t1:=t.ext e1
 obtain ⟨q,hq⟩:=t.has c
 refine ⟨c,Blk.cells b1,c,Blk.cells b1,TOf t1 hk hq fun h7 e7=>⟨(Blk.cells b1).ext e7,?_⟩⟩
 have t7:=t1.ext e7
 have e17:=e1.trans e7
 obtain ⟨R0,sh,hR,hRR,fin⟩:=t7.op hq
 refine nZ sh hR (fun g h' e'=>?_) fun g h' sh' o=>?_
 ·rw [oP] at g ⊢
  exact k0 g h' (e17.trans e')
 ·rw [oP] at g
  obtain ⟨R',t',o',hR'⟩:=fin h' (il S e c) (mg t.ok.sort _ _) (by rw [sB t.ok.sort];exact sh') o fun j hj hne=>qH t.ok.sort _ _ hne
  exact k1 g h' R' t' (cX.trans (cX.of e17) o') fun b hb=>(hR' b hb).imp id fun x=>Nat.le_trans e17.size x
theorem TAt {e:Int}{c:Cel}{Q:ag->H->Prop}(t:TS h p l ps S slots R) (hk:gH c) (k:∀ h',Ext h h'->Q (atS S c e) h'):F.xeh (some ⟨p,0,none⟩) c e h Q:=by
 unfold F.xeh
 refine aN fun m h1 hm b1 e1 s1=>aN fun m2 h3 hm2 b3 e3 s3=>?_
 have t3:=(t.ext e1).ext e3
 obtain ⟨q,hq⟩:=t.has c
 have c3:=(Blk.cells b1).ext e3
 refine ⟨c,c3,c,c3,TOf t3 hk hq fun h9 e9=>⟨c3.ext e9,?_⟩⟩
 obtain ⟨R0,sh⟩:=(t3.ext e9).sh hq
 refine pI sh fun h12 e12=>?_
 rw [tV]
 have b12:=e12.block (e9.block b3 fun f=>f) fun f=>f
 refine cC b12 (by simp [ag.cells]) fun h14 b14 o14 s14=>?_
 rw [cE (by simp [ag.cells])] at b14
 refine ⟨_,Blk.cells (cs:=(atS S c e).cells) b14,k h14 ((((e1.trans e3).trans e9).trans e12).step o14 fun x hx g=>?_)⟩
 omega
theorem Ei {c:Cel}{Q:ag->H->Prop}(t:TS h p l ps S slots R) (hk:gH c) (k:∀ h',Ext h h'->Q (atS S c 0) h'):F.xeg (some ⟨p,0,none⟩) c h Q:=by
 unfold F.xeg
 refine aN fun m h1 hm b1 e1 s1=>aN fun m2 h3 hm2 b3 e3 s3=>?_
 have t3:=(t.ext e1).ext e3
 obtain ⟨q,hq⟩:=t.has c
 have c3:=(Blk.cells b1).ext e3
 refine ⟨c,c3,c,c3,TOf t3 hk hq fun h9 e9=>⟨c3.ext e9,?_⟩⟩
 obtain ⟨R0,sh⟩:=(t3.ext e9).sh hq
 refine mX sh fun h12 e12=>?_
 rw [tV]
 have b12:=e12.block (e9.block b3 fun f=>f) fun f=>f
 refine cC b12 (by simp [ag.cells]) fun h14 b14 o14 s14=>?_
 rw [cE (by simp [ag.cells])] at b14
 refine ⟨_,Blk.cells (cs:=(atS S c 0).cells) b14,k h14 ((((e1.trans e3).trans e9).trans e12).step o14 fun x hx g=>?_)⟩
 omega
theorem TIs {i:Int}{Q:Bool->H->Prop}(t:TS h p l ps S slots R) (k:Q (decide (0<=i∧i<ps.length)) h):F.xdm (some ⟨p,0,none⟩) i h Q:=by
 unfold F.xdm
 refine ⟨fun g=>?_,fun g=>?_⟩
 ·have g:=of_decide_eq_true g
  simp only [aZ,aC,Nat.add_zero]
  refine t.ldl ?_
  rw [t.len]
  rw [show decide (0<=i∧i<(ps.length:Int))=decide (i<(ps.length:Int)) by rw [decide_eq_decide];omega] at k
  exact k
 ·have g:=of_decide_eq_false g
  rw [decide_eq_false (by omega)] at k
  exact k
theorem TS.nth (t:TS h p l ps S slots R){i:Int}(hi:0<=i∧i<ps.length):∃ q,ps[i.toNat]?=some q∧((i.toNat:Nat):Int)=i:=⟨_,List.getElem?_eq_getElem (by omega),by omega⟩
theorem vF {i:Int}{Q:Int->H->Prop}(t:TS h p l ps S slots R) (k:Q (aR (dZ ps.length i S):Int) h):F.xdf (some ⟨p,0,none⟩) i h Q:=by
 unfold F.xdf
 refine TIs t ?_
 by_cases hi:0<=i∧i<ps.length
 ·unfold dZ at k
  rw [if_pos hi] at k
  rw [decide_eq_true hi]
  obtain ⟨q,hq,hin⟩:=t.nth hi
  refine ⟨fun g=>by simp at g,fun _=>?_⟩
  simp only [aZ,aC,Nat.add_zero]
  refine t.ldl ?_
  rw [← hin]
  refine t.at hq ?_
  simp only [aZ,aC,Nat.add_zero]
  obtain ⟨R0,sh⟩:=t.sh hq
  exact vG sh k
 ·unfold dZ at k
  rw [if_neg hi] at k
  rw [decide_eq_false hi]
  exact ⟨fun _=>k,fun g=>by cases g⟩
theorem CL {i e most:Int}{fr to:Cel}{Q:Sl->H->Prop}(t:TS h p l ps S slots R)
  (k:∀ r h',aU h' r bQ 7 (((cy (dZ ps.length i S) e fr to).take most.toNat).flatMap cW)->dL h r->Ext h h'->Q r h'):F.xei (some ⟨p,0,none⟩) i e fr to most h Q:=by
 unfold F.xei
 refine aN fun m h1 hm b1 e1 s1=>aN fun m2 h3 hm2 b3 e3 s3=>?_
 have t3:=(t.ext e1).ext e3
 have e13:=e1.trans e3
 refine TIs t3 ?_
 by_cases hi:0<=i∧i<ps.length
 ·unfold dZ at k
  rw [if_pos hi] at k
  rw [decide_eq_true hi]
  obtain ⟨q,hq,hin⟩:=t.nth hi
  refine ⟨fun g=>by simp at g,fun _=>?_⟩
  simp only [aZ,aC,Nat.add_zero]
  refine t3.ldl ?_
  conv=>arg 2;rw [← hin]
  obtain ⟨R0,sh⟩:=t3.sh hq
  exact t3.at (K:=fun y14=>_) hq ⟨fr,(Blk.cells b1).ext e3,to,Blk.cells b3,qj sh fun r h' w m' e'=>k r h' w (fun y hy=>Nat.le_trans e13.size (m' y hy)) (e13.trans e')⟩
 ·unfold dZ at k
  rw [if_neg hi] at k
  rw [decide_eq_false hi]
  exact ⟨fun _=>k _ h3 (by simpa [cy] using aU.nil h3 bQ 7) (fun y hy=>by simp [Sl.blk] at hy) e13,fun g=>by cases g⟩
end
theorem rj (f:Nat->Nat) (i:Nat):((List.range (i+1)).map f).sum=((List.range i).map f).sum+f i:=by rw [List.range_succ,List.map_append,List.sum_append];simp
theorem sk (f:Nat->Nat) (i:Nat):kw ((List.range (i+1)).map f)=max (kw ((List.range i).map f)) (f i):=by
 unfold kw;rw [List.range_succ,List.map_append,List.foldl_append];rfl
theorem vn {S:SL}{slots:Nat}(h:aR S<=slots∧slots<=1048576):ck S<=1048576:=by have:=lQ (S:=S);omega
theorem wI {f:Nat->Nat}{B:Nat}:∀ i,(∀ k,k<i->f k<=B)->((List.range i).map f).sum<=i*B
 | 0,_=>by simp
 | i+1,h=>by rw [rj,Nat.succ_mul];have:=wI i fun k hk=>h k (by omega);have:=h i (by omega);omega
section
variable {h h':H}{p:Nat}{l:Sl}{ps:List Nat}{S:SL}{slots:Nat}{R:Nat->Prop}
theorem TS.us (t:TS h p l ps S slots R){k:Nat}(hk:k<ps.length):aR (bR ps.length k S)<=slots∧slots<=1048576:=by
 obtain ⟨R0,sh⟩:=t.sh (List.getElem?_eq_getElem hk)
 exact sh.us
theorem CI {Q:Int->H->Prop}(t:TS h p l ps S slots R) (k:Q (ck S:Int) h):F.xct (some ⟨p,0,none⟩) h Q:=by
 unfold F.xct
 simp only [aZ,aC,Nat.add_zero]
 refine t.ldl ⟨ps.length+1,?_⟩
 rw [t.len]
 have n2:=t.n2
 have key:∀ (d i:Nat),i<=ps.length->ps.length-i<d->F.xct.l1 Q d ((((List.range i).map fun k=>ck (bR ps.length k S)).sum:Nat):Int) l (ps.length:Int) (i:Int) h:=by
  intro d
  induction d with
  | zero=>intro i _ hm;omega
  | succ d ih =>
   intro i hi hm
   unfold F.xct.l1
   refine ⟨fun g=>?_,fun g=>?_⟩
   ·have g:=of_decide_eq_true g
    obtain ⟨q,hq⟩:∃ q,ps[i]?=some q:=⟨_,List.getElem?_eq_getElem (by omega)⟩
    obtain ⟨R0,sh⟩:=t.sh hq
    refine t.at hq ?_
    simp only [aZ,aC,Nat.add_zero]
    refine vu sh ?_
    have hb:=wI (f:=fun k=>ck (bR ps.length k S)) (B:=1048576) i fun k hk=>vn (t.us (by omega))
    have hb2:=vn (t.us (k:=i) (by omega))
    have hb3:i*1048576<=16*1048576:=Nat.mul_le_mul_right _ (by omega)
    rw [w64 (by omega) (by omega),w64 (by omega) (by omega)]
    have:=ih (i+1) (by omega) (by omega)
    rw [rj] at this
    exact_mod_cast this
   ·have g:=of_decide_eq_false g
    rw [show i=ps.length by omega,pw (by have:=t.n1;omega)]
    exact k
 exact key _ 0 (by omega) (by omega)
theorem DM {Q:Int->H->Prop}(t:TS h p l ps S slots R) (k:∀ h',Ext h h'->Q (gp S:Int) h'):F.xcu (some ⟨p,0,none⟩) h Q:=by
 unfold F.xcu
 simp only [aZ,aC,Nat.add_zero]
 refine t.ldl ⟨ps.length+1,?_⟩
 rw [t.len]
 have n2:=t.n2
 have key:∀ (d i:Nat) (hh:H),Ext h hh->i<=ps.length->ps.length-i<d->F.xcu.l1 Q d (((kw ((List.range i).map fun k=>gp (bR ps.length k S)):Nat)):Int) l (ps.length:Int) (i:Int) hh:=by
  intro d
  induction d with
  | zero=>intro i _ _ _ hm;omega
  | succ d ih =>
   intro i hh e hi hm
   unfold F.xcu.l1
   refine ⟨fun g=>?_,fun g=>?_⟩
   ·have g:=of_decide_eq_true g
    obtain ⟨q,hq⟩:∃ q,ps[i]?=some q:=⟨_,List.getElem?_eq_getElem (by omega)⟩
    have te:=t.ext e
    obtain ⟨R0,sh⟩:=te.sh hq
    refine te.at hq (xR sh fun h10 e10=>Aj ?_)
    rw [w64 (by omega) (by omega)]
    have:=ih (i+1) h10 (e.trans e10) (by omega) (by omega)
    rw [sk] at this
    generalize kw ((List.range i).map fun k=>gp (bR ps.length k S))=a at *
    generalize gp (bR ps.length i S)=b at *
    rw [show (if (a:Int)<(b:Int) then (b:Int) else (a:Int))=((max a b:Nat):Int) by split <;> omega]
    exact_mod_cast this
   ·have g:=of_decide_eq_false g
    rw [show i=ps.length by omega,qL (by have:=t.n1;omega)]
    exact k hh e
 exact key _ 0 h (.refl _) (by omega) (by omega)
theorem Ca {e most:Int}{fr to:Cel}{Q:Sl->H->Prop}(t:TS h p l ps S slots R) (hS:S.length<100000)
  (k:∀ r h',aU h' r bQ 7 (((cy S e fr to).take most.toNat).flatMap cW)->dL h r->Ext h h'->Q r h'):F.xcl (some ⟨p,0,none⟩) e fr to most h Q:=by
 unfold F.xcl
 refine aN fun n2 h1 hm b1 e1 s1=>aN fun n4 h3 hm2 b3 e3 s3=>?_
 have t3:=(t.ext e1).ext e3
 have e13:=e1.trans e3
 have n16:=t.n2
 simp only [aZ,aC,Nat.add_zero]
 refine t3.ldl ⟨ps.length+1,?_⟩
 rw [t.len]
 have key:∀ (d i:Nat) (hh:H) (l8:Sl) (ss:List Sl),i<=ps.length->ps.length-i<d->ss.length=i->Ext h3 hh->aU hh l8 eF 1 (ss.flatMap V.cS8)->dL h3 l8 ->
   (∀ (j:Nat) s,ss[j]?=some s->aU hh s bQ 7 (((cy (bR ps.length j S) e fr to).take most.toNat).flatMap cW))->F.xcl.l1 Q d e most ⟨n2,0,none⟩ ⟨n4,0,none⟩ l8 l (ps.length:Int) (i:Int) hh:=by
  intro d
  induction d with
  | zero=>intro i _ _ _ _ hm;omega
  | succ d ih =>
   intro i hh l8 ss hi hm hl ee w mi rows
   unfold F.xcl.l1
   refine ⟨fun g=>?_,fun g=>?_⟩
   ·have g:=of_decide_eq_true g
    obtain ⟨q,hq⟩:∃ q,ps[i]?=some q:=⟨_,List.getElem?_eq_getElem (by omega)⟩
    have te:=t3.ext ee
    obtain ⟨R0,sh⟩:=te.sh hq
    refine te.at hq ⟨fr,((Blk.cells b1).ext e3).ext ee,to,(Blk.cells b3).ext ee,qj sh fun r h18 w18 m18 e18=>?_⟩
    refine dT fun m2 h20 hm2 b20 e20 s20=>?_
    have r20:bS h20 ⟨some ⟨m2,0,none⟩,1,1⟩ 1 ([r].flatMap V.cS8):=dB (by simpa using b20) rfl
    have w20:=(w.ext e18).ext e20
    refine fI (L:=ss) (M:=[r]) V.gO (by omega) qy w20 r20 (fun x v hv=>by simp at hv;subst hv;rfl) (by simp only [List.length_singleton];omega) fun r3 h22 w3 o3 n3=>?_
    have hsz18:=e18.size
    have hsz20:=e20.size
    have hsz:=ee.size
    have m3:dL h3 r3:=fun y hy=>by
     rcases n3 with n3 | ⟨b',n3,n4⟩
     ·exact mi y (by rw [← n3];exact hy)
     ·rw [n3] at hy;cases hy;omega
    rw [w64 (by omega) (by omega)]
    refine ih (i+1) h22 r3 (ss ++ [r]) (by omega) (by omega) (by simp [hl]) (((ee.trans e18).trans e20).mine mi o3) w3 m3 fun j s hs=>?_
    rcases Nat.lt_or_ge j ss.length with hj | hj
    ·rw [List.getElem?_append_left hj] at hs
     exact V.ie (((rows j s hs).ext e18).ext e20) o3 w20 (by decide)
    ·have hj2:j=ss.length:=by
      have:=(List.getElem?_eq_some_iff.1 hs).1
      rw [List.length_append,List.length_singleton] at this;omega
     subst hj2
     rw [List.getElem?_append_right (by omega),Nat.sub_self] at hs
     cases hs
     rw [hl]
     exact V.ie (w18.ext e20) o3 w20 (by decide)
   ·have g:=of_decide_eq_false g
    have hin:i=ps.length:=by omega
    subst hin
    have npos:0<ps.length:=by have:=t.n1;omega
    have hX:=qX t.ok e fr to
    generalize hLs:((List.range ps.length).map fun k=>((cy S e fr to).filter fun r=>decide (rt ps.length r.Cell=k)).take most.toNat)=Ls
    have law:=AC hX npos most.toNat
    rw [hLs] at law
    have hLl:Ls.length=ps.length:=by rw [← hLs];simp
    have hLj:∀ (j:Nat) (A:List aO),Ls[j]?=some A->A=(cy (bR ps.length j S) e fr to).take most.toNat:=fun j A hA=>by
     rw [← hLs] at hA
     have hj:=(List.getElem?_eq_some_iff.1 hA).1
     rw [List.length_map,List.length_range] at hj
     rw [List.getElem?_map,List.getElem?_range hj] at hA
     simp only [Option.map_some,Option.some.injEq] at hA
     rw [← hA,mM]
    have tb:TB hh l8 ss Ls:=⟨w.reads,by rw [hl,hLl],fun j s A hs hA=>by rw [hLj j A hA];exact ⟨(rows j s hs).reads,(rows j s hs).le_cap⟩⟩
    have hlen:(mR Ls).length<100000:=by
     have h1:(mR Ls).length=(Ls.map List.length).sum:=uQ
     have h2:(Ls.map List.length).sum<=S.length:=by
      rw [← hLs,List.map_map,← yB npos S]
      refine AQ _ fun k hk=>?_
      simp only [Function.comp]
      rw [← mM,List.length_take]
      have:(cy (bR ps.length k S) e fr to).length<=(bR ps.length k S).length:=by unfold cy;rw [List.length_map];exact List.length_filter_le _ _
      omega
     omega
    refine xW tb (by omega) hlen fun r h24 w24 m24 e24=>?_
    rw [law] at w24
    exact k r h24 w24 (fun y hy=>by have:=m24 y hy;have:=ee.size;have:=e13.size;omega) ((e13.trans ee).trans e24)
 exact key _ 0 h3 ⟨none,0,0⟩ [] (by omega) (by omega) rfl (.refl _) (by simpa using aU.nil h3 eF 1) (fun y hy=>by simp [Sl.blk] at hy) fun j s hs=>by simp at hs
end
abbrev cBb:Cel:=⟨0,⟨#[98]⟩,0⟩
abbrev ab1:SL:=jJ [] 1 cA (mJ 1)
abbrev ab2:SL:=jJ ab1 1 cBb (mJ 2)
theorem BR:rt 2 cA=0:=by decide +kernel
theorem De:rt 2 cBb=1:=by decide +kernel
theorem D2:nO (bR 2 (rt 2 cA) []) 9 1 cA (mJ 1) true=0:=by rw [BR,qS];decide
theorem D3:nO (bR 2 (rt 2 cBb) ab1) 9 1 cBb (mJ 2) true=0:=by
 have:bR 2 1 ab1=[]:=by
  show bR 2 1 [(cA,_)]=[]
  unfold bR
  rw [List.filter_cons,List.filter_nil,show rt 2 (cA,C.fH ((cx ([]:SL) cA).getD []) ⟨1,mJ 1,false⟩).1=0 from BR];rfl
 rw [De,this];decide
theorem C9:bR 2 1 ab2=[(cBb,[⟨1,mJ 2,false⟩])]:=by
 show bR 2 1 [(cA,[⟨1,mJ 1,false⟩]),(cBb,[⟨1,mJ 2,false⟩])]=_
 unfold bR
 rw [List.filter_cons,List.filter_cons,List.filter_nil]
 simp only [BR,De]
 rfl
theorem B3:(aR (dZ 2 1 ab2):Int)=2:=by
 show (aR (dZ 2 ((1:Nat):Int) ab2):Int)=2
 rw [oO (by omega),C9];rfl
theorem B4:(aR (dZ 2 2 ab2):Int)=0:=by
 unfold dZ;rw [if_neg (by omega)];rfl
theorem zZ {h:H}{Q:Bool->H->Prop}(k:∀ h',Ext h h'->Q true h'):F.xcc h Q:=by
 unfold F.xcc
 refine DN (fun g=>by omega) fun _ _ _ _ h1 p l ps R hps t e1 hR hp ml=>⟨fun g=>by simp at g,fun _=>?_⟩
 have hps:ps.length=2:=by omega
 unfold F.xcc.j2
 refine ⟨fun g=>by simp at g,fun _=>?_⟩
 unfold F.xcc.j1
 refine uX fun h4 e4=>?_
 refine CK (x:=⟨cA,mJ 1⟩) (t.ext e4) (show cA.Key.size<=_ by decide) (q8 1) (fun g=>absurd (by rw [hps];exact D2) g) fun _ h6 R6 t6 o6 hR6=>?_
 have hR6':∀ b,R6 b->h.size<=b:=fun b hb=>(hR6 b hb).elim (hR b) fun x=>by have:=e1.size;have:=e4.size;omega
 refine uX fun h8 e8=>?_
 refine CK (x:=⟨cBb,mJ 2⟩) (t6.ext e8) (show cBb.Key.size<=_ by decide) (q8 2) (fun g=>absurd (by rw [hps];exact D3) g) fun _ h10 R10 t10 o10 hR10=>?_
 have e06:Ext h h6:=o6.base (e1.trans e4) hR
 have e010:Ext h h10:=o10.base (e06.trans e8) hR6'
 refine Ca t10 (by decide) fun r13 h12 w12 m12 e12=>⟨fun _=>⟨fun _=>?_,fun g=>by simp at g⟩,fun g=>by simp at g⟩
 have t12:=t10.ext e12
 have w12:aU h12 r13 bQ 7 (([⟨cA,mJ 1⟩,⟨cBb,mJ 2⟩]:List aO).flatMap cW):=w12
 have hl:=bH dy (by omega) w12
 refine ql (c:=cA) t12 (show cA.Key.size<=_ by decide) fun h16 e16=>?_
 rw [hps,BR]
 refine ⟨fun _=>?_,fun g=>by simp at g⟩
 refine ql (c:=cBb) (t12.ext e16) (show cBb.Key.size<=_ by decide) fun h19 e19=>?_
 rw [hps,De]
 refine ⟨fun _=>⟨fun _=>?_,fun g=>by rw [hl] at g;simp at g⟩,fun g=>by simp at g⟩
 refine sR (i:=1) ((w12.ext e16).ext e19).reads rfl fun a ca=>?_
 have c4:aA h19 (a.add 4)=some (.int .i64 2):=ca 4 _ rfl
 refine aW (by simpa [aC,Addr.add,Nat.add_assoc] using c4) ⟨fun _=>?_,fun g=>by simp at g⟩
 have t19:=(t12.ext e16).ext e19
 refine vF t19 ?_
 rw [hps]
 refine ⟨fun _=>vF t19 ?_,fun g=>absurd (show ((aR (dZ 2 1 ab2):Int) == 2)=false from g) (by rw [B3];decide)⟩
 rw [hps]
 have u2:((aR (dZ 2 2 ab2):Int) == 0)=true:=by rw [B4];rfl
 show Q ((aR (dZ 2 2 ab2):Int) == 0) h19
 rw [u2]
 exact k h19 ((e010.trans e12).trans (e16.trans e19))
structure St0 where
 y:St
 n:Int
abbrev c0 (x:St0):List Value:=(⟨x.y.x,x.n⟩:cO).cells
theorem tu (x:St0):(c0 x).length=16:=rfl
structure pc (h:H) (x:St0):Prop where
 ok:DK h x.y
 n64:-9223372036854775808<=x.n∧x.n<9223372036854775808
section
variable {T:Type}{enc:TypeId×Value->T}{w:World}{base:Nat}{spare:Nat->Bool}{held:Bool}{fuel:Nat}
theorem C5 {β:Type}:∀ {l:List β},l.length=16->∃ a b,a.length=15∧l=a ++ [b]
 | l,h=>by
  have hn:l≠[]:=fun e=>by subst e;cases h
  exact ⟨l.dropLast,l.getLast hn,by rw [List.length_dropLast,h],(List.dropLast_concat_getLast hn).symm⟩
theorem DU {β:Type}:∀ {l:List β},l.length=2->∃ a b,l=[a,b]
 | [a,b],_=>⟨a,b,rfl⟩
theorem wG {cs:List Value}{y:DataW T×List MemPlace}(h:DataW.trod enc PP w base spare held fuel dP cs=some y) (hl:cs.length=16):∃ x:St0,cs=c0 x∧pc w.heap x:=by
 obtain ⟨xs,n,_,_,_,hlen,hf⟩:=DataW.trod_struct mU h
 have hlen2:xs.length=2:=hlen
 have k3:PP.cellsOf 3=1:=by kernel_rfl
 have ks:PP.cellsOf fF=15:=by kernel_rfl
 obtain ⟨a,b,ha,rfl⟩:=C5 hl
 obtain ⟨y0,y1,rfl⟩:=DU hlen2
 have f0:DataW.trod enc PP w base spare held n fF (((a ++ [b]).drop 0).take (PP.cellsOf fF))=some y0:=hf 0 _ rfl
 rw [ks] at f0
 have f1:DataW.trod enc PP w base spare held n 3 (((a ++ [b]).drop 15).take (PP.cellsOf 3))=some y1:=hf 1 _ rfl
 rw [k3] at f1
 rw [List.drop_zero,List.take_left' ha] at f0
 rw [List.drop_left' ha] at f1
 obtain ⟨x0,e0,w0⟩:=yT f0 ha
 obtain ⟨m1,e1,_,w1⟩:=DataW.trod_int ZBM f1
 refine ⟨⟨x0,m1⟩,?_,⟨w0,ir w1⟩⟩
 rw [e0,show [b]=[Value.int .i64 m1] from e1];rfl
theorem wH {v:Value}{y:DataW T×List MemPlace}(h:DataW.trod enc PP w base spare held fuel lR [v]=some y) :
  ∃ (s:Sl) (L:List St0),v=s.enc∧bS w.heap s 16 (L.flatMap c0)∧s.len<=s.cap∧(L≠[]->∀ b,s.blk=some b->b<w.heap.size)∧(∀ x∈L,pc w.heap x)∧L.length<=9223372036854775807:=
 qD c0 (pc w.heap) tu lU (show PP.cellsOf dP=16 from by kernel_rfl) (by omega) h fun n cs y hy hl=>wG hy hl
end
section
variable {h0 h:H}{l:Sl}{L:List St0}{i:Nat}{x:St0}
theorem vj (rd:bS h0 l 16 (L.flatMap c0)) (e:Ext h0 h) (hy:L[i]?=some x){K:Addr->Prop}(kk:∀ a,Cells h a (c0 x)->K a):bD l (i:Int) 16 K:=by
 obtain ⟨p,p1,p2,p3⟩:=gw tu (by omega) (rd.ext e) hy
 have hl:=cz tu (by omega) rd
 exact dK (i:=i) p1 (by have:=(List.getElem?_eq_some_iff.1 hy).1;omega) rfl (kk _ p3)
theorem dD {a:Addr}(c:Cells h a (c0 x)):Cells h ((a.add 0).add 2) x.y.x.Cell.cells:=fun i v hv=>by
 have hi:i<3:=(List.getElem?_eq_some_iff.1 hv).1
 have e:((a.add 0).add 2).add i=a.add (2+i):=by simp [Addr.add,Nat.add_assoc]
 rw [e]
 exact c (2+i) v (by
  match i,hi,hv with
  | 0,_,hv=>exact hv
  | 1,_,hv=>exact hv
  | 2,_,hv=>exact hv)
theorem wF {a:Addr}(c:Cells h a (c0 x)):aA h ((a.add 0).add 0)=some (.int .i64 x.y.x.Kind):=by
 have e:(a.add 0).add 0=a.add 0:=by simp [Addr.add]
 rw [e];exact c 0 _ rfl
theorem pc.key (o:pc h x):gH x.y.x.Cell:=by have:=o.ok.cel.2.2;simp only [maxLen] at this;show x.y.x.Cell.Key.size<=_;omega
end
structure TI (base h:H) (p:Nat) (l:Sl) (ps:List Nat) (S:SL) (slots:Nat):Prop where
 t:∃ R,TS h p l ps S slots R∧∀ b,R b->base.size<=b
 e:Ext base h
 hp:base.size<=p
 hl:dL base l
section
variable {base h h':H}{p:Nat}{l:Sl}{ps:List Nat}{S:SL}{slots:Nat}
abbrev rR (base h h':H):Prop:=cX (fun b=>base.size<=b) h h'
theorem TI.keep {P:Nat->Prop}(t:TI base h p l ps S slots) (e:Ext base h') (o:bI P h h') (hn:∀ b,base.size<=b->lw h b->¬ P b) (h1:¬ P p) (h2:∀ b,l.blk=some b->¬ P b):TI base h' p l ps S slots:=by
 obtain ⟨R,t1,hR⟩:=t.t
 exact ⟨⟨R,t1.keep o (fun b hb=>hn b (hR b hb)) h1 h2,hR⟩,e,t.hp,t.hl⟩
theorem TI.ext (t:TI base h p l ps S slots) (e:Ext h h'):TI base h' p l ps S slots:=t.keep (t.e.trans e) e (fun _ _ _ f=>f) (fun f=>f) fun _ _ f=>f
theorem TI.n1 (t:TI base h p l ps S slots):1<=ps.length:=by obtain ⟨R,t1,_⟩:=t.t;exact t1.n1
theorem TI.n2 (t:TI base h p l ps S slots):ps.length<=16:=by obtain ⟨R,t1,_⟩:=t.t;exact t1.n2
theorem TI.sb (t:TI base h p l ps S slots):Blk h p #[l.enc] tSt:=by obtain ⟨R,t1,_⟩:=t.t;exact t1.sb
theorem TI.own (t:TI base h p l ps S slots):aU h l tPs 1 (ps.flatMap cQ):=by obtain ⟨R,t1,_⟩:=t.t;exact t1.own
theorem TI.blk (t:TI base h p l ps S slots){m:Nat}{c:Array Value}{e:TypeId}(o:bI (·=m) h h') (b:Blk h m c e) (he:¬ ShE e∧e≠tSt∧e≠tPs) (hm:base.size<=m):TI base h' p l ps S slots:=
 t.keep (t.e.step o fun x hx g=>by omega) o (fun x _ ht g=>by subst g;exact iw b he.1 ht) (fun g=>by
  subst g
  have:=t.sb.symm.trans b
  simp at this
  exact he.2.1 this.2.symm) fun x hx g=>by
  subst g
  obtain ⟨c',hc⟩:=t.own.typ hx
  have:=hc.symm.trans b
  simp at this
  exact he.2.2 this.2.symm
theorem tZ {α:Type}{key:α->Cel}{x:α}:∀ S:List α,(eu key S x).length<=S.length+1
 | []=>by simp [eu]
 | y :: r=>by
  unfold eu
  have:=tZ (x:=x) (key:=key) r
  split
  ·simp
  ·split <;> simp <;> omega
theorem Az {S:SL}(e:Int) (c:Cel) (a:ag):(jJ S e c a).length<=S.length+1:=tZ _
theorem yy {S:SL}(e:Int) (c:Cel):(il S e c).length<=S.length+1:=tZ _
abbrev u5 (n:Nat) (S:SL) (slots:Nat) (e:Int) (c:Cel) (a:ag) (b:Bool):Int:=nO (bR n (rt n c) S) slots e c a b
theorem Eh {e:Int}{x:aO}{b:Bool}{Q:Int->H->Prop}(t:TI base h p l ps S slots) (hk:gH x.Cell) (hrt:lW x.Agg b)
  (k:∀ h',TI base h' p l ps (if u5 ps.length S slots e x.Cell x.Agg b=0 then jJ S e x.Cell x.Agg else S) slots->rR base h h'->Q (u5 ps.length S slots e x.Cell x.Agg b) h'):F.xdh (some ⟨p,0,none⟩) e x h Q:=by
 obtain ⟨R,t1,hR⟩:=t.t
 refine CK t1 hk hrt (fun g h' e'=>?_) fun g h' R' t' o hR'=>?_
 ·have:=k h'
  unfold u5 at this
  rw [if_neg g] at this
  exact this (t.ext e') (cX.of e')
 ·have:=k h'
  unfold u5 at this
  rw [if_pos g,g] at this
  have o':rR base h h':=o.mono fun b _ hb=>⟨hR b hb.1,hb.2⟩
  exact this ⟨⟨R',t',fun b hb=>(hR' b hb).elim (hR b) fun x=>Nat.le_trans t.e.size x⟩,o.base t.e hR,t.hp,t.hl⟩ o'
theorem DG {e:Int}{c:Cel}{Q:Int->H->Prop}(t:TI base h p l ps S slots) (hk:gH c)
  (k:∀ h',TI base h' p l ps (if gn S e c=0 then il S e c else S) slots->rR base h h'->Q (gn S e c) h'):F.xej (some ⟨p,0,none⟩) e c h Q:=by
 obtain ⟨R,t1,hR⟩:=t.t
 refine DL t1 hk (fun g h' e'=>?_) fun g h' R' t' o hR'=>?_
 ·have:=k h'
  rw [if_neg g] at this
  exact this (t.ext e') (cX.of e')
 ·have:=k h'
  rw [if_pos g,g] at this
  have o':rR base h h':=o.mono fun b _ hb=>⟨hR b hb.1,hb.2⟩
  exact this ⟨⟨R',t',fun b hb=>(hR' b hb).elim (hR b) fun x=>Nat.le_trans t.e.size x⟩,o.base t.e hR,t.hp,t.hl⟩ o'
theorem Eg {c:Cel}{Q:ag->H->Prop}(t:TI base h p l ps S slots) (hk:gH c) (k:∀ h',Ext h h'->Q (atS S c 0) h'):F.xeg (some ⟨p,0,none⟩) c h Q:=by
 obtain ⟨R,t1,_⟩:=t.t;exact Ei t1 hk k
theorem IAt {c:Cel}{e:Int}{Q:ag->H->Prop}(t:TI base h p l ps S slots) (hk:gH c) (k:∀ h',Ext h h'->Q (atS S c e) h'):F.xeh (some ⟨p,0,none⟩) c e h Q:=by
 obtain ⟨R,t1,_⟩:=t.t;exact TAt t1 hk k
theorem CG {c:Cel}{Q:Int->H->Prop}(t:TI base h p l ps S slots) (hk:gH c) (k:∀ h',Ext h h'->Q ((rt ps.length c:Nat):Int) h'):F.xco (some ⟨p,0,none⟩) c.Key h Q:=by
 obtain ⟨R,t1,_⟩:=t.t;exact ql t1 hk k
theorem CH {i:Int}{Q:Int->H->Prop}(t:TI base h p l ps S slots) (k:Q (aR (dZ ps.length i S):Int) h):F.xdf (some ⟨p,0,none⟩) i h Q:=by
 obtain ⟨R,t1,_⟩:=t.t;exact vF t1 k
theorem CD {Q:Int->H->Prop}(t:TI base h p l ps S slots) (k:Q (ck S:Int) h):F.xct (some ⟨p,0,none⟩) h Q:=by
 obtain ⟨R,t1,_⟩:=t.t;exact CI t1 k
theorem DI {Q:Int->H->Prop}(t:TI base h p l ps S slots) (k:∀ h',Ext h h'->Q (gp S:Int) h'):F.xcu (some ⟨p,0,none⟩) h Q:=by
 obtain ⟨R,t1,_⟩:=t.t;exact DM t1 k
theorem CF {i e most:Int}{fr to:Cel}{Q:Sl->H->Prop}(t:TI base h p l ps S slots)
  (k:∀ r h',aU h' r bQ 7 (((cy (dZ ps.length i S) e fr to).take most.toNat).flatMap cW)->dL h r->Ext h h'->Q r h'):F.xei (some ⟨p,0,none⟩) i e fr to most h Q:=by
 obtain ⟨R,t1,_⟩:=t.t;exact CL t1 k
theorem DJ {e most:Int}{fr to:Cel}{Q:Sl->H->Prop}(t:TI base h p l ps S slots) (hS:S.length<100000)
  (k:∀ r h',aU h' r bQ 7 (((cy S e fr to).take most.toNat).flatMap cW)->dL h r->Ext h h'->Q r h'):F.xcl (some ⟨p,0,none⟩) e fr to most h Q:=by
 obtain ⟨R,t1,_⟩:=t.t;exact Ca t1 hS k
theorem wC (S:SL) (e:Int) (fr to:Cel):(cy S e fr to).length<=S.length:=by unfold cy;rw [List.length_map];exact List.length_filter_le _ _
end
section
variable {h3 hh h18:H}{l8:Sl}{ss:List Sl}{f:Nat->List aO}
end
theorem wu (x:Cel×List Ver) (r:SL) (E:List Int):dp (x :: r) E=(if C.bF x.2 E=[] then [] else [(x.1,C.bF x.2 E)]) ++ dp r E:=by
 unfold dp
 rw [List.map_cons,List.filter_cons]
 by_cases h:C.bF x.2 E=[]
 ·simp [h]
 ·simp [h]
theorem tR (S:SL) (e:Int) (c:Cel):0<=fc S e c∧fc S e c<=2:=by
 unfold fc
 split
 ·omega
 ·unfold pm
  split
  ·omega
  ·split
   ·omega
   ·split
    ·omega
    ·split <;> omega
theorem u3 {A:SL}{y:Cel×List Ver}(E:List Int):dp (A ++ [y]) E=dp A E ++ (if C.bF y.2 E=[] then [] else [(y.1,C.bF y.2 E)]):=by
 unfold dp
 rw [List.map_append,List.filter_append]
 congr 1
 cases hp:C.bF y.2 E with
 | nil=>simp [hp]
 | cons a r=>simp [hp]
theorem nN {S:SL}(hok:SOk S) (E:List Int):aR (dp S E)<=aR S∧(dp S E).length<=S.length:=by
 have:∀ (S:SL),(∀ x∈S,VOk x.2)->aR (dp S E)<=aR S∧(dp S E).length<=S.length:=fun S=>by
  induction S with
  | nil=>intro _;exact ⟨Nat.le_refl _,Nat.le_refl _⟩
  | cons x r ih =>
   intro h
   obtain ⟨i1,i2⟩:=ih fun y hy=>h y (by simp [hy])
   have hu:=lN (h x (by simp)) E
   rw [wu]
   unfold aR at i1 ⊢
   rw [List.map_append,List.sum_append,List.map_cons,List.sum_cons,List.length_append,List.length_cons]
   split <;> simp <;> omega
 exact this S fun x hx=>(hok.ok x hx).2
section
variable {n k:Nat}{S:SL}{E:List Int}
theorem Ay (x:Cel×List Ver) (S:SL) (E:List Int):dp (x :: S) E=if (C.bF x.2 E).isEmpty then dp S E else (x.1,C.bF x.2 E) :: dp S E:=by
 unfold dp;rw [List.map_cons,List.filter_cons]
 cases (C.bF x.2 E).isEmpty <;> simp
def gF (n k:Nat) (S:SL) (E:List Int):SL:=(S.map fun x=>if rt n x.1=k then (x.1,C.bF x.2 E) else x).filter fun x=>!x.2.isEmpty
theorem Aw (x:Cel×List Ver) (S:SL) (hx:x.2≠[]):gF n k (x :: S) E=if rt n x.1=k then (if (C.bF x.2 E).isEmpty then gF n k S E else (x.1,C.bF x.2 E) :: gF n k S E) else x :: gF n k S E:=by
 unfold gF;rw [List.map_cons,List.filter_cons]
 by_cases hk:rt n x.1=k
 ·rw [if_pos hk,if_pos hk]
  cases (C.bF x.2 E).isEmpty <;> simp
 ·rw [if_neg hk,if_neg hk]
  simp [hx]
theorem tW:∀ {S:SL},(∀ x∈S,x.2≠[])->bR n k (gF n k S E)=dp (bR n k S) E
 | [],_=>rfl
 | x :: S,h=>by
  have ih:=tW (S:=S) fun y hy=>h y (List.mem_cons_of_mem _ hy)
  rw [Aw x S (h x (List.mem_cons_self ..)),iy]
  by_cases hk:rt n x.1=k
  ·rw [if_pos hk,if_pos hk,Ay]
   by_cases hp:(C.bF x.2 E).isEmpty
   ·rw [if_pos hp,if_pos hp,ih]
   ·rw [if_neg hp,if_neg hp,iy,if_pos hk,ih]
  ·rw [if_neg hk,if_neg hk,iy,if_neg hk,ih]
theorem qT {j:Nat}(hj:j≠k):∀ {S:SL},(∀ x∈S,x.2≠[])->bR n j (gF n k S E)=bR n j S
 | [],_=>rfl
 | x :: S,h=>by
  have ih:=qT hj (S:=S) fun y hy=>h y (List.mem_cons_of_mem _ hy)
  rw [Aw x S (h x (List.mem_cons_self ..)),iy]
  by_cases hk:rt n x.1=k
  ·rw [if_pos hk,if_neg (show ¬ rt n x.1=j by omega)]
   by_cases hp:(C.bF x.2 E).isEmpty
   ·rw [if_pos hp,ih]
   ·rw [if_neg hp,iy,if_neg (show ¬ rt n x.1=j by omega),ih]
  ·rw [if_neg hk,iy,ih]
theorem BI (h:gI S):gI (gF n k S E):=by
 unfold gF
 refine List.Pairwise.filter _ ?_
 rw [List.pairwise_map]
 refine h.imp fun {a b} hab=>?_
 have ka:(if rt n a.1=k then (a.1,C.bF a.2 E) else a).1=a.1:=by split <;> rfl
 have kb:(if rt n b.1=k then (b.1,C.bF b.2 E) else b).1=b.1:=by split <;> rfl
 simp only [ka,kb];exact hab
theorem Da:(gF n k S E).length<=S.length:=by
 unfold gF
 exact Nat.le_trans (List.length_filter_le _ _) (by rw [List.length_map];exact Nat.le_refl _)
def jA (n:Nat) (i:Int) (S:SL) (E:List Int):SL:=if 0<=i∧i<n then gF n i.toNat S E else S
theorem wq {i:Int}:(jA n i S E).length<=S.length:=by unfold jA;split;exact Da;exact Nat.le_refl _
theorem Ax (hok:SOk S):∀ x∈S,x.2≠[]:=fun x hx=>(hok.ok x hx).2.ne
end
theorem CJ {h:H}{p:Nat}{l:Sl}{ps:List Nat}{S:SL}{slots:Nat}{R:Nat->Prop}{i:Int}{held:Sl}{E:List Int}{Q:Int->H->Prop}(t:TS h p l ps S slots R) (rd:bS h held 1 (E.flatMap cI)) (hE:E.length<1073741824)
  (hlt:E≠[]->∀ b,held.blk=some b->b<h.size∧¬ R b)
  (k:∀ h' R',TS h' p l ps (jA ps.length i S E) slots R'->cX R h h'->(∀ b,R' b->R b∨h.size<=b)->Q ((aR (dZ ps.length i S):Int)-aR (dp (dZ ps.length i S) E)) h'):F.xef (some ⟨p,0,none⟩) i held h Q:=by
 unfold F.xef
 refine TIs t ?_
 by_cases hi:0<=i∧i<ps.length
 ·rw [decide_eq_true hi]
  obtain ⟨q,hq,hin⟩:=t.nth hi
  refine ⟨fun g=>by simp at g,fun _=>?_⟩
  simp only [aZ,aC,Nat.add_zero]
  refine t.ldl ?_
  rw [← hin]
  refine t.at hq ?_
  obtain ⟨R0,sh,hR,hRR,fin⟩:=t.op hq
  refine mz sh rd hE (fun hne b hb=>⟨(hlt hne b hb).1,fun g=>(hRR b g.1).elim (hlt hne b hb).2 fun x=>by have:=(hlt hne b hb).1;omega⟩) hR fun h' sh' o=>?_
  have hpx:jA ps.length ((i.toNat:Nat):Int) S E=gF ps.length i.toNat S E:=by unfold jA;rw [if_pos (by omega)];rfl
  have hpos:=Ax t.ok
  obtain ⟨R',t',o',hR'⟩:=fin h' (gF ps.length i.toNat S E) (BI t.ok.sort) (by rw [tW hpos];exact sh') o fun j hj hne=>qT hne hpos
  have:=k h' R'
  rw [← hin,hpx,oO (by omega)] at this
  exact this t' o' hR'
 ·rw [decide_eq_false hi]
  refine ⟨fun _=>?_,fun g=>by cases g⟩
  have:=k h R
  unfold jA dZ at this
  rw [if_neg hi,if_neg hi] at this
  exact this t (.refl _) fun b hb=>.inl hb
end Go.Proofs.YtjjchpaomgmmdaaGreat.V.S
namespace Go.Proofs.YtjjchpaomgmmdaaGreat.V
open Go Go.Proofs
set_option maxRecDepth 100000
def ud:Go.Shelf.Ren:=⟨fun | 6=>151 | 15=>145 | 14=>166 | 28=>162 | 29=>163 | 20=>173 | 21=>174 | 22=>175 | 23=>176 | 24=>177 | 25=>178 | 26=>179 | 27=>180 | 46=>182 | 47=>168 | 48=>169 | 49=>183 | 50=>184 | 57=>185 | n=>n,fun | 22=>41 | 24=>35 | 25=>50 | 3=>3 | 39=>177 | 0=>0 | 53=>223 | 55=>90 | 4=>4 | 46=>216 | 45=>215 | 50=>166 | 5=>5 | 9=>9 | 66=>227 | 70=>231 | 76=>238 | 77=>239 | n=>n,fun n=>n⟩
theorem srf:SlLaysF0.n6 Tryz.prog ud:={ mixed:=by kernel_rfl,f6:=⟨Tryz.f151.name,by decide,Tryz.func151.trans (congrArg some (by kernel_rfl))⟩,f14:=⟨Tryz.f166.name,by decide,Tryz.func166.trans (congrArg some (by kernel_rfl))⟩,f15:=Tryz.func145.trans (congrArg some (by kernel_rfl)),f20:=⟨Tryz.f173.name,by decide,Tryz.func173.trans (congrArg some (by kernel_rfl))⟩,f21:=⟨Tryz.f174.name,by decide,Tryz.func174.trans (congrArg some (by kernel_rfl))⟩,f22:=⟨Tryz.f175.name,by decide,Tryz.func175.trans (congrArg some (by kernel_rfl))⟩,f23:=⟨Tryz.f176.name,by decide,Tryz.func176.trans (congrArg some (by kernel_rfl))⟩,f24:=⟨Tryz.f177.name,by decide,Tryz.func177.trans (congrArg some (by kernel_rfl))⟩,f25:=⟨Tryz.f178.name,by decide,Tryz.func178.trans (congrArg some (by kernel_rfl))⟩,f26:=⟨Tryz.f179.name,by decide,Tryz.func179.trans (congrArg some (by kernel_rfl))⟩,f27:=⟨Tryz.f180.name,by decide,Tryz.func180.trans (congrArg some (by kernel_rfl))⟩,f28:=Tryz.func162.trans (congrArg some (by kernel_rfl)),f29:=Tryz.func163.trans (congrArg some (by kernel_rfl)),f46:=⟨Tryz.f182.name,by decide,Tryz.func182.trans (congrArg some (by kernel_rfl))⟩,f47:=Tryz.func168.trans (congrArg some (by kernel_rfl)),f48:=Tryz.func169.trans (congrArg some (by kernel_rfl)),f49:=⟨Tryz.f183.name,by decide,Tryz.func183.trans (congrArg some (by kernel_rfl))⟩,f50:=⟨Tryz.f184.name,by decide,Tryz.func184.trans (congrArg some (by kernel_rfl))⟩,f57:=⟨Tryz.f185.name,by decide,Tryz.func185.trans (congrArg some (by kernel_rfl))⟩,t0:=Tryz.underlying0,a0:=Tryz.isAgg0,z0:=Tryz.sizeOf0,v0:=Tryz.zeroValue0,t3:=ZBM,a3:=ZC,z3:=ZQ,v3:=Tryz.zeroValue3,t4:=ZBQ,a4:=Zj,z4:=Z2,v4:=Tryz.zeroValue4,t5:=ZBT,a5:=Tryz.isAgg5,z5:=Tryz.sizeOf5,v5:=Tryz.zeroValue5,t9:=ZBF,a9:=ZP,z9:=Tryz.sizeOf9,v9:=Tryz.zeroValue9,t22:=Tryz.underlying41,a22:=Tryz.isAgg41,z22:=Tryz.sizeOf41,v22:=Tryz.zeroValue41,t25:=Tryz.underlying50,a25:=Tryz.isAgg50,z25:=Tryz.sizeOf50,v25:=Tryz.zeroValue50,t39:=Tryz.underlying177,a39:=Tryz.isAgg177,z39:=Tryz.sizeOf177,v39:=Tryz.zeroValue177,t45:=Tryz.underlying215,a45:=Tryz.isAgg215,z45:=Tryz.sizeOf215,v45:=Tryz.zeroValue215,t46:=Tryz.underlying216,a46:=Tryz.isAgg216,z46:=Tryz.sizeOf216,v46:=Tryz.zeroValue216,t50:=Tryz.underlying166,a50:=Tryz.isAgg166,z50:=Tryz.sizeOf166,v50:=Tryz.zeroValue166,t53:=Tryz.underlying223,a53:=Tryz.isAgg223,z53:=Tryz.sizeOf223,v53:=Tryz.zeroValue223,t55:=Tryz.underlying90,a55:=ZV,z55:=Tryz.sizeOf90,v55:=Tryz.zeroValue90,t66:=Tryz.underlying227,a66:=Tryz.isAgg227,z66:=Tryz.sizeOf227,v66:=Tryz.zeroValue227,t70:=Tryz.underlying231,a70:=Tryz.isAgg231,z70:=Tryz.sizeOf231,v70:=Tryz.zeroValue231,t76:=Tryz.underlying238,a76:=Tryz.isAgg238,z76:=Tryz.sizeOf238,v76:=Tryz.zeroValue238,t77:=Tryz.underlying239,a77:=Tryz.isAgg239,z77:=Tryz.sizeOf239,v77:=Tryz.zeroValue239 }
theorem BY:∀ w,(isAgg (ud.t 24)).run Tryz.prog w=.ok true w:=ZB
theorem AI:∀ w,(Go.sizeOf (ud.t 24)).run Tryz.prog w=.ok 3 w:=ZA
end Go.Proofs.YtjjchpaomgmmdaaGreat.V
