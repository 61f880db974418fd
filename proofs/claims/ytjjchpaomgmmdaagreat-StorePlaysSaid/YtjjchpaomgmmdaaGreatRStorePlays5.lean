/- Parts of the proof of StorePlays; no condition. -/
import Derived.Shelf.SlLaysM
import Derived.Shelf.SortM.Plain
import Derived.Shelf.SortM.SortNone
import Derived.Sort.KeysCollected
import Derived.Sort.OwnSorted
import Derived.Test.YtjjchpaomgmmdaaGreatProg
import Derived.Test.YtjjchpaomgmmdaaGreatRStorePlays4
namespace Go.Proofs.YtjjchpaomgmmdaaGreat.V
open Go
set_option linter.unusedVariables false
set_option linter.unusedSimpArgs false
def ij:List UInt8->Except Int (List UInt8×List UInt8)
 | []=>.error 11
 | b :: r=>if b≠0 then (match ij r with | .ok p=>.ok (b :: p.1,p.2) | .error e=>.error e) else
  match r with
  | []=>.error 11
  | x :: r'=>if x=1 then .ok ([],r') else if x≠255 then .error 12 else (match ij r' with | .ok p=>.ok (0 :: p.1,p.2) | .error e=>.error e)
def beV:Nat->List UInt8->Nat
 | u,[]=>u
 | u,b :: r=>beV (u*256+b.toNat) r
def fO:Cel:=⟨0,⟨#[]⟩,0⟩
def eQ (u:Nat):Int:=IntKind.wrap .i64 (IntKind.wrap .u64 ((u:Int)-9223372036854775808))
def yq (v:UInt8) (key t:List UInt8):Cel×Int:=
 if t.length<8 then (fO,11) else if t.length > 8 then (fO,13) else
 if jI ⟨(v.toNat:Int),⟨key.toArray⟩,eQ (beV 0 t)⟩≠0 then (fO,jI ⟨(v.toNat:Int),⟨key.toArray⟩,eQ (beV 0 t)⟩) else (⟨(v.toNat:Int),⟨key.toArray⟩,eQ (beV 0 t)⟩,0)
def wZ:List UInt8->Cel×Int
 | []=>(fO,11)
 | v :: r=>match ij r with
  | .error e=>(fO,e)
  | .ok p=>yq v p.1 p.2
theorem vp {b:UInt8}{r:List UInt8}(h:b≠0):ij (b :: r)=(match ij r with | .ok p=>.ok (b :: p.1,p.2) | .error e=>.error e):=by
 rw [ij.eq_def];simp only [if_pos h]
theorem qu (v:UInt8) (r:List UInt8):wZ (v :: r)=(match ij r with | .error e=>(fO,e) | .ok p=>yq v p.1 p.2):=rfl
theorem BF {u:Nat}{b:UInt8}(hu:u<72057594037927936):cj .or .u64 (IntKind.wrap .u64 ((u:Int)*(2 ^ (min (8:Int).toNat (IntKind.bits .u64)):Int))) (IntKind.wrap .u64 (b.toNat:Int))=((u*256+b.toNat:Nat):Int):=by
 have hb:b.toNat<256:=b.toNat_lt
 have e1:IntKind.wrap .u64 ((u:Int)*(2 ^ (min (8:Int).toNat (IntKind.bits .u64)):Int))=((u*256:Nat):Int):=by
  rw [show (2 ^ (min (8:Int).toNat (IntKind.bits .u64)):Int)=256 from by simp [IntKind.bits],cg];omega
 have e2:IntKind.wrap .u64 (b.toNat:Int)=((b.toNat:Nat):Int):=by rw [cg];omega
 rw [e1,e2]
 simp only [cj]
 rw [BitVec.ofInt_natCast,BitVec.ofInt_natCast,BitVec.toNat_or,BitVec.toNat_ofNat,BitVec.toNat_ofNat,cg]
 have e3:u*256 % 2 ^ (IntKind.bits .u64)=u*256:=Nat.mod_eq_of_lt (by simp [IntKind.bits];omega)
 have e4:b.toNat % 2 ^ (IntKind.bits .u64)=b.toNat:=Nat.mod_eq_of_lt (by simp [IntKind.bits];omega)
 rw [e3,e4]
 have e5:u*256 ||| b.toNat=u*256+b.toNat:=by
  have:=Nat.two_pow_add_eq_or_of_lt (i:=8) hb u
  rw [show (2:Nat) ^ 8*u=u*256 from by omega] at this
  exact this.symm
 rw [e5];omega
theorem ue {h:H}{n:Nat}{c d:Cel}{K:H->Prop}(b:Blk h n c.cells.toArray aJ) (k:∀ h',Blk h' n d.cells.toArray aJ->bI (·=n) h h'->h'.size=h.size->K h'):stH h ⟨n,0,none⟩ d.cells K:=
 cC b (by simp [ae.cells]) fun h' q1 q2 q3=>k h' (by rw [cE (by simp [ae.cells])] at q1;exact q1) q2 q3
theorem Dg {h:H}{n:Nat}{c:Cel}{s:ByteArray}{K:H->Prop}(b:Blk h n c.cells.toArray aJ) (k:∀ h',Blk h' n (⟨c.View,s,c.Start⟩:Cel).cells.toArray aJ->bI (·=n) h h'->h'.size=h.size->K h'):stH h ⟨n,1,none⟩ [.string s] K:=
 cC b (by simp [ae.cells]) fun h' q1 q2 q3=>k h' (by
  have:iF (ae.cells c).toArray 1 [.string s]=(⟨c.View,s,c.Start⟩:Cel).cells.toArray:=by simp [iF,ae.cells]
  rw [this] at q1;exact q1) q2 q3
theorem AL {h:H}{n:Nat}{c:Cel}{u:Int}{K:H->Prop}(b:Blk h n c.cells.toArray aJ) (k:∀ h',Blk h' n (⟨c.View,c.Key,u⟩:Cel).cells.toArray aJ->bI (·=n) h h'->h'.size=h.size->K h'):stH h ⟨n,2,none⟩ [.int .i64 u] K:=
 cC b (by simp [ae.cells]) fun h' q1 q2 q3=>k h' (by
  have:iF (ae.cells c).toArray 2 [.int .i64 u]=(⟨c.View,c.Key,u⟩:Cel).cells.toArray:=by simp [iF,ae.cells]
  rw [this] at q1;exact q1) q2 q3
theorem jE {h0 h:H}{n:Nat}{c:Cel}{e:Int}{Q:Cel->Int->H->Prop}(k:∀ h',Ext h0 h'->Q fO e h') (e0:Ext h0 h) (hn:h0.size<=n) (b:Blk h n c.cells.toArray aJ) :
  stH h ⟨n,0,none⟩ ((⟨0,(⟨#[]⟩:ByteArray),0⟩:ae).cells) fun h13=>ak h13 ⟨n,0,none⟩ fun y14=>Q y14 e h13:=
 ue b fun h' q1 q2 q3=>⟨fO,q1.cells3,k h' (e0.step q2 fun m hm e=>by omega)⟩
theorem rX {h0:H}{str:ByteArray}{n2 n4:Nat}{Q:Cel->Int->H->Prop}{v:UInt8}{key:List UInt8}(hs:str.size<1000000000000000000) (hn2:h0.size<=n2) (hn4:h0.size<=n4) (hne:n2≠n4){U:Nat}
  (k:∀ h',Ext h0 h'->Q (if jI ⟨(v.toNat:Int),⟨key.toArray⟩,eQ U⟩≠0 then (fO,jI ⟨(v.toNat:Int),⟨key.toArray⟩,eQ U⟩) else (⟨(v.toNat:Int),⟨key.toArray⟩,eQ U⟩,0)).1 (if jI ⟨(v.toNat:Int),⟨key.toArray⟩,eQ U⟩≠0 then (fO,jI ⟨(v.toNat:Int),⟨key.toArray⟩,eQ U⟩) else ((⟨(v.toNat:Int),⟨key.toArray⟩,eQ U⟩:Cel),0)).2 h') :
  ∀ (m i u:Nat) (h:H) (s:Sl) (c2:Cel),Ext h0 h->i<=str.size->str.size<=i+8->u<256 ^ (i+8-str.size)->beV u (str.data.toList.drop i)=U->str.size-i<m->Blk h n2 c2.cells.toArray aJ->Blk h n4 (⟨(v.toNat:Int),⟨#[]⟩,0⟩:Cel).cells.toArray aJ->bS h s 1 (key.flatMap cU) ->
  F.xbi.l2 Q m str ⟨n2,0,none⟩ ⟨n4,0,none⟩ (i:Int) s (u:Int) h
 | 0,i,u,h,s,c2,_,_,_,_,_,hm,_,_,_=>by omega
 | m+1,i,u,h,s,c2,e0,hi,hi8,hu,hU,hm,b2,b4,rd=>by
  unfold F.xbi.l2
  simp only [decide_eq_true_eq,decide_eq_false_iff_not]
  refine ⟨fun g=>⟨by omega,?_⟩,fun g=>?_⟩
  ·obtain ⟨b,hb⟩:∃ b,str.data.toList[i]?=some b:=⟨_,List.getElem?_eq_getElem (by rw [← dC];omega)⟩
   refine jf hb rfl ?_
   have hd:str.data.toList.drop i=b :: str.data.toList.drop (i+1):=by
    obtain ⟨hh,rfl⟩:=List.getElem?_eq_some_iff.1 hb
    exact List.drop_eq_getElem_cons hh
   rw [hd,beV] at hU
   have hp:256 ^ (i+8-str.size)<=256 ^ 7:=Nat.pow_le_pow_right (by omega) (by omega)
   rw [BF (by have:(256:Nat) ^ 7=72057594037927936:=(by decide);omega),show IntKind.wrap .i64 ((i:Int)+1)=((i+1:Nat):Int) from by rw [w64 (by omega) (by omega)];omega]
   have hbl:=b.toNat_lt
   refine rX hs hn2 hn4 hne k m (i+1) _ h s c2 e0 (by omega) (by omega) ?_ hU (by omega) b2 b4 rd
   rw [show i+1+8-str.size=(i+8-str.size)+1 from by omega,Nat.pow_succ]
   have:(u+1)*256<=256 ^ (i+8-str.size)*256:=Nat.mul_le_mul_right _ hu
   omega
  ·have hii:i=str.size:=by omega
   subst hii
   have hd:str.data.toList.drop str.size=[]:=List.drop_eq_nil_of_le (by rw [← dC];omega)
   rw [hd,beV] at hU
   subst hU
   refine xb (l:=key) fj.slice ZBT ZBF rd ?_
   simp only [aC,Nat.zero_add]
   refine Dg b4 fun h1 p1 p2 p3=>AL p1 fun h2 p4 p5 p6=>?_
   have e2:Ext h0 h2:=(e0.step p2 fun m hm e=>by omega).step p5 fun m hm e=>by omega
   have b22:Blk h2 n2 c2.cells.toArray aJ:=p5.block (p2.block b2 hne) hne
   refine ⟨_,p4.cells3,sK fun h3 f1=>?_⟩
   have b23:Blk h3 n2 c2.cells.toArray aJ:=f1.block b22 (fun f=>f)
   have e3:=e2.trans f1
   refine ⟨fun g2=>?_,fun g2=>?_⟩
   ·have g2:jI ⟨(v.toNat:Int),⟨key.toArray⟩,eQ u⟩≠0:=by simpa [eQ] using g2
    simp only [if_pos g2] at k
    exact jE k e3 hn2 b23
   ·have g2:¬ jI ⟨(v.toNat:Int),⟨key.toArray⟩,eQ u⟩≠0:=by simpa [eQ] using g2
    simp only [if_neg g2] at k
    refine ⟨_,Blk.cells3 (c:=⟨(v.toNat:Int),⟨key.toArray⟩,eQ u⟩) (f1.block p4 (fun f=>f)),?_⟩
    exact ue b23 fun h4 q1 q2 q3=>⟨_,q1.cells3,k h4 (e3.step q2 fun m hm e=>by omega)⟩
theorem ol {h0:H}{str:ByteArray}{n2 n4:Nat}{Q:Cel->Int->H->Prop}{v:UInt8}(hs:str.size<140737488355328) (hn2:h0.size<=n2) (hn4:h0.size<=n4) (hne:n2≠n4) :
  ∀ (m i:Nat) (h:H) (s:Sl) (acc:List UInt8),(∀ h',Ext h0 h'->Q (match ij (str.data.toList.drop i) with | .error e=>(fO,e) | .ok p=>yq v (acc ++ p.1) p.2).1 (match ij (str.data.toList.drop i) with | .error e=>(fO,e) | .ok p=>yq v (acc ++ p.1) p.2).2 h') ->
  Ext h0 h->i<=str.size->acc.length<=i->str.size-i<m->Blk h n2 fO.cells.toArray aJ->Blk h n4 (⟨(v.toNat:Int),⟨#[]⟩,0⟩:Cel).cells.toArray aJ->aU h s 5 1 (acc.flatMap cU)->dL h0 s->s.blk≠some n2->s.blk≠some n4->n2<h.size->n4<h.size ->
  F.xbi.l1 Q m str ⟨n2,0,none⟩ ⟨n4,0,none⟩ (i:Int) s h
 | 0,i,h,s,acc,_,_,_,_,hm,_,_,_,_,_,_,_,_=>by omega
 | m+1,i,h,s,acc,k,e0,hi,hacc,hm,b2,b4,ow,mi,hne2,hne4,hl2,hl4=>by
  unfold F.xbi.l1
  rw [beq_iff_eq,beq_eq_false_iff_ne]
  refine ⟨fun g=>?_,fun g=>?_⟩
  ·have hd:str.data.toList.drop i=[]:=List.drop_eq_nil_of_le (by rw [← dC];omega)
   rw [hd] at k
   exact jE k e0 hn2 b2
  ·obtain ⟨b,hb⟩:∃ b,str.data.toList[i]?=some b:=⟨_,List.getElem?_eq_getElem (by rw [← dC];omega)⟩
   have hd:str.data.toList.drop i=b :: str.data.toList.drop (i+1):=by
    obtain ⟨hh,rfl⟩:=List.getElem?_eq_some_iff.1 hb
    exact List.drop_eq_getElem_cons hh
   have hb0:(b.toNat:Int)=0↔b=0:=by
    constructor
    ·intro h;exact UInt8.toNat_inj.1 (by simpa using (by omega:b.toNat=0))
    ·intro h;subst h;rfl
   rw [hd] at k
   refine jf hb rfl ?_
   rw [bne_iff_ne,bne_eq_false_iff_eq,Ne,hb0]
   refine ⟨fun g1=>jf hb rfl ?_,fun g1=>?_⟩
   ·refine eA (f:=cU) b e0 mi ip (by omega) fj ow oi (by omega) fun r h1 q1 q2 q3 q4 q5=>?_
    have hrr:∀ x,x<h.size->s.blk≠some x->r.blk≠some x:=fun x hx hsx=>by
     rcases q5 with q5 | ⟨y,q5,q6⟩
     ·rw [q5];exact hsx
     ·rw [q5];intro e;cases e;omega
    rw [show IntKind.wrap .i64 ((i:Int)+1)=((i+1:Nat):Int) from by rw [w64 (by omega) (by omega)];omega]
    refine ol hs hn2 hn4 hne m (i+1) h1 r (acc ++ [b]) (fun h' e=>?_) q2 (by omega) (by simp;omega) (by omega) (q4.block b2 hne2) (q4.block b4 hne4) q1 q3 (hrr n2 hl2 hne2) (hrr n4 hl4 hne4) (by have:=q4.size;omega) (by have:=q4.size;omega)
    have k:=k h' e
    rw [vp g1] at k
    cases hu:ij (str.data.toList.drop (i+1)) with
    | error x=>rw [hu] at k;exact k
    | ok p=>rw [hu] at k;simpa using k
   ·have g1:b=0:=Classical.not_not.1 (by simpa using g1)
    subst g1
    rw [w64 (n:=(i:Int)+1) (by omega) (by omega),w64 (n:=(i:Int)+2) (by omega) (by omega),beq_iff_eq,beq_eq_false_iff_ne]
    refine ⟨fun g2=>?_,fun g2=>?_⟩
    ·have hd1:str.data.toList.drop (i+1)=[]:=List.drop_eq_nil_of_le (by rw [← dC];omega)
     rw [hd1] at k
     exact jE k e0 hn2 b2
    ·obtain ⟨x,hx⟩:∃ b,str.data.toList[i+1]?=some b:=⟨_,List.getElem?_eq_getElem (by rw [← dC];omega)⟩
     have hd1:str.data.toList.drop (i+1)=x :: str.data.toList.drop (i+2):=by
      obtain ⟨hh,rfl⟩:=List.getElem?_eq_some_iff.1 hx
      exact List.drop_eq_getElem_cons hh
     have hx1:(x.toNat:Int)=1↔x=1:=by
      constructor
      ·intro h;exact UInt8.toNat_inj.1 (by simpa using (by omega:x.toNat=1))
      ·intro h;subst h;rfl
     have hx2:(x.toNat:Int)=255↔x=255:=by
      constructor
      ·intro h;exact UInt8.toNat_inj.1 (by simpa using (by omega:x.toNat=255))
      ·intro h;subst h;rfl
     rw [hd1] at k
     have hun:ij (0 :: x :: str.data.toList.drop (i+2))=if x=1 then .ok ([],str.data.toList.drop (i+2)) else if x≠255 then .error 12 else (match ij (str.data.toList.drop (i+2)) with | .ok p=>.ok (0 :: p.1,p.2) | .error e=>.error e):=by
      rw [ij];simp
     rw [hun] at k
     have hlen:(str.data.toList.drop (i+2)).length=str.size-(i+2):=by rw [List.length_drop,← dC]
     refine jf hx (by rw [w64 (by omega) (by omega)];omega) ?_
     rw [beq_iff_eq,beq_eq_false_iff_ne,Ne,hx1]
     refine ⟨fun g3=>?_,fun g3=>?_⟩
     ·rw [if_pos g3] at k
      simp only [List.append_nil] at k
      unfold yq at k
      rw [hlen] at k
      rw [w64 (by omega) (by omega)]
      simp only [decide_eq_true_eq,decide_eq_false_iff_not]
      refine ⟨fun g4=>?_,fun g4=>⟨fun g5=>?_,fun g5=>⟨str.size+1,?_⟩⟩⟩
      ·rw [if_pos (by omega)] at k;exact jE k e0 hn2 b2
      ·rw [if_neg (by omega),if_pos (by omega)] at k;exact jE k e0 hn2 b2
      ·rw [if_neg (by omega),if_neg (by omega)] at k
       rw [show (i:Int)+2=((i+2:Nat):Int) from by omega]
       exact rX (by omega) hn2 hn4 hne k (str.size+1) (i+2) 0 h s fO e0 (by omega) (by omega) (Nat.pos_of_ne_zero (by exact Nat.pos_iff_ne_zero.1 (Nat.pow_pos (by omega)))) rfl (by omega) b2 b4 ow.reads
     ·rw [if_neg g3] at k
      refine jf hx (by rw [w64 (by omega) (by omega)];omega) ?_
      rw [bne_iff_ne,bne_eq_false_iff_eq,Ne,hx2]
      refine ⟨fun g4=>?_,fun g4=>?_⟩
      ·rw [if_pos g4] at k;exact jE k e0 hn2 b2
      ·have g4:x=255:=Classical.not_not.1 (by simpa using g4)
       rw [if_neg (by simpa using g4)] at k
       refine eA (f:=cU) 0 e0 mi ip (by omega) fj ow oi (by omega) fun r h1 q1 q2 q3 q4 q5=>?_
       have hrr:∀ x,x<h.size->s.blk≠some x->r.blk≠some x:=fun x hx hsx=>by
        rcases q5 with q5 | ⟨y,q5,q6⟩
        ·rw [q5];exact hsx
        ·rw [q5];intro e;cases e;omega
       rw [show (i:Int)+2=((i+2:Nat):Int) from by omega]
       refine ol hs hn2 hn4 hne m (i+2) h1 r (acc ++ [0]) (fun h' e=>?_) q2 (by omega) (by simp;omega) (by omega) (q4.block b2 hne2) (q4.block b4 hne4) q1 q3 (hrr n2 hl2 hne2) (hrr n4 hl4 hne4) (by have:=q4.size;omega) (by have:=q4.size;omega)
       have k:=k h' e
       cases hu:ij (str.data.toList.drop (i+2)) with
       | error x=>rw [hu] at k;exact k
       | ok p=>rw [hu] at k;simpa using k
theorem xL {h:H}{str:ByteArray}{Q:Cel->Int->H->Prop}(hs:str.size<140737488355328) (k:∀ h',Ext h h'->Q (wZ str.data.toList).1 (wZ str.data.toList).2 h'):F.xbi str h Q:=by
 unfold F.xbi
 refine aN fun n h1 e1 e2 e3 e4=>?_
 have hs1:=e3.size
 rw [beq_iff_eq,beq_eq_false_iff_ne,dF,dF]
 refine ⟨fun g=>?_,fun g=>?_⟩
 ·have g:str.data.toList=[]:=g
  rw [g] at k
  exact jE k e3 (by omega) (c:=fO) e2
 ·obtain ⟨v,r,hv⟩:∃ v r,str.data.toList=v :: r:=by
   cases hh:str.data.toList with
   | nil=>exact absurd hh g
   | cons v r=>exact ⟨v,r,rfl⟩
  have hsz:0<str.size:=by rw [dC,hv];simp
  refine jf (i:=0) (b:=v) (by rw [hv];rfl) rfl ?_
  refine aN fun n4 h2 f1 f2 f3 f4=>?_
  have hs2:=f3.size
  refine ue (c:=fO) (d:=⟨IntKind.wrap .i64 (v.toNat:Int),⟨#[]⟩,0⟩) f2 fun h3 q1 q2 q3=>?_
  have hbl:=v.toNat_lt
  rw [w64 (by omega) (by omega)] at q1
  refine ⟨str.size+1,?_⟩
  refine ol (v:=v) hs (n2:=n) (n4:=n4) (h0:=h) (by omega) (by omega) (by omega) _ 1 h3 _ [] (fun h' e=>?_) ((e3.trans f3).step q2 fun m hm e=>by omega) (by omega) (by simp) (by omega) (q2.block (f3.block e2 (fun f=>f)) (by omega)) q1 (aU.nil _ _ _) (dL.nil _ _ _) (by simp [Sl.blk]) (by simp [Sl.blk]) (by omega) (by omega)
  have k:=k h' e
  rw [hv,qu] at k
  rw [show str.data.toList.drop 1=r from by rw [hv];rfl]
  cases hu:ij r with
  | error x=>rw [hu] at k;exact k
  | ok p=>rw [hu] at k;simpa using k
theorem pM:∀ (a b:List UInt8),Lib.compareBytes a b=if a=b then 0 else if Op.bytesLess a b then -1 else 1
 | [],[]=>rfl
 | [],_ :: _=>rfl
 | _ :: _,[]=>rfl
 | a :: ra,b :: rb=>by
  rw [Lib.compareBytes,pM ra rb,Op.bytesLess]
  by_cases h1:a<b
  ·have:a≠b:=fun e=>by subst e;exact absurd h1 (by simp)
   simp [h1,this]
  ·by_cases h2:b<a
   ·have:a≠b:=fun e=>by subst e;exact absurd h2 (by simp)
    simp [h1,h2,this]
   ·have:a=b:=UInt8.le_antisymm (UInt8.not_lt.1 h2) (UInt8.not_lt.1 h1)
    subst this
    simp
def gQ (x y:Int):Int:=if x<y then -1 else if x > y then 1 else 0
def bZ (a b:Cel):Int:=if gQ a.View b.View≠0 then gQ a.View b.View else if qv a.Key b.Key≠0 then qv a.Key b.Key else gQ a.Start b.Start
theorem pg {x y:Int}{h:H}{Q:Int->H->Prop}(k:Q (gQ x y) h):F.xcm x y h Q:=by
 unfold F.xcm F.xck
 unfold gQ at k
 simp only [bne_self_eq_false,Bool.false_eq_true,false_implies,true_implies,true_and,decide_eq_true_eq,decide_eq_false_iff_not]
 by_cases h1:x<y
 ·simp only [h1,if_true] at k;exact ⟨fun _=>k,fun g=>absurd h1 g⟩
 ·simp only [h1,if_false] at k
  by_cases h2:x > y
  ·simp only [h2,if_true] at k;exact ⟨fun g=>absurd g h1,fun _=>⟨fun _=>k,fun g=>absurd h2 g⟩⟩
  ·simp only [h2,if_false] at k;exact ⟨fun g=>absurd g h1,fun _=>⟨fun g=>absurd g h2,fun _=>k⟩⟩
theorem rD {x y:Int}{h:H}{Q:Int->H->Prop}(k:Q (gQ x y) h):F.xet x y h Q:=by
 unfold F.xet F.xed
 unfold gQ at k
 simp only [bne_self_eq_false,Bool.false_eq_true,false_implies,true_implies,true_and,decide_eq_true_eq,decide_eq_false_iff_not]
 by_cases h1:x<y
 ·simp only [h1,if_true] at k;exact ⟨fun _=>k,fun g=>absurd h1 g⟩
 ·simp only [h1,if_false] at k
  by_cases h2:x > y
  ·simp only [h2,if_true] at k;exact ⟨fun g=>absurd g h1,fun _=>⟨fun _=>k,fun g=>absurd h2 g⟩⟩
  ·simp only [h2,if_false] at k;exact ⟨fun g=>absurd g h1,fun _=>⟨fun g=>absurd g h2,fun _=>k⟩⟩
theorem At {n:Nat}{a b c:Int}{h:H}{Q:Int->H->Prop}(bl:Blk h n #[.int .i64 a,.int .i64 b,.int .i64 c] 3) (k:Q (if a≠0 then a else if b≠0 then b else c) h):F.xbg ⟨some ⟨n,0,none⟩,3,3⟩ h Q:=by
 unfold F.xbg
 refine ⟨4,?_⟩
 have c0:aA h ⟨n,0,none⟩=some (.int .i64 a):=bl.cell rfl
 have c1:aA h ⟨n,1,none⟩=some (.int .i64 b):=bl.cell rfl
 have c2:aA h ⟨n,2,none⟩=some (.int .i64 c):=bl.cell rfl
 unfold F.xbg.l1
 refine ⟨fun _=>?_,fun g=>by simp at g⟩
 refine cl (i:=0) rfl (by simp) rfl ?_
 rw [Nat.zero_mul,bA c0,bne_iff_ne,bne_eq_false_iff_eq]
 refine ⟨fun g=>by rw [if_pos g] at k;exact k,fun g=>?_⟩
 rw [if_neg (by simpa using g)] at k
 rw [show IntKind.wrap .i64 (0+1)=((1:Nat):Int) from by decide]
 unfold F.xbg.l1
 refine ⟨fun _=>?_,fun g=>by simp at g⟩
 refine cl (i:=1) rfl (by simp) rfl ?_
 rw [Nat.one_mul,bA c1,bne_iff_ne,bne_eq_false_iff_eq]
 refine ⟨fun g=>by rw [if_pos g] at k;exact k,fun g=>?_⟩
 rw [if_neg (by simpa using g)] at k
 rw [show IntKind.wrap .i64 (((1:Nat):Int)+1)=((2:Nat):Int) from by decide]
 unfold F.xbg.l1
 refine ⟨fun _=>?_,fun g=>by simp at g⟩
 refine cl (i:=2) rfl (by simp) rfl ?_
 rw [show 2*1=2 from rfl,bA c2,bne_iff_ne,bne_eq_false_iff_eq]
 refine ⟨fun g=>k,fun g=>?_⟩
 rw [show IntKind.wrap .i64 (((2:Nat):Int)+1)=((3:Nat):Int) from by decide]
 unfold F.xbg.l1
 refine ⟨fun g=>by simp at g,fun _=>?_⟩
 rw [g] at k;exact k
theorem i9 {a b:Cel}{h:H}{Q:Int->H->Prop}(k:∀ h',Ext h h'->Q (bZ a b) h'):F.xdi a b h Q:=by
 unfold F.xdi
 refine aN fun n h1 e1 e2 e3 e4=>aN fun m h3 f1 f2 f3 f4=>?_
 have b1:Blk h3 n a.cells.toArray aJ:=f3.block e2 (fun f=>f)
 have b2:Blk h3 m b.cells.toArray aJ:=f2
 have a0:aA h3 ⟨n,0,none⟩=some (.int .i64 a.View):=b1.cell rfl
 have a1:aA h3 ⟨n,1,none⟩=some (.string a.Key):=b1.cell rfl
 have a2:aA h3 ⟨n,2,none⟩=some (.int .i64 a.Start):=b1.cell rfl
 have c0:aA h3 ⟨m,0,none⟩=some (.int .i64 b.View):=b2.cell rfl
 have c1:aA h3 ⟨m,1,none⟩=some (.string b.Key):=b2.cell rfl
 have c2:aA h3 ⟨m,2,none⟩=some (.int .i64 b.Start):=b2.cell rfl
 simp only [aC,Nat.zero_add,bA a0,bA c0,eP a1,eP c1,bA a2,bA c2]
 refine pg ⟨c2,a2,c1,a1,?_⟩
 unfold F.xfm F.xfi
 refine ⟨c2,a2,rD ?_⟩
 refine dT fun q h5 g1 g2 g3 g4=>?_
 exact At g2 (k h5 ((e3.trans f3).trans g3))
theorem yg (a:Cel):bZ a a=0:=by
 unfold bZ gQ qv
 rw [pM];simp
theorem tw {x y:List UInt8}:Lib.compareBytes x y=0↔x=y:=by
 rw [pM]
 split
 ·rename_i h;simp [h]
 ·rename_i h;split <;> simp [h]
theorem kZ (a b:UInt8):a<b∨a=b∨b<a:=by
 by_cases h1:a<b
 ·exact .inl h1
 ·by_cases h2:b<a
  ·exact .inr (.inr h2)
  ·exact .inr (.inl (UInt8.le_antisymm (UInt8.not_lt.1 h2) (UInt8.not_lt.1 h1)))
theorem jl {a b:UInt8}(h:a<b):¬ b<a:=fun h2=>by
 rw [UInt8.lt_iff_toNat_lt] at h h2;omega
theorem kY (a:UInt8):¬ a<a:=fun h=>by
 rw [UInt8.lt_iff_toNat_lt] at h;omega
theorem wX:∀ (x y:List UInt8),Lib.compareBytes x y=- Lib.compareBytes y x
 | [],[]=>rfl
 | [],_ :: _=>rfl
 | _ :: _,[]=>rfl
 | a :: x,b :: y=>by
  have ih:=wX x y
  simp only [Lib.compareBytes]
  rcases kZ a b with h | h | h
  ·simp [h,jl h]
  ·subst h;simp [kY,ih]
  ·simp [h,jl h]
theorem uz (x y:List UInt8):Lib.compareBytes x y=-1∨Lib.compareBytes x y=0∨Lib.compareBytes x y=1:=by
 rw [pM];split
 ·simp
 ·split <;> simp
theorem uA:∀ (x y z:List UInt8),Lib.compareBytes x y=-1->Lib.compareBytes y z=-1->Lib.compareBytes x z=-1
 | [],[],z,h,_=>by simp [Lib.compareBytes] at h
 | [],b :: y,[],_,h=>by simp [Lib.compareBytes] at h
 | [],b :: y,c :: z,_,_=>rfl
 | a :: x,[],z,h,_=>by simp [Lib.compareBytes] at h
 | a :: x,b :: y,[],_,h=>by simp [Lib.compareBytes] at h
 | a :: x,b :: y,c :: z,h1,h2=>by
  simp only [Lib.compareBytes] at h1 h2 ⊢
  rcases kZ a b with g | g | g
  ·rcases kZ b c with g2 | g2 | g2
   ·have:a<c:=by rw [UInt8.lt_iff_toNat_lt] at *;omega
    simp [this]
   ·subst g2;simp [g]
   ·simp [g2,jl g2] at h2
  ·subst g
   simp only [kY,if_false] at h1
   rcases kZ a c with g2 | g2 | g2
   ·simp [g2]
   ·subst g2
    simp only [kY,if_false] at h2 ⊢
    exact uA x y z h1 h2
   ·simp [g2,jl g2] at h2
  ·simp [g,jl g] at h1
theorem wY (x y:Int):gQ x y=- gQ y x:=by
 unfold gQ
 rcases Int.lt_trichotomy x y with h | h | h
 ·rw [if_pos h,if_neg (by omega),if_pos (by omega)]
 ·subst h;simp
 ·rw [if_neg (by omega),if_pos (by omega),if_pos (by omega)];rfl
theorem tx {x y:Int}:gQ x y=0↔x=y:=by
 unfold gQ
 split
 ·constructor <;> intro <;> omega
 ·split
  ·constructor <;> intro <;> omega
  ·constructor <;> intro <;> omega
theorem qs (x y:Int):gQ x y=-1∨gQ x y=0∨gQ x y=1:=by
 unfold gQ;split
 ·simp
 ·split <;> simp
theorem pf {x y:Int}:gQ x y=-1↔x<y:=by
 unfold gQ
 split
 ·constructor <;> intro <;> omega
 ·split
  ·constructor <;> intro <;> omega
  ·constructor <;> intro <;> omega
theorem dR (a b:Cel):bZ a b=- bZ b a:=by
 unfold bZ qv
 rw [wY a.View b.View,wX a.Key.data.toList b.Key.data.toList,wY a.Start b.Start]
 split <;> split <;> simp_all <;> omega
theorem cZ (a b:Cel):bZ a b=-1∨bZ a b=0∨bZ a b=1:=by
 unfold bZ qv
 split
 ·exact qs _ _
 ·split
  ·exact uz _ _
  ·exact qs _ _
theorem Bx {a b:ByteArray}(h:a.data.toList=b.data.toList):a=b:=by
 obtain ⟨x⟩:=a
 obtain ⟨y⟩:=b
 congr 1
 exact Array.toList_inj.1 h
theorem dq {a b:Cel}:bZ a b=0↔a=b:=by
 constructor
 ·intro h
  unfold bZ qv at h
  split at h
  ·rename_i g;exact absurd h g
  ·rename_i g
   split at h
   ·rename_i g2;exact absurd h g2
   ·rename_i g2
    have h1:=tx.1 (Classical.not_not.1 g)
    have h2:=Bx (tw.1 (Classical.not_not.1 g2))
    have h3:=tx.1 h
    obtain ⟨v,k,s⟩:=a
    obtain ⟨v',k',s'⟩:=b
    simp only at h1 h2 h3
    rw [h1,h2,h3]
 ·rintro rfl;exact yg a
theorem Cc {a b:Cel}:bZ a b=-1↔gQ a.View b.View=-1∨(a.View=b.View∧(Lib.compareBytes a.Key.data.toList b.Key.data.toList=-1∨(a.Key.data.toList=b.Key.data.toList∧a.Start<b.Start))):=by
 unfold bZ qv
 have r1:=qs a.View b.View
 have r2:=uz a.Key.data.toList b.Key.data.toList
 have z1:=tx (x:=a.View) (y:=b.View)
 have z2:=tw (x:=a.Key.data.toList) (y:=b.Key.data.toList)
 have l3:=pf (x:=a.Start) (y:=b.Start)
 by_cases h1:gQ a.View b.View=0
 ·rw [if_neg (by simp [h1])]
  have e1:=z1.1 h1
  by_cases h2:Lib.compareBytes a.Key.data.toList b.Key.data.toList=0
  ·rw [if_neg (by simp [h2])]
   have e2:=z2.1 h2
   rw [l3]
   constructor
   ·intro h;exact .inr ⟨e1,.inr ⟨e2,h⟩⟩
   ·intro h
    rcases h with h | ⟨_,h | h⟩
    ·omega
    ·omega
    ·exact h.2
  ·rw [if_pos h2]
   constructor
   ·intro h;exact .inr ⟨e1,.inl h⟩
   ·intro h
    rcases h with h | ⟨_,h | h⟩
    ·omega
    ·exact h
    ·exact absurd (z2.2 h.1) h2
 ·rw [if_pos h1]
  constructor
  ·intro h;exact .inl h
  ·intro h
   rcases h with h | h
   ·exact h
   ·exact absurd (z1.2 h.1) h1
theorem gN {a b c:Cel}(h1:bZ a b=-1) (h2:bZ b c=-1):bZ a c=-1:=by
 rw [Cc] at *
 rcases h1 with h1 | ⟨e1,h1⟩
 ·rw [pf] at h1
  rcases h2 with h2 | ⟨e2,_⟩
  ·rw [pf] at h2;exact .inl (pf.2 (by omega))
  ·exact .inl (pf.2 (by omega))
 ·rcases h2 with h2 | ⟨e2,h2⟩
  ·rw [pf] at h2;exact .inl (pf.2 (by omega))
  ·refine .inr ⟨by omega,?_⟩
   rcases h1 with h1 | ⟨k1,h1⟩
   ·rcases h2 with h2 | ⟨k2,h2⟩
    ·exact .inl (uA _ _ _ h1 h2)
    ·rw [← k2];exact .inl h1
   ·rcases h2 with h2 | ⟨k2,h2⟩
    ·rw [k1];exact .inl h2
    ·exact .inr ⟨k1.trans k2,by omega⟩
theorem pe {a b c:Cel}(h1:bZ a b<=0) (h2:bZ b c<=0):bZ a c<=0:=by
 rcases cZ a b with r1 | r1 | r1
 ·rcases cZ b c with r2 | r2 | r2
  ·rw [gN r1 r2];omega
  ·rw [← dq.1 r2,r1];omega
  ·omega
 ·rw [dq.1 r1];exact h2
 ·omega
theorem xg:∀ (k1 k2 t1 t2:List UInt8),Lib.compareBytes (gT k1 ++ 0 :: 1 :: t1) (gT k2 ++ 0 :: 1 :: t2)=if Lib.compareBytes k1 k2≠0 then Lib.compareBytes k1 k2 else Lib.compareBytes t1 t2
 | [],[],t1,t2=>by simp [gT,Lib.compareBytes,kY]
 | [],b :: k2,t1,t2=>by
  simp only [gT]
  by_cases hb:b=0
  ·subst hb;simp [Lib.compareBytes,kY,show (1:UInt8)<255 from by decide]
  ·have:(0:UInt8)<b:=by
    rcases kZ 0 b with h | h | h
    ·exact h
    ·exact absurd h.symm hb
    ·rw [UInt8.lt_iff_toNat_lt] at h;simp at h
   simp [hb,Lib.compareBytes,this]
 | a :: k1,[],t1,t2=>by
  simp only [gT]
  by_cases hb:a=0
  ·subst hb;simp [Lib.compareBytes,kY,show (1:UInt8)<255 from by decide,show ¬ (255:UInt8)<1 from by decide]
  ·have:(0:UInt8)<a:=by
    rcases kZ 0 a with h | h | h
    ·exact h
    ·exact absurd h.symm hb
    ·rw [UInt8.lt_iff_toNat_lt] at h;simp at h
   simp [hb,Lib.compareBytes,this,jl this]
 | a :: k1,b :: k2,t1,t2=>by
  have ih:=xg k1 k2 t1 t2
  have pos:∀ x:UInt8,x≠0->(0:UInt8)<x:=fun x hx=>by
   rcases kZ 0 x with h | h | h
   ·exact h
   ·exact absurd h.symm hx
   ·rw [UInt8.lt_iff_toNat_lt] at h;simp at h
  rcases kZ a b with h | h | h
  ·have hb0:b≠0:=fun e=>by subst e;rw [UInt8.lt_iff_toNat_lt] at h;simp at h
   by_cases ha:a=0
   ·subst ha;simp [gT,hb0,Lib.compareBytes,h]
   ·simp [gT,hb0,ha,Lib.compareBytes,h]
  ·subst h
   by_cases ha:a=0
   ·subst ha;simp [gT,Lib.compareBytes,kY,ih]
   ·simp [gT,ha,Lib.compareBytes,kY,ih]
  ·have ha0:a≠0:=fun e=>by subst e;rw [UInt8.lt_iff_toNat_lt] at h;simp at h
   by_cases hb:b=0
   ·subst hb;simp [gT,ha0,Lib.compareBytes,h,jl h]
   ·simp [gT,ha0,hb,Lib.compareBytes,h,jl h]
def zF (u v:Nat):Int:=if u<v then -1 else if v<u then 1 else 0
theorem zB:∀ (j u v:Nat),Lib.compareBytes (beT u j) (beT v j)=zF (u % 2 ^ (8*j)) (v % 2 ^ (8*j))
 | 0,u,v=>by simp [beT,Lib.compareBytes,zF,Nat.mod_one]
 | j+1,u,v=>by
  have ih:=zB j u v
  simp only [beT,Lib.compareBytes,ih]
  have e:2 ^ (8*(j+1))=2 ^ (8*j)*256:=by rw [show 8*(j+1)=8*j+8 from by omega,Nat.pow_add]
  have hu:u % 2 ^ (8*(j+1))=u % 2 ^ (8*j)+2 ^ (8*j)*(u / 2 ^ (8*j) % 256):=by rw [e,Nat.mod_mul]
  have hv:v % 2 ^ (8*(j+1))=v % 2 ^ (8*j)+2 ^ (8*j)*(v / 2 ^ (8*j) % 256):=by rw [e,Nat.mod_mul]
  rw [hu,hv]
  have pu:=Nat.mod_lt u (Nat.two_pow_pos (8*j))
  have pv:=Nat.mod_lt v (Nat.two_pow_pos (8*j))
  simp only [UInt8.lt_iff_toNat_lt,UInt8.toNat_ofNat']
  have e8:(2:Nat) ^ 8=256:=by decide
  rw [e8]
  generalize u / 2 ^ (8*j) % 256=x at *
  generalize v / 2 ^ (8*j) % 256=y at *
  generalize u % 2 ^ (8*j)=p at *
  generalize v % 2 ^ (8*j)=q at *
  generalize 2 ^ (8*j)=B at *
  unfold zF
  rcases Nat.lt_trichotomy x y with h | h | h
  ·have:B*(x+1)<=B*y:=Nat.mul_le_mul_left _ h
   rw [Nat.mul_add,Nat.mul_one] at this
   rw [if_pos h,if_pos (by omega)]
  ·subst h
   rw [if_neg (by omega),if_neg (by omega)]
   by_cases h1:p<q
   ·rw [if_pos h1,if_pos (by omega)]
   ·rw [if_neg h1,if_neg (show ¬ (p+B*x<q+B*x) by omega)]
    by_cases h2:q<p
    ·rw [if_pos h2,if_pos (by omega)]
    ·rw [if_neg h2,if_neg (by omega)]
  ·have:B*(y+1)<=B*x:=Nat.mul_le_mul_left _ h
   rw [Nat.mul_add,Nat.mul_one] at this
   rw [if_neg (by omega),if_pos h,if_neg (by omega),if_pos (by omega)]
abbrev xO (n:Int):Prop:=-9223372036854775808<=n∧n<9223372036854775808
theorem un {n:Int}(h:xO n):(upU n:Int)=n+9223372036854775808:=by
 rw [AZ,cg,cg];omega
theorem nG {c:Cel}(h:jI c=0):0<=c.View∧c.View<=4∧c.Key.size<=32:=by
 unfold jI at h
 split at h
 ·omega
 ·split at h
  ·omega
  ·omega
theorem Bw {a b:Cel}(ha:jI a=0) (hb:jI b=0) (ia:xO a.Start) (ib:xO b.Start):Lib.compareBytes (kq a) (kq b)=bZ a b:=by
 obtain ⟨a1,a2,a3⟩:=nG ha
 obtain ⟨b1,b2,b3⟩:=nG hb
 unfold kq bZ qv
 simp only [Lib.compareBytes,List.append_assoc,List.cons_append,List.nil_append]
 rw [xg,zB]
 have ua:=un ia
 have ub:=un ib
 have e8:(2:Nat) ^ (8*8)=18446744073709551616:=by decide
 rw [e8,Nat.mod_eq_of_lt (by omega),Nat.mod_eq_of_lt (by omega)]
 have hN:zF (upU a.Start) (upU b.Start)=gQ a.Start b.Start:=by
  unfold zF gQ
  by_cases h1:a.Start<b.Start
  ·rw [if_pos h1,if_pos (by omega)]
  ·rw [if_neg h1,if_neg (by omega)]
   by_cases h2:a.Start > b.Start
   ·rw [if_pos h2,if_pos (by omega)]
   ·rw [if_neg h2,if_neg (by omega)]
 rw [hN]
 have va:(UInt8.ofNat a.View.toNat).toNat=a.View.toNat:=by rw [UInt8.toNat_ofNat'];omega
 have vb:(UInt8.ofNat b.View.toNat).toNat=b.View.toNat:=by rw [UInt8.toNat_ofNat'];omega
 simp only [UInt8.lt_iff_toNat_lt,va,vb]
 unfold gQ
 rcases Int.lt_trichotomy a.View b.View with h | h | h
 ·rw [if_pos (by omega),if_pos (by rw [if_pos h];omega),if_pos h]
 ·rw [h,if_neg (by omega),if_neg (by omega)];simp
 ·rw [if_neg (by omega),if_pos (by omega),if_pos (by rw [if_neg (by omega),if_pos (by omega)];omega),if_neg (by omega),if_pos (by omega)]
theorem sY:∀ (k t:List UInt8),ij (gT k ++ 0 :: 1 :: t)=.ok (k,t)
 | [],t=>by
  show ij (0 :: 1 :: t)=_
  rw [ij.eq_def];simp
 | b :: k,t=>by
  have ih:=sY k t
  by_cases hb:b=0
  ·subst hb
   simp only [gT,if_true,List.cons_append]
   rw [ij.eq_def]
   simp [ih]
  ·simp only [gT,if_neg hb,List.cons_append]
   rw [vp hb,ih]
theorem wW:∀ (j u w:Nat),beV w (beT u j)=w*2 ^ (8*j)+u % 2 ^ (8*j)
 | 0,u,w=>by simp [beT,beV,Nat.mod_one]
 | j+1,u,w=>by
  rw [beT,beV,wW j,UInt8.toNat_ofNat']
  have e:2 ^ (8*(j+1))=2 ^ (8*j)*256:=by rw [show 8*(j+1)=8*j+8 from by omega,Nat.pow_add]
  have hu:u % 2 ^ (8*(j+1))=u % 2 ^ (8*j)+2 ^ (8*j)*(u / 2 ^ (8*j) % 256):=by rw [e,Nat.mod_mul]
  have e8:(2:Nat) ^ 8=256:=by decide
  rw [hu,e,e8,Nat.add_mul,Nat.mul_comm (u / 2 ^ (8*j) % 256),Nat.mul_assoc w 256,Nat.mul_comm 256 (2 ^ (8*j))]
  omega
theorem oj {c:Cel}(h:jI c=0) (i:xO c.Start):wZ (kq c)=(c,0):=by
 obtain ⟨a1,a2,a3⟩:=nG h
 have u:=un i
 unfold kq
 rw [qu]
 simp only [List.append_assoc,List.cons_append,List.nil_append]
 rw [sY]
 simp only [yq,pL]
 rw [if_neg (by omega),if_neg (by omega),wW]
 have e8:(2:Nat) ^ (8*8)=18446744073709551616:=by decide
 have hs:eQ (0*2 ^ (8*8)+upU c.Start % 2 ^ (8*8))=c.Start:=by
  rw [e8,Nat.mod_eq_of_lt (by omega)]
  unfold eQ
  rw [cg,Nat.zero_mul,Nat.zero_add,u]
  unfold IntKind.wrap
  simp [IntKind.bits,IntKind.signed]
  omega
 rw [hs]
 have hv:(((UInt8.ofNat c.View.toNat).toNat:Nat):Int)=c.View:=by rw [UInt8.toNat_ofNat'];omega
 rw [hv]
 have hc:(⟨c.View,⟨c.Key.data.toList.toArray⟩,c.Start⟩:Cel)=c:=by
  obtain ⟨v,⟨k⟩,s⟩:=c
  simp
 rw [hc,if_neg (by simpa using h)]
section
variable {h0 h:H}{n m q:Nat}{a b c:Cel}{Q:Bool->H->Prop}
end
end Go.Proofs.YtjjchpaomgmmdaaGreat.V
namespace Go.Proofs.YtjjchpaomgmmdaaGreat.V.M
open Go Go.Proofs.YtjjchpaomgmmdaaGreat.V
set_option linter.unusedVariables false
set_option linter.unusedSimpArgs false
section
variable {α:Type}(le:α->α->Bool)
def kU (Ls:List (List α)):List α:=Ls.foldr (fun l m=>List.merge l m le) []
variable {le}
theorem me (m:List α):List.merge [] m le=m:=by simp [List.merge]
theorem mG (l:List α):List.merge l [] le=l:=by cases l <;> simp [List.merge]
theorem mF (x y:α) (l m:List α):List.merge (x :: l) (y :: m) le=if le x y then x :: List.merge l (y :: m) le else y :: List.merge (x :: l) m le:=by
 rw [List.merge]
theorem oJ:∀ {Ls:List (List α)}{y:α}{r:List α},kU le Ls=y :: r->∃ (j:Nat) (t:List α),Ls[j]?=some (y :: t)
 | [],y,r,h=>by simp [kU] at h
 | l :: Ls,y,r,h=>by
  have hm:List.merge l (kU le Ls) le=y :: r:=h
  cases l with
  | nil =>
   rw [me] at hm
   obtain ⟨j,t,hj⟩:=oJ hm
   exact ⟨j+1,t,by simpa using hj⟩
  | cons a l =>
   cases hq:kU le Ls with
   | nil =>
    rw [hq,mG] at hm
    cases hm
    exact ⟨0,_,rfl⟩
   | cons b m =>
    rw [hq,mF] at hm
    split at hm
    ·cases hm;exact ⟨0,_,rfl⟩
    ·cases hm
     obtain ⟨j,t,hj⟩:=oJ hq
     exact ⟨j+1,t,by simpa using hj⟩
theorem sF:∀ {Ls:List (List α)},(∀ l∈Ls,l=[])->kU le Ls=[]
 | [],_=>rfl
 | l :: Ls,h=>by
  have h1:=h l (by simp)
  subst h1
  show List.merge [] (kU le Ls) le=[]
  rw [sF fun l hl=>h l (by simp [hl])]
  exact me _
theorem sH:∀ {Ls:List (List α)}{k:Nat}{x:α}{t:List α},Ls[k]?=some (x :: t)->(∀ (j:Nat) y s,j<k->Ls[j]?=some (y :: s)->le y x=false)->(∀ (j:Nat) y s,k<j->Ls[j]?=some (y :: s)->le x y=true) ->
  kU le Ls=x :: kU le (Ls.set k t)
 | [],k,x,t,h,_,_=>by simp at h
 | l :: Ls,0,x,t,h,_,h2=>by
  simp at h
  subst h
  show List.merge (x :: t) (kU le Ls) le=x :: List.merge t (kU le Ls) le
  cases hq:kU le Ls with
  | nil=>rw [mG,mG]
  | cons y r =>
   obtain ⟨j,s,hj⟩:=oJ hq
   rw [mF,if_pos (h2 (j+1) y s (by omega) (by simpa using hj))]
 | l :: Ls,k+1,x,t,h,h1,h2=>by
  have ih:=sH (Ls:=Ls) (k:=k) (x:=x) (t:=t) (by simpa using h) (fun j y s hj hy=>h1 (j+1) y s (by omega) (by simpa using hy)) (fun j y s hj hy=>h2 (j+1) y s (by omega) (by simpa using hy))
  show List.merge l (kU le Ls) le=x :: List.merge l (kU le (Ls.set k t)) le
  rw [ih]
  cases l with
  | nil=>rw [me,me]
  | cons y s =>
   rw [mF,if_neg (by rw [h1 0 y s (by omega) rfl];simp)]
theorem uQ:∀ {Ls:List (List α)},(kU le Ls).length=(Ls.map List.length).sum
 | []=>rfl
 | l :: Ls=>by
  show (List.merge l (kU le Ls) le).length=_
  rw [List.length_merge,uQ];simp
end
section
variable {α:Type} [Inhabited α]
abbrev g (A:List α) (i:Nat):α:=A.getD i default
def swp (A:List α) (i j:Nat):List α:=(A.set i (g A j)).set j (g A i)
theorem p9 (A:List α) (i j:Nat):(swp A i j).length=A.length:=by simp [swp]
theorem zT {A:List α}{i j:Nat}{x:α}(h:i<A.length):g (A.set i x) j=if i=j then x else g A j:=by
 simp only [g,List.getD_eq_getElem?_getD,List.getElem?_set]
 by_cases e:i=j
 ·subst e;simp [h]
 ·simp [e]
theorem zU {A:List α}{i j k:Nat}(hi:i<A.length) (hj:j<A.length):g (swp A i j) k=if k=j then g A i else if k=i then g A j else g A k:=by
 unfold swp
 rw [zT (by simpa using hj),zT hi]
 by_cases e:j=k
 ·subst e;simp
 ·rw [if_neg e,if_neg (show ¬ k=j from fun h=>e h.symm)]
  by_cases e2:i=k
  ·rw [if_pos e2,if_pos e2.symm]
  ·rw [if_neg e2,if_neg (show ¬ k=i from fun h=>e2 h.symm)]
theorem rk {A:List α}{i j:Nat}(hi:i<A.length) (hj:j<A.length):(swp A i j).Perm A:=by
 have e1:g A j=A[j]:=by simp [g,List.getD_eq_getElem?_getD,hj]
 have e2:g A i=A[i]:=by simp [g,List.getD_eq_getElem?_getD,hi]
 unfold swp
 rw [e1,e2]
 exact List.set_set_perm hi hj
variable (lt:α->α->Bool)
def dn:Nat->List α->Nat->Nat->List α×Nat
 | 0,A,n,i=>(A,i)
 | m+1,A,n,i =>
  if n<=2*i+1 then (A,i)
  else if lt (g A (if 2*i+2<n∧lt (g A (2*i+2)) (g A (2*i+1))=true then 2*i+2 else 2*i+1)) (g A i)=true then
   dn m (swp A i (if 2*i+2<n∧lt (g A (2*i+2)) (g A (2*i+1))=true then 2*i+2 else 2*i+1)) n (if 2*i+2<n∧lt (g A (2*i+2)) (g A (2*i+1))=true then 2*i+2 else 2*i+1)
  else (A,i)
def HP (A:List α) (n s:Nat):Prop:=∀ c,0<c->c<n->s<=(c-1) / 2->lt (g A c) (g A ((c-1) / 2))=false
structure Ord:Prop where
 asym:∀ a b,lt a b=true->lt b a=false
 trans:∀ a b c,lt b a=false->lt c b=false->lt c a=false
variable {lt}
theorem tC (o:Ord lt):∀ (m:Nat) (A:List α) (n i s:Nat),n<=A.length->i<n->s<=i->n-i<=m ->
  (∀ c,0<c->c<n->s<=(c-1) / 2->(c-1) / 2≠i->lt (g A c) (g A ((c-1) / 2))=false) ->
  (∀ c,0<c->c<n->(c-1) / 2=i->0<i->s<=(i-1) / 2->lt (g A c) (g A ((i-1) / 2))=false) ->
  HP lt (dn lt m A n i).1 n s∧(dn lt m A n i).1.Perm A∧(dn lt m A n i).1.length=A.length∧∀ k,n<=k->g (dn lt m A n i).1 k=g A k
 | 0,A,n,i,s,hn,hi,hs,hm,h1,h2=>by omega
 | m+1,A,n,i,s,hn,hi,hs,hm,h1,h2=>by
  unfold dn
  by_cases hl:n<=2*i+1
  ·rw [if_pos hl]
   exact ⟨fun c c0 cn cs=>h1 c c0 cn cs (by omega),.refl _,rfl,fun _ _=>rfl⟩
  ·rw [if_neg hl]
   generalize hj:(if 2*i+2<n∧lt (g A (2*i+2)) (g A (2*i+1))=true then 2*i+2 else 2*i+1)=j
   have hj2:(j=2*i+1∨j=2*i+2)∧j<n∧(∀ c,(c=2*i+1∨c=2*i+2)->c<n->lt (g A c) (g A j)=false):=by
    have irr:∀ a,lt a a=false:=fun a=>by
     cases h:lt a a with
     | false=>rfl
     | true=>have:=o.asym a a h;rw [h] at this;cases this
    split at hj
    ·rename_i h
     subst hj
     refine ⟨.inr rfl,h.1,fun c hc hcn=>?_⟩
     rcases hc with rfl | rfl
     ·exact o.asym _ _ h.2
     ·exact irr _
    ·rename_i h
     subst hj
     refine ⟨.inl rfl,by omega,fun c hc hcn=>?_⟩
     rcases hc with rfl | rfl
     ·exact irr _
     ·cases h2:lt (g A (2*i+2)) (g A (2*i+1)) with
      | false=>rfl
      | true=>exact absurd ⟨hcn,h2⟩ h
   obtain ⟨ja,jb,jc⟩:=hj2
   have jp:(j-1) / 2=i:=by omega
   by_cases ht:lt (g A j) (g A i)=true
   ·rw [if_pos ht]
    have hiA:i<A.length:=by omega
    have hjA:j<A.length:=by omega
    have gs:∀ k,g (swp A i j) k=if k=j then g A i else if k=i then g A j else g A k:=fun k=>zU hiA hjA
    obtain ⟨r1,r2,r3,r4⟩:=tC o m (swp A i j) n j s (by rw [p9];exact hn) jb (by omega) (by omega) (fun c c0 cn cs cp=>by
     rw [gs,gs,if_neg (fun h=>by subst h;omega:¬ (c-1) / 2=j)]
     by_cases e1:c=j
     ·subst e1
      rw [if_pos rfl,if_pos jp]
      exact o.asym _ _ ht
     ·rw [if_neg e1]
      by_cases e2:c=i
      ·subst e2
       rw [if_pos rfl,if_neg (by omega)]
       exact h2 j (by omega) jb jp c0 cs
      ·rw [if_neg e2]
       by_cases e3:(c-1) / 2=i
       ·rw [if_pos e3]
        exact jc c (by omega) cn
       ·rw [if_neg e3]
        exact h1 c c0 cn cs e3) (fun c c0 cn cp j0 js=>by
     rw [gs,gs,if_neg (by omega),if_neg (by omega),jp,if_neg (by omega),if_pos rfl,← cp]
     exact h1 c c0 cn (by omega) (by omega))
    exact ⟨r1,r2.trans (rk hiA hjA),by rw [r3,p9],fun k hk=>by rw [r4 k hk,gs,if_neg (by omega),if_neg (by omega)]⟩
   ·rw [if_neg ht]
    have ht':lt (g A j) (g A i)=false:=by simpa using ht
    refine ⟨fun c c0 cn cs=>?_,.refl _,rfl,fun _ _=>rfl⟩
    by_cases e:(c-1) / 2=i
    ·rw [e]
     exact o.trans _ _ _ ht' (jc c (by omega) cn)
    ·exact h1 c c0 cn cs e
theorem Bu (o:Ord lt){A:List α}{n:Nat}(h:HP lt A n 0):∀ c,c<n->lt (g A c) (g A 0)=false:=by
 intro c
 induction c using Nat.strongRecOn with
 | _ c ih =>
  intro hc
  by_cases h0:c=0
  ·subst h0
   cases h:lt (g A 0) (g A 0) with
   | false=>rfl
   | true=>have:=o.asym _ _ h;rw [h] at this;cases this
  ·exact o.trans _ _ _ (ih ((c-1) / 2) (by omega) (by omega)) (h c (by omega) hc (by omega))
end
abbrev Rw8:=aO
abbrev cW (x:Rw8):List Value:=x.cells
theorem dy (x:Rw8):(cW x).length=7:=rfl
abbrev cF (x:bK):List Value:=x.cells
theorem fK (x:bK):(cF x).length=2:=rfl
structure Fr where
 f:bK
 R:List Rw8
instance : Inhabited aO:=⟨⟨⟨0,⟨#[]⟩,0⟩,⟨0,0,0,0⟩⟩⟩
instance : Inhabited Fr:=⟨⟨⟨⟨none,0,0⟩,0⟩,[]⟩⟩
def hdF (a:Fr):Rw8:=a.R.headD default
def or2 (a b:Int):Int:=if a≠0 then a else b
def ltF (a b:Fr):Bool:=decide (or2 (bZ (hdF a).Cell (hdF b).Cell) (gQ a.f.list b.f.list)<0)
theorem zE (a b:Int):(a<b∧gQ a b=-1)∨(a=b∧gQ a b=0)∨(b<a∧gQ a b=1):=by
 unfold gQ
 by_cases h1:a<b
 ·simp [h1]
 ·by_cases h2:b<a
  ·right;right;simp [h1,h2]
  ·right;left;simp [h1,h2];omega
theorem tN {a b:Fr}:ltF a b=true↔bZ (hdF a).Cell (hdF b).Cell=-1∨(bZ (hdF a).Cell (hdF b).Cell=0∧a.f.list<b.f.list):=by
 unfold ltF or2
 rw [decide_eq_true_eq]
 have h1:=cZ (hdF a).Cell (hdF b).Cell
 have h2:=zE a.f.list b.f.list
 split
 ·omega
 ·omega
theorem pU:Ord ltF where
 asym a b h:=by
  cases hb:ltF b a with
  | false=>rfl
  | true =>
   rw [tN] at h hb
   have:=dR (hdF a).Cell (hdF b).Cell
   omega
 trans a b c h1 h2:=by
  cases hc:ltF c a with
  | false=>rfl
  | true =>
   have n1:¬ ltF b a=true:=by rw [h1];simp
   have n2:¬ ltF c b=true:=by rw [h2];simp
   rw [tN] at n1 n2 hc
   have ra:=cZ (hdF b).Cell (hdF a).Cell
   have rb:=cZ (hdF c).Cell (hdF b).Cell
   have a1:=dR (hdF b).Cell (hdF a).Cell
   have a2:=dR (hdF c).Cell (hdF b).Cell
   have a3:=dR (hdF c).Cell (hdF a).Cell
   have l1:bZ (hdF a).Cell (hdF b).Cell<=0:=by omega
   have l2:bZ (hdF b).Cell (hdF c).Cell<=0:=by omega
   have l3:=pe l1 l2
   rcases hc with hc | ⟨hc,hl⟩
   ·omega
   ·have e1:(hdF c).Cell=(hdF a).Cell:=dq.1 hc
    rw [e1] at rb a2 l2 n2
    by_cases hz:bZ (hdF b).Cell (hdF a).Cell=0
    ·omega
    ·omega
theorem Ej (a:Addr):a.add 0=a:=by unfold Addr.add;simp
theorem Cells.pre {h:H}{a:Addr}{x y:List Value}(c:Cells h a (x ++ y)):Cells h a x:=fun i v hv=>c i v (by rw [List.getElem?_append_left (List.getElem?_eq_some_iff.1 hv).1];exact hv)
section
variable {h0 hk h h':H}{n:Nat}{s:Sl}{G:List Fr}
theorem As {n:Nat}{a b:Int}{Q:Int->H->Prop}(bl:Blk h n #[.int .i64 a,.int .i64 b] 3) (k:Q (or2 a b) h):F.xbg ⟨some ⟨n,0,none⟩,2,2⟩ h Q:=by
 unfold F.xbg
 unfold or2 at k
 refine ⟨3,?_⟩
 have c0:aA h ⟨n,0,none⟩=some (.int .i64 a):=bl.cell rfl
 have c1:aA h ⟨n,1,none⟩=some (.int .i64 b):=bl.cell rfl
 unfold F.xbg.l1
 refine ⟨fun _=>?_,fun g=>by simp at g⟩
 refine cl (i:=0) rfl (by simp) rfl ?_
 rw [Nat.zero_mul,bA c0,bne_iff_ne,bne_eq_false_iff_eq]
 refine ⟨fun g=>by rw [if_pos g] at k;exact k,fun g=>?_⟩
 rw [if_neg (by simpa using g)] at k
 rw [show IntKind.wrap .i64 (0+1)=((1:Nat):Int) from by decide]
 unfold F.xbg.l1
 refine ⟨fun _=>?_,fun g=>by simp at g⟩
 refine cl (i:=1) rfl (by simp) rfl ?_
 rw [Nat.one_mul,bA c1,bne_iff_ne,bne_eq_false_iff_eq]
 refine ⟨fun g=>k,fun g=>?_⟩
 rw [show IntKind.wrap .i64 (((1:Nat):Int)+1)=((2:Nat):Int) from by decide]
 unfold F.xbg.l1
 refine ⟨fun g=>by simp at g,fun _=>?_⟩
 rw [g] at k;exact k
structure nY (hk h:H):Prop where
 w:∀ {r:Sl}{e:TypeId}{k:Nat}{cs:List Value},aU hk r e k cs->e≠ej->e≠eB->aU h r e k cs
theorem nY.refl (h:H):nY h h:=⟨fun w _ _=>w⟩
theorem fz {h:H}{s:Sl}{n:Nat}{cs:List Value}{k:Nat}{c:Array Value}{e e':TypeId}(w:aU h s e k cs) (b:Blk h n c e') (he:e≠e'):s.blk≠some n:=fun hb=>by
 obtain ⟨_,⟨q1,q2,q3⟩ | ⟨b',c',q1,q2,_⟩⟩:=w
 ·simp [Sl.blk,q1] at hb
 ·simp [Sl.blk,q1] at hb
  subst hb
  unfold Blk at q2 b
  rw [q2] at b;cases b;exact he rfl
theorem nY.ext {hk h h':H}(k:nY hk h) (e:Ext h h'):nY hk h':=⟨fun w h1 h2=>(k.w w h1 h2).ext e⟩
theorem nY.blk {hk h h':H}{n:Nat}{c:Array Value}{e':TypeId}(k:nY hk h) (o:bI (·=n) h h') (b:Blk h n c e') (he:e'=ej∨e'=eB):nY hk h':=⟨fun w h1 h2 =>
 (k.w w h1 h2).only o fun y hy hf=>fz (k.w w h1 h2) b (fun e=>by rcases he with he | he;exact h1 (e.trans he);exact h2 (e.trans he)) (by rw [hy,hf])⟩
theorem nY.own {hk h h':H}{s:Sl}{m:Nat}{ds:List Value}(k:nY hk h) (o:bI (fun b=>s.blk=some b) h h') (ws:aU h s ej m ds):nY hk h':=⟨fun w h1 h2 =>
 (k.w w h1 h2).only o fun y hy hf=>by
  obtain ⟨_,⟨q1,q2,q3⟩ | ⟨b',c',q1,q2,_⟩⟩:=ws
  ·simp [Sl.blk,q1] at hf
  ·simp [Sl.blk,q1] at hf
   subst hf
   exact fz (k.w w h1 h2) q2 h1 hy⟩
structure FS (h0 hk h:H) (n:Nat) (s:Sl) (G:List Fr):Prop where
 var:Blk h n #[s.enc] eB
 own:aU h s ej 2 ((G.map (·.f)).flatMap cF)
 mine:dL h0 s
 lo:h0.size<=n
 ext:Ext h0 h
 rows:∀ f∈G,f.R≠[]->bS h0 f.f.rows 7 (f.R.flatMap cW)
 kp:nY hk h
theorem jy {i:Nat}(hi:i<G.length):G[i]?=some (g G i):=by simp [g,List.getD_eq_getElem?_getD,hi]
theorem FS.at (v:FS h0 hk h n s G){i:Nat}(hi:i<G.length){K:Addr->Prop}(k:∀ a,Cells h a (cF (g G i).f)->K a):bD s (i:Int) 2 K:=by
 obtain ⟨b,p1,p2⟩:=jz fK (by omega) v.own (i:=i) (x:=(g G i).f) (by rw [List.getElem?_map,jy hi];rfl)
 have hl:=bH fK (by omega) v.own
 rw [List.length_map] at hl
 exact cl (i:=i) p1 (by rw [hl];exact hi) rfl (k _ p2)
theorem FS.e (v:FS h0 hk h n s G) (e:Ext h h'):FS h0 hk h' n s G:=⟨e.block v.var (fun f=>f),v.own.ext e,v.mine,v.lo,v.ext.trans e,v.rows,v.kp.ext e⟩
theorem xo (v:FS h0 hk h n s G){i:Nat}(hi:i<G.length) (hne:(g G i).R≠[]){K:Cel->Prop}(k:K (hdF (g G i)).Cell):bD (g G i).f.rows 0 7 fun a=>ak h (a.add 0) K:=by
 have rd:=v.rows _ (List.mem_of_getElem? (jy hi)) hne
 obtain ⟨x,t,hx⟩:∃ x t,(g G i).R=x :: t:=by
  cases hR:(g G i).R with
  | nil=>exact absurd hR hne
  | cons x t=>exact ⟨x,t,rfl⟩
 have rd':=rd.only v.ext fun _ _ f=>f
 rw [hx] at rd'
 obtain ⟨p,p1,p2,p3⟩:=gw dy (by omega) rd' (i:=0) (x:=x) rfl
 have hl:=cz dy (by omega) rd'
 refine dK (i:=0) p1 (by rw [hl];simp) rfl ?_
 rw [Ej]
 have:hdF (g G i)=x:=by unfold hdF;rw [hx];rfl
 rw [this] at k
 exact ⟨x.Cell,Cells.pre p3,k⟩
theorem io {i j:Nat}{Q:Bool->H->Prop}(v:FS h0 hk h n s G) (hi:i<G.length) (hj:j<G.length) (ni:(g G i).R≠[]) (nj:(g G j).R≠[]) (k:∀ h',Ext h h'->Q (ltF (g G i) (g G j)) h'):F.xdl s (i:Int) (j:Int) h Q:=by
 unfold F.xdl
 have c0:∀ {a:Addr}{x:bK},Cells h a (cF x)->aA h (a.add 0)=some x.rows.enc:=fun c=>c 0 _ rfl
 have c1:∀ {a:Addr}{x:bK},Cells h a (cF x)->aA h (a.add 1)=some (.int .i64 x.list):=fun c=>c 1 _ rfl
 refine v.at hi fun a1 d1=>(bj (c0 d1)).2 (xo v hi ni (v.at hj fun a2 d2=>(bj (c0 d2)).2 (xo v hj nj ?_)))
 refine v.at hi fun a3 d3=>(bA (c1 d3)).2 (v.at hj fun a4 d4=>(bA (c1 d4)).2 ?_)
 refine i9 fun h1 e1=>⟨e1.cell (c1 d4) (fun f=>f),e1.cell (c1 d3) (fun f=>f),pg ?_⟩
 refine dT fun m h2 hm b2 e2 s2=>As b2 (k h2 (e1.trans e2))
theorem rS {i j:Nat}{Q:H->Prop}(v:FS h0 hk h n s G) (hi:i<G.length) (hj:j<G.length) (k:∀ h',FS h0 hk h' n s (swp G i j)->Q h'):F.xdr s (i:Int) (j:Int) h Q:=by
 unfold F.xdr
 have hl:=bH fK (by omega) v.own
 rw [List.length_map] at hl
 refine v.at hj fun a1 d1=>⟨_,d1,v.at hi fun a2 d2=>⟨_,d2,?_⟩⟩
 obtain ⟨b,p1,p2⟩:=jz fK (by omega) v.own (i:=i) (x:=(g G i).f) (by rw [List.getElem?_map,jy hi];rfl)
 refine cl (i:=i) p1 (by rw [hl];exact hi) rfl ?_
 refine ix (i:=i) (x:=(g G j).f) fK v.own p1 (by simpa using hi) fun h1 w1 o1 s1=>?_
 refine cl (i:=j) p1 (by rw [hl];exact hj) rfl ?_
 refine ix (i:=j) (x:=(g G i).f) fK w1 p1 (by simpa using hj) fun h2 w2 o2 s2=>?_
 have o:bI (fun b=>s.blk=some b) h h2:=o1.trans o2 fun _ _ e=>e
 have hnb:s.blk≠some n:=fun hb=>by
  obtain ⟨_,⟨q1,_⟩ | ⟨b',c',q1,q2,_⟩⟩:=v.own
  ·rw [q1] at p1;cases p1
  ·simp [Sl.blk,q1] at hb
   subst hb
   have:=v.var
   unfold Blk at q2 this
   rw [q2] at this;cases this
 refine k h2 ⟨o.block v.var hnb,?_,v.mine,v.lo,v.ext.mine v.mine o,fun f hf=>v.rows f ((rk hi hj).mem_iff.1 hf),v.kp.own o v.own⟩
 have:(swp G i j).map (·.f)=(((G.map (·.f)).set i (g G j).f).set j (g G i).f):=by unfold swp;rw [List.map_set,List.map_set]
 rw [this];exact w2
theorem FS.ldv (v:FS h0 hk h n s G){K:Sl->Prop}(k:K s):ldL h ⟨n,0,none⟩ K:=(bj (v.var.cell (i:=0) rfl)).2 k
theorem yj {n0 i0:Nat}{Q:Bool->H->Prop}:∀ (m i:Nat) (h:H) (G:List Fr),n0<=G.length->n0<1000000->i<1000000->n0-i<=m->FS h0 hk h n s G->(∀ j,j<n0->(g G j).R≠[]) ->
  (∀ h',FS h0 hk h' n s (dn ltF m G n0 i).1->Q (decide ((((dn ltF m G n0 i).2:Nat):Int) > (i0:Int))) h') ->
  F.xad.l2 Q (m+1) (some ⟨n,0,none⟩) (i0:Int) (n0:Int) (i:Int) h:=by
 intro m
 induction m with
 | zero =>
  intro i h G hn hn0 hi hm v ne k
  unfold F.xad.l2
  rw [w64 (n:=2*(i:Int)) (by omega) (by omega),w64 (n:=2*(i:Int)+1) (by omega) (by omega)]
  refine ⟨fun _=>?_,fun g=>by simp at g;omega⟩
  unfold F.xad.j6 F.xad.j1
  refine ⟨fun _=>k h v,fun g=>(by cases g)⟩
 | succ m ih =>
  intro i h G hn hn0 hi hm v ne k
  unfold F.xad.l2
  rw [w64 (n:=2*(i:Int)) (by omega) (by omega),w64 (n:=2*(i:Int)+1) (by omega) (by omega)]
  unfold dn at k
  refine ⟨fun g1=>?_,fun g1=>?_⟩
  ·rw [if_pos (by simp at g1;omega)] at k
   unfold F.xad.j6 F.xad.j1
   exact ⟨fun _=>k h v,fun g=>(by cases g)⟩
  ·have hlt:¬ n0<=2*i+1:=by simp at g1;omega
   rw [if_neg hlt] at k
   rw [decide_eq_false (show ¬ 2*(i:Int)+1<0 by omega)]
   unfold F.xad.j6
   refine ⟨fun g=>(by cases g),fun _=>?_⟩
   unfold F.xad.j3
   rw [w64 (n:=2*(i:Int)+1+1) (by omega) (by omega)]
   have q1:(2*(i:Int)+1)=((2*i+1:Nat):Int):=by omega
   have q2:(2*(i:Int)+1+1)=((2*i+2:Nat):Int):=by omega
   rw [q2,q1]
   -- the lesser child
   have j4:∀ (j:Nat) (h:H),FS h0 hk h n s G->j<n0->(if 2*i+2<n0∧ltF (g G (2*i+2)) (g G (2*i+1))=true then 2*i+2 else 2*i+1)=j->F.xad.j4 Q (F.xad.l2 Q (m+1)) (some ⟨n,0,none⟩) (i0:Int) (n0:Int) (i:Int) (j:Int) h:=by
    intro j h v hj hje
    rw [hje] at k
    have hji:j=2*i+1∨j=2*i+2:=by rw [← hje];split <;> omega
    unfold F.xad.j4
    refine ⟨_,rfl,v.ldv (io v (by omega) (by omega) (ne j hj) (ne i (by omega)) fun h1 e1=>⟨fun g=>?_,fun g=>⟨_,rfl,?_⟩⟩)⟩
    ·rw [if_neg (by simpa using g)] at k
     unfold F.xad.j1
     exact k h1 (v.e e1)
    ·rw [if_pos (by simpa using g)] at k
     have v1:=v.e e1
     refine v1.ldv (rS v1 (by omega) (by omega) fun h2 v2=>?_)
     exact ih j h2 _ (by rw [p9];exact hn) hn0 (by omega) (by omega) v2 (fun q hq=>by
      rw [zU (by omega) (by omega)]
      split
      ·exact ne i (by omega)
      ·split
       ·exact ne j hj
       ·exact ne q hq) k
   have j5:∀ (b:Bool) (h:H),FS h0 hk h n s G->(b=decide (2*i+2<n0∧ltF (g G (2*i+2)) (g G (2*i+1))=true))->F.xad.j5 Q (F.xad.l2 Q (m+1)) (some ⟨n,0,none⟩) (i0:Int) (n0:Int) (i:Int) ((2*i+1:Nat):Int) ((2*i+2:Nat):Int) b h:=by
    intro b h v hb
    unfold F.xad.j5
    refine ⟨fun g=>?_,fun g=>?_⟩
    ·rw [hb] at g
     have hc:=of_decide_eq_true g
     exact j4 _ h v hc.1 (if_pos hc)
    ·rw [hb] at g
     have hc:=of_decide_eq_false g
     exact j4 _ h v (by omega) (if_neg hc)
   refine ⟨fun gg=>⟨_,rfl,v.ldv ?_⟩,fun gg=>j5 _ h v ?_⟩
   ·have hc:2*i+2<n0:=by simp at gg;omega
    refine io v (by omega) (by omega) (ne _ hc) (ne _ (by omega)) fun h1 e1=>j5 _ h1 (v.e e1) ?_
    cases ltF (g G (2*i+2)) (g G (2*i+1)) <;> simp [hc]
   ·have hc:¬ 2*i+2<n0:=by simp at gg;omega
    simp [hc]
theorem oA {n0 i0:Nat}{Q:Bool->H->Prop}(v:FS h0 hk h n s G) (hn:n0<=G.length) (hn0:n0<1000000) (hi:i0<1000000) (ne:∀ j,j<n0->(g G j).R≠[]) (k:∀ h',FS h0 hk h' n s (dn ltF (n0-i0) G n0 i0).1->∀ b,Q b h') :
  F.xad (some ⟨n,0,none⟩) (i0:Int) (n0:Int) h Q:=by
 unfold F.xad
 exact ⟨n0-i0+1,yj (n0-i0) i0 h G hn hn0 hi (Nat.le_refl _) v ne fun h' v'=>k h' v' _⟩
end
section
variable {h0 hk h h':H}{n:Nat}{s:Sl}{G:List Fr}
abbrev uq (G:List Fr):Prop:=HP ltF G G.length 0
theorem xP {Q:H->Prop}:∀ (m:Nat) (i:Nat) (h:H) (G:List Fr),G.length<1000000->i<=G.length / 2->i<m->FS h0 hk h n s G->(∀ f∈G,f.R≠[])->HP ltF G G.length i ->
  (∀ h' G',FS h0 hk h' n s G'->G'.Perm G->uq G'->Q h')->F.xcy.l1 Q m (some ⟨n,0,none⟩) (G.length:Int) ((i:Int)-1) h:=by
 intro m
 induction m with
 | zero=>intro i h G _ _ hm;omega
 | succ m ih =>
  intro i h G hn hi hm v ne hp k
  unfold F.xcy.l1
  refine ⟨fun g=>?_,fun g=>?_⟩
  ·have hi0:0<i:=by simp at g;omega
   have e1:((i:Int)-1)=((i-1:Nat):Int):=by omega
   rw [e1]
   have law:=tC pU (G.length-(i-1)) G G.length (i-1) (i-1) (Nat.le_refl _) (by omega) (Nat.le_refl _) (Nat.le_refl _) (fun c c0 cn cs cp=>hp c c0 cn (by omega)) (fun c c0 cn cp c1 c2=>by omega)
   refine oA v (Nat.le_refl _) hn (by omega) (fun j hj=>ne _ (List.mem_of_getElem? (jy hj))) fun h1 v1 b=>?_
   rw [w64 (by omega) (by omega)]
   obtain ⟨r1,r2,r3,r4⟩:=law
   have:=ih (i-1) h1 (dn ltF (G.length-(i-1)) G G.length (i-1)).1 (by rw [r3];exact hn) (by rw [r3];omega) (by omega) v1 (fun f hf=>ne f (r2.mem_iff.1 hf)) (by rw [r3];exact r1) fun h' G' v' p' hp'=>k h' G' v' (p'.trans r2) hp'
   rw [r3] at this
   exact this
  ·have:i=0:=by simp at g;omega
   subst this
   exact k h G v (.refl _) hp
theorem D6 {a:Nat}:Int.tdiv (a:Int) 2=((a / 2:Nat):Int):=by
 rw [Int.tdiv_eq_ediv_of_nonneg (by omega)];omega
theorem xQ {Q:H->Prop}(v:FS h0 hk h n s G) (ne:∀ f∈G,f.R≠[]) (hn:G.length<1000000) (k:∀ h' G',FS h0 hk h' n s G'->G'.Perm G->uq G'->Q h'):F.xcy (some ⟨n,0,none⟩) h Q:=by
 unfold F.xcy
 refine ⟨_,rfl,v.ldv ?_⟩
 unfold F.xdg
 have hl:=bH fK (by omega) v.own
 rw [List.length_map] at hl
 rw [hl]
 refine ⟨by decide,G.length / 2+1,?_⟩
 rw [D6,w64 (n:=((G.length / 2:Nat):Int)) (by omega) (by omega),w64 (by omega) (by omega)]
 exact xP (G.length / 2+1) (G.length / 2) h G hn (by omega) (by omega) v ne (fun c c0 cn cs=>by omega) k
theorem qi {Q:Value->H->Prop}(v:FS h0 hk h n s G) (hG:0<G.length) (hn:G.length<1000000) (k:∀ u h' s',FS h0 hk h' n s' G.dropLast->Q u h'):F.xex (some ⟨n,0,none⟩) h Q:=by
 unfold F.xex
 have hl:=bH fK (by omega) v.own
 rw [List.length_map] at hl
 refine ⟨_,rfl,v.ldv ?_⟩
 rw [hl,w64 (by omega) (by omega)]
 have e1:((G.length:Int)-1)=((G.length-1:Nat):Int):=by omega
 rw [e1]
 refine v.at (by omega) fun a1 d1=>⟨_,d1,?_⟩
 refine aN fun m h1 hm b1 x1 s1=>?_
 refine cC b1 (by simp [bK.cells]) fun h2 b2 o2 s2=>?_
 rw [cE (by simp [bK.cells])] at b2
 have x2:Ext h h2:=x1.step o2 fun y hy e=>by omega
 have v2:=v.e x2
 have hcap:s.len<=s.cap∧s.cap<=maxLen∧∃ b,s.ptr=some ⟨b,0,none⟩:=by
  obtain ⟨_,⟨q1,q2,q3⟩ | ⟨b',c',q1,q2,q3,q4,q5,q6⟩⟩:=v.own
  ·omega
  ·exact ⟨q4,q5,b',q1⟩
 refine ⟨cS s 0 (G.length-1) 2,⟨by omega,by omega,by omega,by simp⟩,⟨_,rfl,?_⟩⟩
 refine cC v2.var (by simp) fun h3 b3 o3 s3=>?_
 rw [cE (by simp)] at b3
 have hmn:m≠n:=by have:=dx v.var;omega
 have b2':Blk h3 m _ _:=o3.block b2 (fun e=>hmn e)
 refine ⟨_,fun j u hu=>by rw [aC,Nat.zero_add];exact b2'.cell (by simpa using hu),?_⟩
 have hnb:s.blk≠some n:=fun hb=>by
  obtain ⟨_,⟨q1,q2,q3⟩ | ⟨b',c',q1,q2,_⟩⟩:=v2.own
  ·simp [Sl.blk,q1] at hb
  ·simp [Sl.blk,q1] at hb
   subst hb
   have:=v2.var
   unfold Blk at q2 this
   rw [q2] at this;cases this
 have hb0:=hcap.2.2
 obtain ⟨b,hb⟩:=hb0
 have hcut:cS s 0 (G.length-1) 2=⟨some ⟨b,0,none⟩,G.length-1,s.cap⟩:=by
  unfold cS
  rw [if_neg (by omega),hb]
  simp [aC]
 rw [hcut] at b3
 have w2:=v2.own
 refine k _ h3 _ ⟨b3,?_,fun y hy=>v.mine y (by simp [Sl.blk] at hy ⊢;simp [hb,hy]),v.lo,v2.ext.step o3 fun y hy e=>by have:=v.lo;omega,fun f hf=>v.rows f (List.dropLast_subset _ hf),v2.kp.blk o3 v2.var (.inr rfl)⟩
 have w3:=w2.only o3 fun y hy e=>hnb (by rw [← e];exact hy)
 obtain ⟨r1,⟨q1,q2,q3⟩ | ⟨b',c',q1,q2,q3,q4,q5,q6⟩⟩:=w3
 ·omega
 ·rw [hb] at q1
  cases q1
  have hfl:((G.map (·.f)).flatMap cF).length=G.length*2:=by rw [cq _ 2 fK];simp
  have hdl:((G.dropLast.map (·.f)).flatMap cF)=((G.map (·.f)).flatMap cF).take ((G.length-1)*2):=by
   have hne:G≠[]:=by intro e;subst e;simp at hG
   have hGs:=List.dropLast_concat_getLast hne
   have hfd:((G.dropLast.map (·.f)).flatMap cF).length=(G.length-1)*2:=by rw [cq _ 2 fK];simp
   have e:((G.map (·.f)).flatMap cF)=((G.dropLast.map (·.f)).flatMap cF) ++ (([G.getLast hne].map (·.f)).flatMap cF):=by rw [← List.flatMap_append,← List.map_append,hGs]
   rw [e,List.take_left' hfd]
  refine ⟨by rw [hdl];simp [hfl],.inr ⟨b,c',rfl,q2,q3,by show G.length-1<=s.cap;omega,q5,?_⟩⟩
  rw [hdl,List.length_take,hfl,Nat.min_eq_left (by omega)]
  rw [hfl] at q6
  rw [← q6,List.take_take,Nat.min_eq_left (by omega)]
theorem qx {A:List Fr}{c:Nat}(h:c<A.length-1):g A.dropLast c=g A c:=by
 simp only [g,List.getD_eq_getElem?_getD]
 rw [List.getElem?_dropLast,if_pos h]
theorem zo {Q:Value->H->Prop}(v:FS h0 hk h n s G) (hG:0<G.length) (hn:G.length<1000000) (hp:∀ c,0<c->c<G.length->(c-1) / 2≠0->ltF (g G c) (g G ((c-1) / 2))=false) (ne:∀ j,0<j->j<G.length->(g G j).R≠[])
  (k:∀ u h' s' G',FS h0 hk h' n s' G'->(g G 0 :: G').Perm G->uq G'->Q u h'):F.xek (some ⟨n,0,none⟩) h Q:=by
 unfold F.xek
 have hl:=bH fK (by omega) v.own
 rw [List.length_map] at hl
 refine ⟨_,rfl,v.ldv ?_⟩
 unfold F.xdg
 rw [hl]
 refine ⟨_,rfl,v.ldv ?_⟩
 rw [w64 (by omega) (by omega)]
 have e1:((G.length:Int)-1)=((G.length-1:Nat):Int):=by omega
 rw [e1]
 have q0:(0:Int)=((0:Nat):Int):=rfl
 rw [q0]
 refine rS v (by omega) (by omega) fun h1 v1=>?_
 have hgs:∀ k,g (swp G 0 (G.length-1)) k=if k=G.length-1 then g G 0 else if k=0 then g G (G.length-1) else g G k:=fun k=>zU (by omega) (by omega)
 have hsl:=p9 G 0 (G.length-1)
 have key:∀ (A:List Fr),A.length=G.length->A.Perm (swp G 0 (G.length-1))->(∀ c,G.length-1<=c->g A c=g (swp G 0 (G.length-1)) c)->HP ltF A (G.length-1) 0->(g G 0 :: A.dropLast).Perm G∧uq A.dropLast:=by
  intro A hA hperm hback hhp
  constructor
  ·have hne:A≠[]:=by intro e;rw [e] at hA;simp at hA;omega
   have hlast:A.getLast hne=g G 0:=by
    have:g A (G.length-1)=g G 0:=by rw [hback _ (Nat.le_refl _),hgs,if_pos rfl]
    rw [List.getLast_eq_getElem,← this]
    simp [g,List.getD_eq_getElem?_getD,hA,hG]
    rw [List.getElem?_eq_getElem (by omega)];rfl
   have h1:(A.dropLast ++ [g G 0]).Perm G:=by
    rw [← hlast,List.dropLast_concat_getLast hne]
    exact hperm.trans (rk (by omega) (by omega))
   exact (List.perm_append_singleton _ _).symm.trans h1
  ·intro c c0 cn cs
   rw [List.length_dropLast,hA] at cn
   rw [qx (by omega),qx (by omega)]
   exact hhp c c0 cn cs
 refine oA v1 (by omega) (by omega) (by omega) (fun j hj=>by
  rw [hgs,if_neg (by omega)]
  split
  ·exact ne _ (by omega) (by omega)
  ·exact ne j (by omega) (by omega)) fun h2 v2 b=>?_
 by_cases h1n:G.length=1
 ·have hd:(dn ltF (G.length-1-0) (swp G 0 (G.length-1)) (G.length-1) 0).1=swp G 0 (G.length-1):=by
   rw [h1n];rfl
  rw [hd] at v2
  obtain ⟨r1,r2⟩:=key _ hsl (.refl _) (fun _ _=>rfl) (fun c c0 cn cs=>by omega)
  exact qi v2 (by omega) (by omega) fun u h3 s3 v3=>k u h3 s3 _ v3 r1 r2
 ·obtain ⟨r1,r2,r3,r4⟩:=tC pU (G.length-1-0) (swp G 0 (G.length-1)) (G.length-1) 0 0 (by omega) (by omega) (Nat.le_refl _) (by omega) (fun c c0 cn cs cp=>by
   rw [hgs,hgs,if_neg (by omega),if_neg (by omega),if_neg (by omega),if_neg (by omega)]
   exact hp c c0 (by omega) cp) (fun c c0 cn cp c1 c2=>by omega)
  obtain ⟨t1,t2⟩:=key _ (by omega) r2 r4 r1
  exact qi v2 (by omega) (by omega) fun u h3 s3 v3=>k u h3 s3 _ v3 t1 t2
theorem zg {Q:H->Prop}(v:FS h0 hk h n s G) (hG:0<G.length) (hn:G.length<1000000) (ne:∀ f∈G,f.R≠[]) (h1:∀ c,0<c->c<G.length->(c-1) / 2≠0->ltF (g G c) (g G ((c-1) / 2))=false)
  (k:∀ h' G',FS h0 hk h' n s G'->G'.Perm G->uq G'->Q h'):F.xey (some ⟨n,0,none⟩) 0 h Q:=by
 unfold F.xey
 have hl:=bH fK (by omega) v.own
 rw [List.length_map] at hl
 refine ⟨_,rfl,v.ldv ?_⟩
 unfold F.xdg
 rw [hl]
 have q0:(0:Int)=((0:Nat):Int):=rfl
 rw [q0]
 obtain ⟨r1,r2,r3,r4⟩:=tC pU (G.length-0) G G.length 0 0 (Nat.le_refl _) hG (Nat.le_refl _) (by omega) (fun c c0 cn cs cp=>h1 c c0 cn cp) (fun c c0 cn cp c1 c2=>by omega)
 refine oA v (Nat.le_refl _) hn (by omega) (fun j hj=>ne _ (List.mem_of_getElem? (jy hj))) fun h2 v2 b=>?_
 have kk:=k h2 _ v2 r2 (by unfold uq;rw [r3];exact r1)
 refine ⟨fun _=>?_,fun _=>kk⟩
 unfold F.xbc
 refine ⟨1,?_⟩
 unfold F.xbc.l1
 refine ⟨by decide,fun _=>?_,fun g=>absurd g (by decide)⟩
 unfold F.xbc.j3
 exact ⟨fun _=>kk,fun g=>(by cases g)⟩
end
theorem ym:El PP eB ej 2 32 (.agg (⟨(⟨none,0,0⟩:Sl),0⟩:bK).cells.toArray):=pG
theorem ed {α:Type}{l:List α}{i:Nat}{x:α}(h:l[i]?=some x):l.take (i+1)=l.take i ++ [x]:=by rw [List.take_add_one,h];rfl
def leC (a b:Rw8):Bool:=decide (bZ a.Cell b.Cell<=0)
abbrev mR (Ls:List (List Rw8)):List Rw8:=kU leC Ls
structure GR (G:List Fr) (Rem:List (List Rw8)):Prop where
 a:∀ f∈G,∃ k:Nat,f.f.list=(k:Int)∧Rem[k]?=some f.R∧f.R≠[]
 b:∀ (k:Nat) R,Rem[k]?=some R->R≠[]->∃ f∈G,f.f.list=(k:Int)∧f.R=R
 nd:(G.map (·.f.list)).Nodup
 cap:∀ f∈G,f.f.rows.len<=f.f.rows.cap
theorem GR.perm {G G':List Fr}{Rem:List (List Rw8)}(r:GR G Rem) (p:G'.Perm G):GR G' Rem:=
 ⟨fun f hf=>r.a f (p.mem_iff.1 hf),fun k R h1 h2=>by obtain ⟨f,hf,h⟩:=r.b k R h1 h2;exact ⟨f,p.mem_iff.2 hf,h⟩,(p.map _).nodup_iff.2 r.nd,fun f hf=>r.cap f (p.mem_iff.1 hf)⟩
theorem GR.ne {G:List Fr}{Rem:List (List Rw8)}(r:GR G Rem):∀ f∈G,f.R≠[]:=fun f hf=>by obtain ⟨k,_,_,h⟩:=r.a f hf;exact h
theorem GR.snoc {G:List Fr}{Rem:List (List Rw8)}{s:Sl}{R:List Rw8}(r:GR G Rem) (hR:R≠[]) (hc:s.len<=s.cap):GR (G ++ [⟨⟨s,(Rem.length:Int)⟩,R⟩]) (Rem ++ [R]):=by
 refine ⟨fun f hf=>?_,fun k R' h1 h2=>?_,?_,fun f hf=>?_⟩
 ·rcases List.mem_append.1 hf with hf | hf
  ·obtain ⟨k,h1,h2,h3⟩:=r.a f hf
   exact ⟨k,h1,by rw [List.getElem?_append_left (List.getElem?_eq_some_iff.1 h2).1];exact h2,h3⟩
  ·simp at hf;subst hf
   exact ⟨Rem.length,rfl,by simp,hR⟩
 ·by_cases hk:k<Rem.length
  ·rw [List.getElem?_append_left hk] at h1
   obtain ⟨f,hf,h⟩:=r.b k R' h1 h2
   exact ⟨f,by simp [hf],h⟩
  ·have hkl:=(List.getElem?_eq_some_iff.1 h1).1
   simp at hkl
   have:k=Rem.length:=by omega
   subst this
   simp at h1;subst h1
   exact ⟨⟨⟨s,(Rem.length:Int)⟩,R⟩,by simp,rfl,rfl⟩
 ·rw [List.map_append,List.nodup_append]
  refine ⟨r.nd,by simp,fun a ha b hb=>?_⟩
  simp only [List.map_cons,List.map_nil,List.mem_singleton] at hb
  subst hb
  obtain ⟨f,hf,rfl⟩:=List.mem_map.1 ha
  obtain ⟨k,h1,h2,_⟩:=r.a f hf
  have:=(List.getElem?_eq_some_iff.1 h2).1
  omega
 ·rcases List.mem_append.1 hf with hf | hf
  ·exact r.cap f hf
  ·simp at hf;subst hf;exact hc
theorem GR.skip {G:List Fr}{Rem:List (List Rw8)}(r:GR G Rem):GR G (Rem ++ [[]]):=by
 refine ⟨fun f hf=>?_,fun k R' h1 h2=>?_,r.nd,r.cap⟩
 ·obtain ⟨k,h1,h2,h3⟩:=r.a f hf
  exact ⟨k,h1,by rw [List.getElem?_append_left (List.getElem?_eq_some_iff.1 h2).1];exact h2,h3⟩
 ·by_cases hk:k<Rem.length
  ·rw [List.getElem?_append_left hk] at h1
   exact r.b k R' h1 h2
  ·have hkl:=(List.getElem?_eq_some_iff.1 h1).1
   simp at hkl
   have:k=Rem.length:=by omega
   subst this
   simp at h1
   exact (h2 h1).elim
theorem GR.pick {G:List Fr}{Rem:List (List Rw8)}(r:GR G Rem) (hG:0<G.length) (hp:uq G):∃ (k:Nat) (x:Rw8) (t:List Rw8),(g G 0).f.list=(k:Int)∧Rem[k]?=some (x :: t)∧(g G 0).R=x :: t∧mR Rem=x :: mR (Rem.set k t):=by
 have hm:=List.mem_of_getElem? (jy hG)
 obtain ⟨k,h1,h2,h3⟩:=r.a _ hm
 obtain ⟨x,t,hx⟩:∃ x t,(g G 0).R=x :: t:=by
  cases hR:(g G 0).R with
  | nil=>exact absurd hR h3
  | cons x t=>exact ⟨x,t,rfl⟩
 have hroot:=Bu pU hp
 have other:∀ (j:Nat) y s,Rem[j]?=some (y :: s)->¬ (bZ y.Cell x.Cell=-1∨(bZ y.Cell x.Cell=0∧(j:Int)<(k:Int))):=fun j y s hj hlt=>by
  obtain ⟨f,hf,e1,e2⟩:=r.b j _ hj (by simp)
  obtain ⟨c,hc⟩:=List.mem_iff_getElem?.1 hf
  have hcl:=(List.getElem?_eq_some_iff.1 hc).1
  have hgc:g G c=f:=by
   have:=jy hcl;rw [hc] at this;exact (Option.some.inj this).symm
  have:=hroot c hcl
  rw [hgc] at this
  have hn:¬ ltF f (g G 0)=true:=by rw [this];simp
  rw [tN,e1,h1] at hn
  have d1:hdF f=y:=by unfold hdF;rw [e2];rfl
  have d2:hdF (g G 0)=x:=by unfold hdF;rw [hx];rfl
  rw [d1,d2] at hn
  exact hn hlt
 refine ⟨k,x,t,h1,by rw [h2,hx],hx,sH (by rw [h2,hx]) (fun j y s hj hy=>?_) (fun j y s hj hy=>?_)⟩
 ·have:=other j y s hy
  have hr:=cZ y.Cell x.Cell
  unfold leC
  exact decide_eq_false (by omega)
 ·have:=other j y s hy
  have hr:=cZ y.Cell x.Cell
  have ha:=dR y.Cell x.Cell
  unfold leC
  exact decide_eq_true (by omega)
theorem GR.turn {G:List Fr}{Rem:List (List Rw8)}{k:Nat}{x:Rw8}{t:List Rw8}{s:Sl}(r:GR G Rem) (hG:0<G.length) (h1:(g G 0).f.list=(k:Int)) (h2:Rem[k]?=some (x :: t)) (ht:t≠[]) (hc:s.len<=s.cap):GR (G.set 0 ⟨⟨s,(k:Int)⟩,t⟩) (Rem.set k t):=by
 have hkl:=(List.getElem?_eq_some_iff.1 h2).1
 have hm0:=jy hG
 have uniq:∀ c,c<G.length->(g G c).f.list=(k:Int)->c=0:=fun c hc he=>by
  have a1:(G.map (·.f.list))[0]?=some (k:Int):=by rw [List.getElem?_map,hm0];simp only [Option.map_some,h1]
  have a2:(G.map (·.f.list))[c]?=some (k:Int):=by rw [List.getElem?_map,jy hc];simp only [Option.map_some,he]
  exact ((List.getElem?_inj (by simpa using hc) r.nd).1 (a2.trans a1.symm))
 refine ⟨fun f hf=>?_,fun j R' g1 g2=>?_,?_,fun f hf=>?_⟩
 ·obtain ⟨c,hc⟩:=List.mem_iff_getElem?.1 hf
  rw [List.getElem?_set] at hc
  by_cases e:0=c
  ·rw [if_pos e,if_pos hG] at hc;cases hc
   exact ⟨k,rfl,by simp [hkl],ht⟩
  ·rw [if_neg e] at hc
   have hcl:=(List.getElem?_eq_some_iff.1 hc).1
   obtain ⟨j,q1,q2,q3⟩:=r.a f (List.mem_of_getElem? hc)
   have hgc:g G c=f:=by have:=jy hcl;rw [hc] at this;exact (Option.some.inj this).symm
   refine ⟨j,q1,?_,q3⟩
   rw [List.getElem?_set,if_neg (fun e2=>e (uniq c hcl (by rw [hgc,q1,e2])).symm)];exact q2
 ·rw [List.getElem?_set] at g1
  by_cases e:k=j
  ·subst e
   rw [if_pos rfl,if_pos hkl] at g1;cases g1
   exact ⟨_,List.mem_iff_getElem?.2 ⟨0,by rw [List.getElem?_set,if_pos rfl,if_pos hG]⟩,rfl,rfl⟩
  ·rw [if_neg e] at g1
   obtain ⟨f,hf,q1,q2⟩:=r.b j R' g1 g2
   obtain ⟨c,hc⟩:=List.mem_iff_getElem?.1 hf
   have hcl:=(List.getElem?_eq_some_iff.1 hc).1
   have hgc:g G c=f:=by have:=jy hcl;rw [hc] at this;exact (Option.some.inj this).symm
   refine ⟨f,List.mem_iff_getElem?.2 ⟨c,?_⟩,q1,q2⟩
   rw [List.getElem?_set,if_neg (fun e2=>?_)]
   ·exact hc
   ·subst e2;rw [hgc,q1] at h1;omega
 ·have:(G.set 0 ⟨⟨s,(k:Int)⟩,t⟩).map (·.f.list)=G.map (·.f.list):=by
   rw [List.map_set]
   apply List.ext_getElem?;intro c
   rw [List.getElem?_set]
   by_cases e:0=c
   ·subst e
    rw [if_pos rfl,if_pos (by simpa using hG),List.getElem?_map,hm0];simp only [Option.map_some,h1]
   ·rw [if_neg e]
  rw [this];exact r.nd
 ·rcases List.mem_or_eq_of_mem_set hf with hf | rfl
  ·exact r.cap f hf
  ·exact hc
theorem GR.gone {G G':List Fr}{Rem:List (List Rw8)}{k:Nat}{x:Rw8}{f0:Fr}(r:GR G Rem) (hG:0<G.length) (h1:(g G 0).f.list=(k:Int)) (h2:Rem[k]?=some [x]) (p:(f0 :: G').Perm (G.set 0 f0)):GR G' (Rem.set k []):=by
 have hkl:=(List.getElem?_eq_some_iff.1 h2).1
 obtain ⟨a,G1,rfl⟩:∃ a G1,G=a :: G1:=by
  cases G with
  | nil=>simp at hG
  | cons a G1=>exact ⟨a,G1,rfl⟩
 have hp:G'.Perm G1:=by
  have:(f0 :: G').Perm (f0 :: G1):=p
  exact this.cons_inv
 have h1':a.f.list=(k:Int):=h1
 have nd:=r.nd
 simp only [List.map_cons,List.nodup_cons] at nd
 have r1:GR G1 (Rem.set k []):=by
  refine ⟨fun f hf=>?_,fun j R' g1 g2=>?_,nd.2,fun f hf=>r.cap f (by simp [hf])⟩
  ·obtain ⟨j,q1,q2,q3⟩:=r.a f (by simp [hf])
   refine ⟨j,q1,?_,q3⟩
   rw [List.getElem?_set,if_neg (fun e=>nd.1 (List.mem_map.2 ⟨f,hf,by rw [q1,← e,h1']⟩))];exact q2
  ·rw [List.getElem?_set] at g1
   by_cases e:k=j
   ·subst e
    rw [if_pos rfl,if_pos hkl] at g1;cases g1
    exact absurd rfl g2
   ·rw [if_neg e] at g1
    obtain ⟨f,hf,q1,q2⟩:=r.b j R' g1 g2
    rcases List.mem_cons.1 hf with rfl | hf
    ·rw [h1'] at q1;omega
    ·exact ⟨f,hf,q1,q2⟩
 exact r1.perm hp
theorem GR.nil {Rem:List (List Rw8)}(r:GR [] Rem):mR Rem=[]:=sF fun l hl=>by
 obtain ⟨k,hk⟩:=List.mem_iff_getElem?.1 hl
 cases hl2:l with
 | nil=>rfl
 | cons a t =>
  obtain ⟨f,hf,_⟩:=r.b k l hk (by rw [hl2];simp)
  cases hf
abbrev cS8 (s:Sl):List Value:=[s.enc]
theorem gO (s:Sl):(cS8 s).length=1:=rfl
section
variable {h0 hk h h':H}{n:Nat}{s:Sl}{G:List Fr}
theorem FS.put {hk2:H}{s':Sl}{G':List Fr}{K:H->Prop}(v:FS h0 hk h n s G) (w:aU h' s' ej 2 ((G'.map (·.f)).flatMap cF)) (b:Blk h' n #[s.enc] eB) (e:Ext h0 h') (m:dL h0 s') (hr:∀ f∈G',f.R≠[]->bS h0 f.f.rows 7 (f.R.flatMap cW)) (kp:nY hk2 h')
  (k:∀ h2,FS h0 hk2 h2 n s' G'->bI (·=n) h' h2->K h2):stH h' ⟨n,0,none⟩ [s'.enc] K:=by
 refine cC b (by simp) fun h2 b2 o2 s2=>k h2 ⟨?_,w.only o2 fun y hy hf=>fz w b (by decide) (by rw [hy,hf]),m,v.lo,e.step o2 fun y hy hf=>by have:=v.lo;omega,hr,kp.blk o2 b (.inr rfl)⟩ o2
 rw [cE (by simp)] at b2;exact b2
theorem FS.re (v:FS h0 hk h n s G):FS h0 h h n s G:=⟨v.var,v.own,v.mine,v.lo,v.ext,v.rows,.refl _⟩
theorem AA (v:FS h0 hk h n s G) (hG:0<G.length){x:Rw8}{t:List Rw8}(hx:(g G 0).R=x :: t){K:Rw8->Prop}(k:K x):bD (g G 0).f.rows 0 7 fun a=>ec h a K:=by
 have rd:=v.rows _ (List.mem_of_getElem? (jy hG)) (by rw [hx];simp)
 have rd':=rd.only v.ext fun _ _ f=>f
 rw [hx] at rd'
 obtain ⟨p,p1,p2,p3⟩:=gw dy (by omega) rd' (i:=0) (x:=x) rfl
 have hl:=cz dy (by omega) rd'
 exact dK (i:=0) p1 (by rw [hl];simp) rfl ⟨x,p3,k⟩
theorem xV {n:Nat}{most:Int}{All:List Rw8}{Q:Sl->H->Prop}(hA:All.length<100000)
  (k:∀ r h',aU h' r bQ 7 ((All.take most.toNat).flatMap cW)->dL h0 r->Ext h0 h'->Q r h'):∀ (d:Nat) (h:H) (s:Sl) (G:List Fr) (Rem:List (List Rw8)) (r:Sl) (out:List Rw8),(mR Rem).length<d->FS h0 h h n s G->G.length<100000->uq G->GR G Rem ->
  aU h r bQ 7 (out.flatMap cW)->dL h0 r->out ++ mR Rem=All->out.length<=most.toNat->F.xan.l2 Q d most ⟨n,0,none⟩ r h:=by
 intro d
 induction d with
 | zero=>intro h s G Rem r out hm;omega
 | succ d ih =>
  intro h s G Rem r out hm v hGl hp gr w m hall hout
  have hl:=bH fK (by omega) v.own
  rw [List.length_map] at hl
  have hlr:=bH dy (by omega) w
  have hol:out.length<=All.length:=by rw [← hall];simp
  unfold F.xan.l2
  refine v.ldv ?_
  simp only [decide_eq_true_eq,decide_eq_false_iff_not]
  rw [hl]
  refine ⟨fun gg=>?_,fun gg=>?_⟩
  ·have hG:0<G.length:=by omega
   unfold F.xan.j4
   refine ⟨fun g2=>?_,fun g2=>?_⟩
   ·have hlt:out.length<most.toNat:=by rw [hlr] at g2;simp at g2;omega
    obtain ⟨kk,x,t,h1,h2,h3,h4⟩:=gr.pick hG hp
    have hkl:=(List.getElem?_eq_some_iff.1 h2).1
    unfold F.xan.j3
    have c0:∀ {hh:H}{a:Addr}{y:bK},Cells hh a (cF y)->aA hh (a.add 0)=some y.rows.enc:=fun c=>c 0 _ rfl
    have q0:(0:Int)=((0:Nat):Int):=rfl
    refine v.ldv ?_
    conv in bD s 0 2=>rw [q0]
    refine v.at hG fun a1 d1=>(bj (c0 d1)).2 (AA v hG h3 ?_)
    refine dT fun m1 h5 hm1 b5 e5 s5=>?_
    have r5:bS h5 ⟨some ⟨m1,0,none⟩,1,1⟩ 7 ([x].flatMap cW):=dB (by simpa using b5) rfl
    refine fI (L:=out) (M:=[x]) dy (by omega) fR (w.ext e5) r5 (fun x=>ei x) (by simp only [List.length_singleton];omega) fun r6 h6 w6 o6 n6=>?_
    have hs5:=e5.size
    have m6:dL h0 r6:=fun y hy=>by
     rcases n6 with n6 | ⟨b',n6,n7⟩
     ·exact m y (by rw [← n6];exact hy)
     ·rw [n6] at hy;cases hy;have:=v.ext.size;omega
    have e6:Ext h0 h6:=(v.ext.trans e5).mine m o6
    have v5:=v.e e5
    have v6:FS h0 h6 h6 n s G:=⟨o6.block v5.var (fun hb=>fz (w.ext e5) v5.var (by decide) hb),v5.own.only o6 (fun y hy hb=>by
     obtain ⟨_,⟨q1,q2,q3⟩ | ⟨b',c',q1,q2,_⟩⟩:=v5.own
     ·simp [Sl.blk,q1] at hy
     ·simp [Sl.blk,q1] at hy
      subst hy
      exact fz (w.ext e5) q2 (by decide) hb),v.mine,v.lo,e6,v.rows,.refl _⟩
    refine v6.ldv (v6.ldv ?_)
    conv in bD s 0 2=>rw [q0]
    refine v6.at hG fun a2 d2=>(bj (c0 d2)).2 ?_
    have hmem:=List.mem_of_getElem? (jy hG)
    have rd0:=v.rows _ hmem (by rw [h3];simp)
    have hrl:=cz dy (by omega) rd0
    have hcap:=gr.cap _ hmem
    refine fQ (lo:=1) (hi:=(g G 0).f.rows.len) rfl rfl (by rw [hrl,h3];simp) hcap ?_
    have rdc:=iq (lo:=1) (hi:=(g G 0).f.rows.len) dy (by omega) rd0 (by rw [hrl,h3];simp) (by rw [hrl];exact Nat.le_refl _) hcap
    have hdrop:(((g G 0).R.drop 1).take ((g G 0).f.rows.len-1))=t:=by
     rw [h3,hrl,h3];simp
    rw [hdrop] at rdc
    have hcl:(cS (g G 0).f.rows 1 (g G 0).f.rows.len 7).len=t.length:=cz dy (by omega) rdc
    have hcc:(cS (g G 0).f.rows 1 (g G 0).f.rows.len 7).len<=(cS (g G 0).f.rows 1 (g G 0).f.rows.len 7).cap:=by unfold cS;simp only;omega
    generalize hsc:cS (g G 0).f.rows 1 (g G 0).f.rows.len 7=sc at rdc hcl hcc
    -- the root's rows are one less
    obtain ⟨b,p1,p2⟩:=jz fK (by omega) v6.own (i:=0) (x:=(g G 0).f) (by rw [List.getElem?_map,jy hG];rfl)
    conv in bD s 0 2=>rw [q0]
    refine cl (i:=0) p1 (by rw [hl];exact hG) rfl ?_
    rw [show ((⟨b,0*2,none⟩:Addr).add 0)=⟨b,0,none⟩ from by rw [aC]]
    have hfl:((G.map (·.f)).flatMap cF).length=G.length*2:=by rw [cq _ 2 fK];simp
    refine pY (o:=0) v6.own p1 (by rw [hfl];simp;omega) fun h7 w7 o7 s7=>?_
    have hset:((G.map (·.f)).flatMap cF).take 0 ++ [sc.enc] ++ ((G.map (·.f)).flatMap cF).drop (0+[sc.enc].length)=(((G.set 0 ⟨⟨sc,(kk:Int)⟩,t⟩).map (·.f)).flatMap cF):=by
     obtain ⟨a,G1,rfl⟩:∃ a G1,G=a :: G1:=by
      cases G with
      | nil=>simp at hG
      | cons a G1=>exact ⟨a,G1,rfl⟩
     have h1':a.f.list=(kk:Int):=h1
     simp [bK.cells,h1']
    rw [hset] at w7
    have hgs:∀ c,g (G.set 0 ⟨⟨sc,(kk:Int)⟩,t⟩) c=if 0=c then ⟨⟨sc,(kk:Int)⟩,t⟩ else g G c:=fun c=>zT hG
    have v7:FS h0 h7 h7 n s (G.set 0 ⟨⟨sc,(kk:Int)⟩,t⟩):=⟨o7.block v6.var fun hb=>fz v6.own v6.var (by decide) hb,w7,v.mine,v.lo,e6.mine v.mine o7,fun f hf hR=>by
     rcases List.mem_or_eq_of_mem_set hf with hf | rfl
     ·exact v.rows f hf hR
     ·exact rdc,.refl _⟩
    have w6':aU h7 r6 bQ 7 ((out ++ [x]).flatMap cW):=w6.only o7 fun y hy hb=>by
     obtain ⟨_,⟨q1,q2,q3⟩ | ⟨b',c',q1,q2,_⟩⟩:=w6
     ·simp [Sl.blk,q1] at hy
     ·simp [Sl.blk,q1] at hy
      subst hy
      exact fz v6.own q2 (by decide) hb
    have hlen:(G.set 0 ⟨⟨sc,(kk:Int)⟩,t⟩).length=G.length:=by simp
    refine v7.ldv ?_
    conv in bD s 0 2=>rw [q0]
    refine v7.at (by rw [hlen];exact hG) fun a3 d3=>?_
    rw [hgs,if_pos rfl] at d3
    refine (bj (c0 d3)).2 ?_
    rw [hcl]
    have hrem:(mR (Rem.set kk t)).length<d:=by rw [h4] at hm;simp at hm;omega
    have hall':(out ++ [x]) ++ mR (Rem.set kk t)=All:=by rw [List.append_assoc,List.singleton_append,← h4];exact hall
    have hp':∀ c,0<c->c<(G.set 0 ⟨⟨sc,(kk:Int)⟩,t⟩).length->(c-1) / 2≠0->ltF (g (G.set 0 ⟨⟨sc,(kk:Int)⟩,t⟩) c) (g (G.set 0 ⟨⟨sc,(kk:Int)⟩,t⟩) ((c-1) / 2))=false:=fun c c0 cn cp=>by
     rw [hgs,hgs,if_neg (by omega),if_neg (by omega)]
     exact hp c c0 (by rw [hlen] at cn;exact cn) (by omega)
    refine ⟨fun g3=>?_,fun g3=>?_⟩
    ·have ht:t=[]:=List.eq_nil_of_length_eq_zero (by simpa using g3)
     subst ht
     refine zo v7 (by rw [hlen];exact hG) (by rw [hlen];omega) hp' (fun j j0 jn=>?_) fun u h8 s8 G8 v8 p8 hp8=>?_
     ·rw [hgs,if_neg (by omega)]
      exact gr.ne _ (List.mem_of_getElem? (jy (by rw [hlen] at jn;exact jn)))
     ·rw [hgs,if_pos rfl] at p8
      have gr8:=gr.gone hG h1 h2 p8
      have hl8:G8.length+1=G.length:=by have:=p8.length_eq;simp at this;omega
      refine ih h8 s8 G8 (Rem.set kk []) r6 (out ++ [x]) hrem v8.re (by omega) hp8 gr8 (v8.kp.w w6' (by decide) (by decide)) m6 hall' (by simp;omega)
    ·have ht:t≠[]:=fun e=>by subst e;simp at g3
     have gr7:=gr.turn hG h1 h2 ht hcc
     refine zg v7 (by rw [hlen];exact hG) (by rw [hlen];omega) gr7.ne hp' fun h8 G8 v8 p8 hp8=>?_
     have hl8:G8.length=G.length:=by have:=p8.length_eq;simp at this;omega
     refine ih h8 s G8 (Rem.set kk t) r6 (out ++ [x]) hrem v8.re (by omega) hp8 (gr7.perm p8) (v8.kp.w w6' (by decide) (by decide)) m6 hall' (by simp;omega)
   ·have:out.length=most.toNat:=by rw [hlr] at g2;simp at g2;omega
    refine k r h ?_ m v.ext
    rw [← hall,← this,List.take_left']
    ·exact w
    ·rfl
  ·have hG:G=[]:=List.eq_nil_of_length_eq_zero (by omega)
   subst hG
   have hnil:=gr.nil
   unfold F.xan.j4
   refine ⟨fun g2=>(by cases g2),fun _=>k r h ?_ m v.ext⟩
   rw [hnil,List.append_nil] at hall
   rw [← hall,List.take_of_length_le hout];exact w
end
theorem fM {n:Nat}(h:n<9000000000000000000):IntKind.wrap .i64 ((n:Int)+1)=((n+1:Nat):Int):=by rw [w64 (by omega) (by omega)];omega
section
variable {h0 h h':H}
structure TB (h:H) (p:Sl) (ss:List Sl) (Ls:List (List Rw8)):Prop where
 tb:bS h p 1 (ss.flatMap cS8)
 len:ss.length=Ls.length
 row:∀ (i:Nat) s R,ss[i]?=some s->Ls[i]?=some R->bS h s 7 (R.flatMap cW)∧s.len<=s.cap
theorem TB.at {p:Sl}{ss:List Sl}{Ls:List (List Rw8)}(t:TB h0 p ss Ls) (e:Ext h0 h){i:Nat}{s:Sl}(hs:ss[i]?=some s){K:Sl->Prop}(k:K s):bD p (i:Int) 1 fun a=>ldL h a K:=by
 obtain ⟨q,r1,r2,r3⟩:=gw gO (by omega) (t.tb.only e fun _ _ f=>f) hs
 have hl:=cz gO (by omega) t.tb
 exact dK (i:=i) r1 (by have:=(List.getElem?_eq_some_iff.1 hs).1;omega) rfl ((bj r3.one).2 k)
theorem xW {most:Int}{p1:Sl}{ss:List Sl}{Ls:List (List Rw8)}{Q:Sl->H->Prop}(t:TB h p1 ss Ls) (hs:ss.length<90000) (hn:(mR Ls).length<100000)
  (k:∀ r h',aU h' r bQ 7 (((mR Ls).take most.toNat).flatMap cW)->dL h r->Ext h h'->Q r h'):F.xan most p1 h Q:=by
 unfold F.xan
 have hl:=cz gO (by omega) t.tb
 refine aN fun n h1 hn1 b1 e1 s1=>⟨ss.length+1,?_⟩
 rw [hl]
 have key:∀ (d i:Nat) (h':H) (s:Sl) (G:List Fr),i<=ss.length->ss.length-i<d->FS h h' h' n s G->GR G (Ls.take i)->G.length<=i->F.xan.l1 Q d most ⟨n,0,none⟩ p1 (ss.length:Int) (i:Int) h':=by
  intro d
  induction d with
  | zero=>intro i h' s G _ hm;omega
  | succ d ih =>
   intro i h' s G hi hm v gr hGi
   have hlG:=bH fK (by omega) v.own
   rw [List.length_map] at hlG
   unfold F.xan.l1
   simp only [decide_eq_true_eq,decide_eq_false_iff_not]
   refine ⟨fun gg=>?_,fun gg=>?_⟩
   ·obtain ⟨sl,hsl⟩:∃ sl,ss[i]?=some sl:=⟨_,List.getElem?_eq_getElem (by omega)⟩
    obtain ⟨R,hR⟩:∃ R,Ls[i]?=some R:=⟨_,List.getElem?_eq_getElem (by have:=t.len;omega)⟩
    obtain ⟨rd,hcap⟩:=t.row i sl R hsl hR
    have hlr:=cz dy (by omega) rd
    have hli:(Ls.take i).length=i:=by have:=t.len;rw [List.length_take];omega
    refine t.at v.ext hsl ?_
    refine ⟨fun g2=>v.ldv ?_,fun g2=>?_⟩
    ·have hRn:R≠[]:=fun e=>by subst e;rw [hlr] at g2;simp at g2
     refine dT fun m2 h2 hm2 b2 e2 s2=>?_
     have r2:bS h2 ⟨some ⟨m2,0,none⟩,1,1⟩ 2 ([(⟨sl,(i:Int)⟩:bK)].flatMap cF):=dB (by simpa using b2) rfl
     have v2:=v.e e2
     refine fI (L:=G.map (·.f)) (M:=[⟨sl,(i:Int)⟩]) fK (by omega) ym v2.own r2 (fun x=>fl x) (by simp only [List.length_singleton,List.length_map];omega) fun r3 h3 w3 o3 n3=>?_
     have m3:dL h r3:=fun y hy=>by
      rcases n3 with n3 | ⟨b',n3,n4⟩
      ·exact v.mine y (by rw [← n3];exact hy)
      ·rw [n3] at hy;cases hy;have:=v2.ext.size;omega
     have e3:Ext h h3:=v2.ext.mine v2.mine o3
     have b3:Blk h3 n #[s.enc] eB:=o3.block v2.var fun hb=>fz v2.own v2.var (by decide) hb
     have gr':=gr.snoc (s:=sl) hRn hcap
     rw [← ed hR,hli] at gr'
     refine FS.put (hk2:=h3) (G':=G ++ [⟨⟨sl,(i:Int)⟩,R⟩]) v2 (by rw [List.map_append];exact w3) b3 e3 m3 (fun f hf hfr=>?_) (.refl _) fun h4 v4 o4=>?_
     ·rcases List.mem_append.1 hf with hf | hf
      ·exact v.rows f hf hfr
      ·rw [List.mem_singleton] at hf;subst hf;exact rd
     ·rw [fM (by omega)]
      exact ih (i+1) h4 r3 _ (by omega) (by omega) v4.re gr' (by rw [List.length_append];simp only [List.length_singleton];omega)
    ·have hRn:R=[]:=by
      cases R with
      | nil=>rfl
      | cons a b=>rw [hlr] at g2;simp at g2
     subst hRn
     have gr':=gr.skip
     rw [← ed hR] at gr'
     rw [fM (by omega)]
     exact ih (i+1) h' s G (by omega) (by omega) v gr' (by omega)
   ·have hiL:i=ss.length:=by omega
    rw [hiL,t.len,List.take_length] at gr
    refine xQ v gr.ne (by omega) fun h2 G2 v2 p2 hp2=>⟨(mR Ls).length+1,?_⟩
    have hl2:=p2.length_eq
    exact xV (All:=mR Ls) hn k _ h2 s G2 Ls _ [] (by omega) v2.re (by omega) hp2 (gr.perm p2) (by simpa using aU.nil h2 bQ 7) (.nil _ _ _) rfl (by simp)
 exact key _ 0 h1 ⟨none,0,0⟩ [] (by omega) (by omega) ⟨b1,by simpa using aU.nil h1 ej 2,.nil _ _ _,by omega,e1,fun f hf=>(by cases hf),.refl _⟩ ⟨fun f hf=>(by cases hf),fun k R hk=>(by simp at hk),.nil,fun f hf=>(by cases hf)⟩ (by simp)
end
end Go.Proofs.YtjjchpaomgmmdaaGreat.V.M
namespace Go.Proofs.YtjjchpaomgmmdaaGreat.V
open Go
set_option linter.unusedVariables false
set_option linter.unusedSimpArgs false
theorem Blk.cells {h:H}{n:Nat}{cs:List Value}{e:TypeId}(b:Blk h n cs.toArray e):Cells h ⟨n,0,none⟩ cs:=fun i v hv=>by
 rw [aC,Nat.zero_add]
 exact b.cell (by simpa using hv)
theorem Ah {α:Type}{f:α->List Value}{kk:Nat}(hf:∀ x,(f x).length=kk) (hk:0<kk){x:α}{cs:Array Value}(hx:f x=cs.toList) (n:Nat):(madeCells cs (n*kk)).toList=(List.replicate n x).flatMap f:=by
 have hs:cs.size=kk:=by rw [← hf x,hx,Array.length_toList]
 apply List.ext_getElem?
 intro j
 by_cases hj:j<n*kk
 ·have hd:j=(j / kk)*kk+j % kk:=by rw [Nat.mul_comm];exact (Nat.div_add_mod j kk).symm
  have hm:j % kk<kk:=Nat.mod_lt _ hk
  have hu:(List.replicate n x)[j / kk]?=some x:=by rw [List.getElem?_replicate,if_pos (Nat.div_lt_of_lt_mul (by rw [Nat.mul_comm];exact hj))]
  have:=gV f kk hf (List.replicate n x) (j / kk) x hu (j % kk) hm
  rw [← hd] at this
  rw [this,hx]
  simp [madeCells,hj,hs]
  rw [getElem!_pos cs (j % kk) (by omega),Array.getElem?_eq_getElem (by omega)]
 ·rw [List.getElem?_eq_none (by simp [size_madeCells];omega),List.getElem?_eq_none (by rw [cq f kk hf];simp;omega)]
section
variable {P:Program}{h:H}
theorem A5 {t e ty:TypeId}{s x:Sl}{size bytes:Nat}{cs ys:List Value}{z:Value}{K:Sl->H->Prop}(el:El P t e size bytes z)
  (hs:aU h s e size cs) (hx:bS h x size ys) (ho:∀ v∈ys,v.oneCell'=true) (hlim:(s.len+x.len+(s.len+x.len) / 4+256)*bytes<=281474976710656)
  (k:∀ r h',aU h' r e size (cs ++ ys)->r.len=s.len+x.len->((r.ptr=s.ptr∧r.cap=s.cap∧bI (fun b=>s.blk=some b) h h')∨(∃ b,r.ptr=some ⟨b,0,none⟩∧h.size<=b∧Ext h h'))->K r h') :
  dA P (Builtin.append_ #[t,t] ty #[s.enc,x.enc]) h K:=by
 obtain ⟨i,hi,hz,hsz,hby⟩:=el.info
 have hpos:=el.pos
 have hlx:ys.length=x.len*size:=hx.1
 have hlc:cs.length=s.len*size:=hs.1
 have hbp:=el.bpos
 have hsum:s.len+x.len<=9223372036854775807:=by
  have:s.len+x.len<=(s.len+x.len+(s.len+x.len) / 4+256)*bytes:=Nat.le_trans (by omega) (Nat.le_mul_of_pos_right _ hbp)
  omega
 intro w hw
 subst hw
 suffices hsuf:∃ (r:Sl) (w':World),(Builtin.append_ #[t,t] ty #[s.enc,x.enc]).run P w=.ok r.enc w'∧eJ w w'∧aU w'.heap r e size (cs ++ ys)∧r.len=s.len+x.len∧((r.ptr=s.ptr∧r.cap=s.cap∧bI (fun b=>s.blk=some b) w.heap w'.heap)∨(∃ b,r.ptr=some ⟨b,0,none⟩∧w.heap.size<=b∧Ext w.heap w'.heap)) by
  obtain ⟨r,w',h1,h2,h3,h4,h5⟩:=hsuf
  exact ⟨r.enc,w',h1,h2,r,rfl,k r _ h3 h4 h5⟩
 obtain ⟨xp,xl,xc⟩:=x
 obtain ⟨sp,sl,sc⟩:=s
 simp only at *
 -- what is owned,in the kit's words
 have hown:w.ownsRow 0 e size (.slice sp sl sc) sl cs:=by
  refine ⟨hlc,?_⟩
  obtain ⟨_,⟨h1,h2,h3⟩ | ⟨b,c,h1,h2,h3,h4,hcap,h5⟩⟩:=hs
  ·simp only at h1 h2 h3;subst h1;subst h2;subst h3;exact .inl ⟨rfl,rfl⟩
  ·simp only at h1 h3 h4 hcap;subst h1
   exact .inr ⟨b,sc,c,rfl,Nat.zero_le _,h2,h4,hcap,h3,by rw [← hlc];exact h5⟩
 cases xp with
 | none =>
  obtain ⟨e1,e2⟩:=hx.2.1 rfl
  simp only at e1 e2;subst e1;subst e2
  have hy:ys=[]:=List.eq_nil_of_length_eq_zero (by simpa using hlx)
  subst hy
  refine ⟨⟨sp,sl,sc⟩,w,run_append_owned_none w 0 t ty e i size el.slice hi (.slice sp sl sc) sl cs hown,eJ.refl w,by simpa using hs,rfl,.inl ⟨rfl,rfl,.refl _⟩⟩
 | some a =>
  have hc:∀ j u,ys[j]?=some u->w.cell? (a.add j)=some u:=fun j u hu=>by
   obtain ⟨p,hp,_,h2⟩:=hx.2.2 j u hu
   cases hp;exact h2
  obtain ⟨_,⟨h1,h2,h3⟩ | ⟨b,c,h1,h2,h3,h4,hcap,h5⟩⟩:=hs
  ·simp only at h1 h2 h3;subst h1;subst h2;subst h3
   have hcs:cs=[]:=List.eq_nil_of_length_eq_zero (by simpa using hlc)
   subst hcs
   by_cases h0:xl=0
   ·subst h0
    have hy:ys=[]:=List.eq_nil_of_length_eq_zero (by simpa using hlx)
    subst hy
    obtain ⟨v',w',r1,r2,r3,r4⟩:=run_append_own (P:=P) w 0 t ty e i z size bytes el.slice hi hz hsz hby el.zero hpos (.slice none 0 0) 0 [] hown a 0 xc [] (by simp) (by simp) (by simp) (by simp [maxLen]) (by simp) (Nat.zero_le _)
    have:v'=.slice none 0 0:=r4.2 ⟨rfl,rfl⟩
    subst this
    refine ⟨⟨none,0,0⟩,w',r1,⟨r3.os,r3.tape,r3.output,dg _ r1⟩,aU.nil _ _ _,rfl,.inl ⟨rfl,rfl,(kn r3).mono (fun b _ e=>by simp [Value.ownBlock] at e)⟩⟩
   ·have hr:=run_append_nil (P:=P) w t ty e i z el.slice hi hz a xl xc ys (by rw [hlx,hsz]) hc (by omega) (by simp only [Nat.zero_add] at hsum;omega) (by
     rw [hby];have:xl*bytes<=(0+xl+(0+xl) / 4+256)*bytes:=Nat.mul_le_mul_right _ (by omega)
     omega)
    refine ⟨⟨some ⟨w.heap.size,0,none⟩,xl,grownCap w xl 0 e⟩,w.drew.alloc (.cells (ys.toArray ++ Builtin.zeroCells z.cells (grownCap w xl 0 e-xl)) e),hr,⟨rfl,rfl,rfl,by first | exact Nat.le_refl _ | exact Nat.le_succ _ | exact Nat.le_add_right _ _⟩,⟨by simp [hlx],.inr ⟨w.heap.size,_,rfl,Blk.new _ _ _,?_,grownCap_ge w xl 0 e,grownCap_le_maxLen w xl 0 e (by simp only [maxLen,Nat.zero_add] at *;omega),?_⟩⟩,by simp,.inr ⟨_,rfl,Nat.le_refl _,.push _ _⟩⟩
    ·have:=grownCap_ge w xl 0 e
     simp only [Array.size_append,List.size_toArray,hlx,Builtin.zeroCells,Array.size_map,Array.size_range,el.zero]
     rw [← Nat.add_mul];congr 1;omega
    ·simp
  ·simp only at h1 h3 h4 hcap;subst h1
   by_cases hfit:sl+xl<=sc
   ·obtain ⟨w',r1,r2,r3⟩:=run_append_fits (P:=P) w 0 t ty e i size el.slice hi hsz b sl sc cs hown a xl xc ys hlx hc ho hfit
    refine ⟨⟨some ⟨b,0,none⟩,sl+xl,sc⟩,w',r1,⟨r3.os,r3.tape,r3.output,dg _ r1⟩,?_,rfl,.inl ⟨rfl,rfl,(kn r3).mono (fun n _ e=>by simpa [Sl.blk] using e)⟩⟩
    obtain ⟨q1,⟨q2,_⟩ | ⟨g,cap,cur,q2,_,q3,q4,q7,q5,q6⟩⟩:=r2
    ·cases q2
    ·cases q2
     exact ⟨q1,.inr ⟨b,cur,rfl,q3,q5,q4,q7,by rw [q1];exact q6⟩⟩
   ·have hnc:=qQ (n:=sl+xl) (c:=sc) (by omega)
    have hold:∀ j v,cs[j]?=some v->w.cell? ((⟨b,0,none⟩:Addr).add j)=some v:=fun j v hv=>by
     have hlt:j<cs.length:=(List.getElem?_eq_some_iff.1 hv).1
     have hc2:c[j]?=some v:=by
      have h6:(c.toList.take cs.length)[j]?=some v:=by rw [h5];exact hv
      rw [List.getElem?_take_of_lt hlt] at h6
      simpa using h6
     rw [aC,Nat.zero_add]
     exact Blk.cell (h:=w.heap) h2 hc2
    have hr:=run_append_grow (P:=P) w t ty e i z el.slice hi hz ⟨b,0,none⟩ sl sc cs (by rw [hlc,hsz]) hold a xl xc ys (by rw [hlx,hsz]) hc (by omega) (by omega) (by
     rw [hby];have:Builtin.nextslicecap (sl+xl) sc*bytes<=(sl+xl+(sl+xl) / 4+256)*bytes:=Nat.mul_le_mul_right _ hnc
     omega)
    refine ⟨⟨some ⟨w.heap.size,0,none⟩,sl+xl,grownCap w (sl+xl) sc e⟩,w.drew.alloc (.cells (cs.toArray ++ ys.toArray ++ Builtin.zeroCells z.cells (grownCap w (sl+xl) sc e-(sl+xl))) e),hr,⟨rfl,rfl,rfl,by first | exact Nat.le_refl _ | exact Nat.le_succ _ | exact Nat.le_add_right _ _⟩,⟨by simp [hlx,hlc,Nat.add_mul],.inr ⟨w.heap.size,_,rfl,Blk.new _ _ _,?_,grownCap_ge w (sl+xl) sc e,grownCap_le_maxLen w (sl+xl) sc e (by simp only [maxLen];omega),?_⟩⟩,rfl,.inr ⟨_,rfl,Nat.le_refl _,.push _ _⟩⟩
    ·have:=grownCap_ge w (sl+xl) sc e
     simp only [Array.size_append,List.size_toArray,hlx,hlc,Builtin.zeroCells,Array.size_map,Array.size_range,el.zero]
     rw [← Nat.add_mul,← Nat.add_mul];congr 1;omega
    ·simp only [Array.toList_append,List.length_append]
     rw [← List.length_append,List.take_left]
end
end Go.Proofs.YtjjchpaomgmmdaaGreat.V
namespace Go.Proofs.YtjjchpaomgmmdaaGreat.V.C
open Go Go.Proofs.YtjjchpaomgmmdaaGreat.V
set_option linter.unusedVariables false
set_option linter.unusedSimpArgs false
set_option maxRecDepth 20000
abbrev Ver:=aM
theorem gC (x:Ver):x.cells.length=6:=rfl
def Ch (h:H) (p:Nat) (L:List Ver) (B:Option Nat):Prop:=
 ∃ s:Sl,Blk h p #[s.enc] di∧aU h s bU 6 (L.flatMap (·.cells))∧s.blk=B∧B≠some p
theorem Ch.len {h:H}{s:Sl}{L:List Ver}(o:aU h s bU 6 (L.flatMap (·.cells))):s.len=L.length:=by
 have:=o.1
 rw [cq _ 6 gC] at this
 omega
theorem Ch.at {h:H}{s:Sl}{L:List Ver}(o:aU h s bU 6 (L.flatMap (·.cells))){i:Nat}{x:Ver}(hx:L[i]?=some x) :
  ∃ b,s.ptr=some ⟨b,0,none⟩∧aA h ⟨b,i*6,none⟩=some (.int .i64 x.epoch)∧Cells h ⟨b,i*6+1,none⟩ x.value.cells∧aA h ⟨b,i*6+5,none⟩=some (.bool x.dead)∧Cells h ⟨b,i*6,none⟩ x.cells:=by
 obtain ⟨b,h1,h2⟩:=jz (f:=fun x:Ver=>x.cells) gC (by omega) o hx
 have e:∀ j v,x.cells[j]?=some v->aA h ⟨b,i*6+j,none⟩=some v:=fun j v hv=>by
  have:=h2 j v hv
  rwa [aC] at this
 refine ⟨b,h1,e 0 _ rfl,fun j v hv=>?_,e 5 _ rfl,h2⟩
 rw [aC]
 match j,hv with
 | 0,hv=>exact e 1 v hv
 | 1,hv=>exact e 2 v hv
 | 2,hv=>exact e 3 v hv
 | 3,hv=>exact e 4 v hv
 | j+4,hv=>simp [ag.cells] at hv
theorem Ch.only {S:Nat->Prop}{h h':H}{p:Nat}{L:List Ver}{B:Option Nat}(c:Ch h p L B) (o:bI S h h') (hp:¬ S p) (hB:∀ b,B=some b->¬ S b):Ch h' p L B:=by
 obtain ⟨s,h1,h2,h3,h4⟩:=c
 exact ⟨s,o.block h1 hp,h2.only o (by rw [h3];exact hB),h3,h4⟩
theorem Ch.ext {h h':H}{p:Nat}{L:List Ver}{B:Option Nat}(c:Ch h p L B) (o:Ext h h'):Ch h' p L B:=c.only o (fun f=>f) fun _ _ f=>f
theorem Ch.lt {h:H}{p:Nat}{L:List Ver}{B:Option Nat}(c:Ch h p L B):p<h.size:=by obtain ⟨s,h1,_⟩:=c;exact dx h1
theorem Ch.ltB {h:H}{p:Nat}{L:List Ver}{B:Option Nat}(c:Ch h p L B):∀ b,B=some b->b<h.size:=fun b hb=>by
 obtain ⟨s,h1,h2,h3,_⟩:=c;exact h2.blk_lt (by rw [h3];exact hb)
def fE (L:List Ver):Int:=match L.getLast? with | some x=>x.epoch | none=>0
def qK (L:List Ver) (e:Int):Int:=if e<1∨e > 1099511627776 then 1 else if L≠[]∧e<fE L then 32 else 0
def fH (L:List Ver) (x:Ver):List Ver:=if L≠[]∧fE L=x.epoch then L.dropLast ++ [x] else L ++ [x]
def iP (L:List Ver) (x:Ver):Int:=if L≠[]∧fE L=x.epoch then 0 else 1
theorem fp {L:List Ver}(h:L≠[]):L[L.length-1]?=some (L.getLast h):=by
 rw [← List.getLast?_eq_getElem?,List.getLast?_eq_some_getLast h]
theorem lu {h:H}{Q:Option Addr->H->Prop}(k:∀ p h',p=h.size->Ch h' p [] none->Ext h h'->Q (some ⟨p,0,none⟩) h'):F.xee h Q:=by
 unfold F.xee
 refine aN fun n h' e1 e2 e3 e4=>k n h' e1 ⟨⟨none,0,0⟩,e2,aU.nil _ _ _,rfl,by simp⟩ e3
theorem uT {h:H}{p:Nat}{L:List Ver}{B:Option Nat}{e:Int}{Q:Int->H->Prop}(c:Ch h p L B) (hL:L.length<4294967296) (k:Q (qK L e) h):F.xbr (some ⟨p,0,none⟩) e h Q:=by
 obtain ⟨s,hb,ho,hB,hne⟩:=c
 have hl:=Ch.len ho
 have hc0:aA h ⟨p,0,none⟩=some s.enc:=hb.cell rfl
 unfold qK at k
 simp only [F.xbr,F.xbr.j1,F.xbr.j2,aZ,aC,Nat.add_zero,bj hc0,decide_eq_true_eq,decide_eq_false_iff_not,hl]
 refine ⟨fun g=>⟨fun _=>by rw [if_pos (.inl g)] at k;exact k,fun h=>by cases h⟩,fun g=>⟨fun g2=>by rw [if_pos (.inr g2)] at k;exact k,fun g2=>?_⟩⟩
 rw [if_neg (by omega)] at k
 by_cases hn:L=[]
 ·subst hn
  simp at k ⊢
  exact k
 ·have hpos:0<L.length:=List.length_pos_iff.2 hn
  obtain ⟨b,h1,h2,_⟩:=Ch.at ho (fp hn)
  refine ⟨fun _=>?_,fun h=>by omega⟩
  refine cl (i:=L.length-1) h1 (by omega) (by rw [w64 (by omega) (by omega)];omega) ?_
  simp only [aC,Nat.add_zero]
  rw [bA h2]
  have hle:fE L=(L.getLast hn).epoch:=by unfold fE;rw [List.getLast?_eq_some_getLast hn]
  rw [← hle]
  by_cases hlt:e<fE L
  ·rw [if_pos ⟨hn,hlt⟩] at k;exact ⟨fun _=>k,fun h=>absurd hlt h⟩
  ·rw [if_neg (fun h=>hlt h.2)] at k;exact ⟨fun h=>absurd h hlt,fun _=>k⟩
abbrev FP (p:Nat) (B:Option Nat):Nat->Prop:=fun b=>b=p∨B=some b
def Kin (n:Nat) (B B':Option Nat):Prop:=B'=B∨B'=none∨∃ b,B'=some b∧n<=b
theorem lH {h:H}{p:Nat}{L:List Ver}{B:Option Nat}{x:Ver}{Q:Int->H->Prop}(c:Ch h p L B) (hL:L.length<4294967296)
  (k:∀ h' B',Ch h' p (fH L x) B'->bI (FP p B) h h'->Kin h.size B B'->Q (iP L x) h'):F.xbn (some ⟨p,0,none⟩) x h Q:=by
 have hp:=c.lt
 unfold F.xbn
 refine aN fun n h1 e1 e2 e3 e4=>?_
 have c1:=c.ext e3
 obtain ⟨s,hb,ho,hB,hne⟩:=c1
 have hl:=Ch.len ho
 have hc0:aA h1 ⟨p,0,none⟩=some s.enc:=hb.cell rfl
 have hx0:aA h1 ⟨n,0,none⟩=some (.int .i64 x.epoch):=e2.cell rfl
 have hxc:Cells h1 ⟨n,0,none⟩ x.cells:=fun j v hv=>by rw [aC,Nat.zero_add];exact e2.cell (by simpa using hv)
 -- the new version is appended
 have happ:¬ (L≠[]∧fE L=x.epoch)->F.xbn.j1 Q (some ⟨p,0,none⟩) ⟨n,0,none⟩ h1:=fun hno=>by
  unfold F.xbn.j1
  simp only [aZ,aC,Nat.add_zero]
  rw [bj hc0]
  refine ⟨x,hxc,?_⟩
  refine dT fun n2 h2 f1 f2 f3 f4=>?_
  refine ⟨f3.cell hc0 (fun f=>f),?_⟩
  refine vM (ys:=x.cells) fL (ho.only f3 (fun _ _ f=>f)) (dB (by simpa using f2) rfl) (cG x) (by simp only;omega) fun r h3 r1 r2 r3 r4=>?_
  have hb3:Blk h3 p #[s.enc] di:=r3.block (f3.block hb (fun f=>f)) (by rw [hB];exact hne)
  refine cC hb3 (by simp) fun h4 g1 g2 g3=>?_
  have hr1:r.blk≠some p:=by
   rcases r4 with r4 | ⟨b,r4,r5⟩
   ·rw [r4,hB];exact hne
   ·rw [r4];intro e;cases e;omega
  have hm:fH L x=L ++ [x]:=if_neg hno
  have hn:iP L x=1:=if_neg hno
  rw [← hn]
  refine k h4 r.blk ⟨r,g1,?_,rfl,hr1⟩ ?_ ?_
  ·rw [hm,List.flatMap_append]
   exact (by simpa using r1:aU h3 r bU 6 (L.flatMap (·.cells) ++ x.cells)).only g2 (fun b hb e=>hr1 (by rw [hb,e])) |> (by simpa using ·)
  ·refine (((e3.only (S:=FP p B)).ext f3).trans r3 fun m _ e=>.inr (by rw [← hB];exact e)).trans g2 fun m _ e=>.inl e
  ·rcases r4 with r4 | ⟨b,r4,r5⟩
   ·exact .inl (by rw [r4,hB])
   ·exact .inr (.inr ⟨b,r4,by omega⟩)
 -- the newest version is written anew
 have hset:L≠[]∧fE L=x.epoch->F.xbn.j2 Q (some ⟨p,0,none⟩) ⟨n,0,none⟩ (L.length:Int) true h1:=fun hyes=>by
  have hpos:0<L.length:=List.length_pos_iff.2 hyes.1
  obtain ⟨b,a1,a2,a3,a4,a5⟩:=Ch.at ho (fp hyes.1)
  refine ⟨fun _=>?_,fun h=>by cases h⟩
  simp only [aZ,aC,Nat.add_zero]
  rw [bj hc0]
  refine ⟨x,hxc,?_⟩
  refine cl (i:=L.length-1) a1 (by omega) (by rw [w64 (by omega) (by omega)];omega) ?_
  have hfl:=cq (·.cells) 6 gC L
  refine pY ho a1 (by rw [hfl];simp [aM.cells,ag.cells];omega) fun h4 g1 g2 g3=>?_
  have hm:fH L x=L.dropLast ++ [x]:=if_pos hyes
  have hn:iP L x=0:=if_pos hyes
  rw [← hn]
  refine k h4 B ⟨s,g2.block hb (by rw [hB];exact hne),?_,hB,hne⟩ ((e3.only (S:=FP p B)).trans g2 fun m _ e=>.inr (by rw [← hB];exact e)) (.inl rfl)
  rw [hm,List.flatMap_append]
  have e1:(L.flatMap (·.cells)).take ((L.length-1)*6)=L.dropLast.flatMap (·.cells):=by
   have hd:L=L.dropLast ++ [L.getLast hyes.1]:=(List.dropLast_concat_getLast hyes.1).symm
   have hdl:=cq (·.cells) 6 gC L.dropLast
   rw [List.length_dropLast] at hdl
   conv=>lhs;rw [hd,List.flatMap_append]
   rw [show ((L.dropLast ++ [L.getLast hyes.1]).length-1)=L.length-1 from by simp]
   rw [← hdl,List.take_left]
  have e2:(L.flatMap (·.cells)).drop ((L.length-1)*6+x.cells.length)=[]:=by
   apply List.drop_eq_nil_of_le
   rw [hfl,gC];omega
  rw [e1,e2] at g1
  simpa using g1
 simp only [aZ,aC,Nat.add_zero,bj hc0,hl]
 by_cases hn:L=[]
 ·refine ⟨fun g=>?_,fun g=>⟨(fun h=>by cases h),fun _=>happ fun h=>h.1 hn⟩⟩
  rw [decide_eq_true_iff] at g;subst hn;simp at g
 ·have hpos:0<L.length:=List.length_pos_iff.2 hn
  refine ⟨fun g=>?_,fun g=>by rw [decide_eq_false_iff_not] at g;omega⟩
  obtain ⟨b,a1,a2,a3,a4,a5⟩:=Ch.at ho (fp hn)
  refine cl (i:=L.length-1) a1 (by omega) (by rw [w64 (by omega) (by omega)];omega) ?_
  simp only [aC,Nat.add_zero]
  rw [bA a2,bA hx0]
  have hle:fE L=(L.getLast hn).epoch:=by unfold fE;rw [List.getLast?_eq_some_getLast hn]
  rw [← hle]
  by_cases he:fE L=x.epoch
  ·rw [show (fE L == x.epoch)=true from by simp [he]]
   exact hset ⟨hn,he⟩
  ·rw [show (fE L == x.epoch)=false from by simp [he]]
   exact ⟨fun h=>(by cases h),fun _=>happ fun h=>he h.2⟩
abbrev zA:ag:=⟨0,0,0,0⟩
theorem eK {h:H}{n:Nat}{c d:ag}{e:TypeId}{K:H->Prop}(b:Blk h n c.cells.toArray e) (k:∀ h',Blk h' n d.cells.toArray e->bI (·=n) h h'->h'.size=h.size->K h'):stH h ⟨n,0,none⟩ d.cells K:=by
 refine cC b (Nat.le_refl 4) fun h' q1 q2 q3=>k h' ?_ q2 q3
 rw [cE (by rfl)] at q1
 exact q1
theorem Kin.ge {n n':Nat}{B B':Option Nat}(k:Kin n' B B') (h:n<=n'):Kin n B B':=by
 rcases k with k | k | ⟨b,k,k2⟩
 ·exact .inl k
 ·exact .inr (.inl k)
 ·exact .inr (.inr ⟨b,k,by omega⟩)
theorem jY {h:H}{p:Nat}{L:List Ver}{B:Option Nat}{e:Int}{v:ag}{Q:Int->Int->H->Prop}(c:Ch h p L B) (hL:L.length<4294967296)
  (k0:qK L e≠0->∀ h',Ext h h'->Q 0 (qK L e) h')
  (k1:qK L e=0->∀ h' B',Ch h' p (fH L ⟨e,v,false⟩) B'->bI (FP p B) h h'->Kin h.size B B'->Q (iP L ⟨e,v,false⟩) 0 h'):F.xeq (some ⟨p,0,none⟩) e v h Q:=by
 unfold F.xeq
 refine aN fun n h1 hn b1 e1 s1=>?_
 refine uT (c.ext e1) hL ⟨fun g=>k0 (by simpa using g) h1 e1,fun g=>⟨v,Blk.cells b1,?_⟩⟩
 exact lH (c.ext e1) hL fun h' B' q1 q2 q3=>k1 (by simpa using g) h' B' q1 ((e1.only (S:=FP p B)).trans q2 fun m _ e=>e) (q3.ge e1.size)
theorem ur {h:H}{p:Nat}{L:List Ver}{B:Option Nat}{Q:Int->H->Prop}(c:Ch h p L B) (k:Q (L.length:Int) h):F.xdx (some ⟨p,0,none⟩) h Q:=by
 obtain ⟨s,hb,ho,hB,hne⟩:=c
 have hl:=Ch.len ho
 have hc0:aA h ⟨p,0,none⟩=some s.enc:=hb.cell rfl
 simp only [F.xdx,aZ,aC,Nat.add_zero,bj hc0,hl]
 exact k
def bT (L:List Ver):ag×Int×Bool:=match L.getLast? with | some x=>(x.value,x.epoch,!x.dead) | none=>(zA,0,false)
theorem jK {h:H}{p:Nat}{L:List Ver}{B:Option Nat}{Q:ag->Int->Bool->H->Prop}(c:Ch h p L B) (hL:L.length<4294967296)
  (k:∀ h',Ext h h'->Q (bT L).1 (bT L).2.1 (bT L).2.2 h'):F.xdc (some ⟨p,0,none⟩) h Q:=by
 unfold F.xdc
 refine aN fun n0 h0 hn0 b0 e0 s0=>?_
 obtain ⟨s,hb,ho,hB,hne⟩:=c.ext e0
 have hl:=Ch.len ho
 have hc0:aA h0 ⟨p,0,none⟩=some s.enc:=hb.cell rfl
 simp only [aZ,aC,Nat.add_zero,bj hc0,hl]
 have b0':Blk h0 n0 zA.cells.toArray cf:=b0
 by_cases hn:L=[]
 ·subst hn
  refine ⟨fun _=>⟨zA,b0'.cells,eK b0' fun h1 b1 o1 s1=>⟨zA,b1.cells,?_⟩⟩,fun g=>by simp at g⟩
  exact k h1 (e0.step o1 fun m hm hb=>by omega)
 ·have hpos:0<L.length:=List.length_pos_iff.2 hn
  refine ⟨fun g=>by rw [beq_iff_eq] at g;omega,fun _=>?_⟩
  obtain ⟨b,a1,a2,a3,a4,a5⟩:=Ch.at ho (fp hn)
  refine cl (i:=L.length-1) a1 (by omega) (by rw [w64 (by omega) (by omega)];omega) ?_
  refine ⟨_,a5,?_⟩
  refine aN fun n h1 hn1 e2 e3 e4=>?_
  refine ⟨a5.ext e3,e3.cell hc0 (fun f=>f),e3.cell hc0 (fun f=>f),?_⟩
  refine cC e2 (Nat.le_refl 6) fun h2 f1 f2 f3=>?_
  rw [cE (by rfl)] at f1
  have f1c:=Blk.cells f1
  simp only [aC,Nat.zero_add,Nat.add_zero]
  have v4:Cells h2 ⟨n,1,none⟩ (L.getLast hn).value.cells:=fun j v hv=>by
   rw [aC]
   have q:∀ i,i<4->((L.getLast hn).cells)[1+i]?=((L.getLast hn).value.cells)[i]?:=fun i hi=>by
    match i,hi with
    | 0,_=>rfl
    | 1,_=>rfl
    | 2,_=>rfl
    | 3,_=>rfl
   have hj:j<4:=(List.getElem?_eq_some_iff.1 hv).1
   have:=f1c (1+j) v (by rw [q j hj];exact hv)
   rwa [aC,Nat.zero_add] at this
  have c0:aA h2 ⟨n,0,none⟩=some (.int .i64 (L.getLast hn).epoch):=f1c 0 _ rfl
  have c5:aA h2 ⟨n,5,none⟩=some (.bool (L.getLast hn).dead):=f1c 5 _ rfl
  refine ⟨_,v4,aW c0 (hQ c5 ?_)⟩
  have n0n:n0≠n:=by omega
  have b2:Blk h2 n0 zA.cells.toArray cf:=f2.block (e3.block b0' fun f=>f) n0n
  refine eK b2 fun h3 b3 o3 s3=>?_
  have z:bI (·=n0) h2 h3:=o3
  refine ⟨z.cell c5 (fun h=>n0n h.symm),z.cell c0 (fun h=>n0n h.symm),_,b3.cells,?_⟩
  have hle:bT L=((L.getLast hn).value,(L.getLast hn).epoch,!(L.getLast hn).dead):=by unfold bT;rw [List.getLast?_eq_some_getLast hn]
  have:=k h3 (((e0.trans e3).step f2 fun m hm hb=>by omega).step o3 fun m hm hb=>by omega)
  rw [hle] at this
  exact this
theorem nZ {h:H}{p:Nat}{L:List Ver}{B:Option Nat}{e:Int}{Q:Int->Int->H->Prop}(c:Ch h p L B) (hL:L.length<4294967296)
  (k0:qK L e≠0->Q 0 (qK L e) h)
  (k2:qK L e=0->(bT L).2.2=false->∀ h',Ext h h'->Q 0 44 h')
  (k1:qK L e=0->(bT L).2.2=true->∀ h' B',Ch h' p (fH L ⟨e,zA,true⟩) B'->bI (FP p B) h h'->Kin h.size B B'->Q (iP L ⟨e,zA,true⟩) 0 h'):F.xeu (some ⟨p,0,none⟩) e h Q:=by
 unfold F.xeu
 refine uT c hL ⟨fun g=>k0 (by simpa using g),fun g=>jK c hL fun h1 e1=>?_⟩
 refine aN fun n h2 hn b2 e2 s2=>?_
 have b2':Blk h2 n zA.cells.toArray cf:=b2
 refine eK b2' fun h3 b3 o3 s3=>?_
 have e13:Ext h h3:=(e1.trans e2).step o3 fun m hm hb=>by have:=e1.size;omega
 refine ⟨fun g2=>k2 (by simpa using g) (by simpa using g2) h3 e13,fun g2=>?_⟩
 exact lH (c.ext e13) hL fun h' B' q1 q2 q3=>k1 (by simpa using g) (by simpa using g2) h' B' q1 ((e13.only (S:=FP p B)).trans q2 fun m _ e=>e) (q3.ge e13.size)
abbrev jH (L:List Ver):Prop:=L.Pairwise fun x y=>x.epoch<y.epoch
def jd (L:List Ver) (e:Int):Nat:=L.countP fun x=>decide (x.epoch<=e)
theorem jH.lt {L:List Ver}(r:jH L){i j:Nat}{x y:Ver}(hij:i<j) (hx:L[i]?=some x) (hy:L[j]?=some y):x.epoch<y.epoch:=by
 obtain ⟨hi,rfl⟩:=List.getElem?_eq_some_iff.1 hx
 obtain ⟨hj,rfl⟩:=List.getElem?_eq_some_iff.1 hy
 exact List.pairwise_iff_getElem.1 r i j hi hj hij
theorem tz {α:Type}(q:α->Bool):∀ (L:List α) (i:Nat),i<=L.length->(∀ t x,t<i->L[t]?=some x->q x=true)->(∀ t x,i<=t->L[t]?=some x->q x=false)->L.countP q=i
 | [],i,hi,_,_=>by simp at hi;simp [hi]
 | y :: r,0,hi,h1,h2=>by
  rw [List.countP_cons,h2 0 y (by omega) rfl,tz q r 0 (by omega) (fun t x ht=>by omega) (fun t x ht hx=>h2 (t+1) x (by omega) (by simpa using hx))]
  rfl
 | y :: r,i+1,hi,h1,h2=>by
  simp at hi
  rw [List.countP_cons,h1 0 y (by omega) rfl,tz q r i hi (fun t x ht hx=>h1 (t+1) x (by omega) (by simpa using hx)) (fun t x ht hx=>h2 (t+1) x (by omega) (by simpa using hx))]
  rfl
theorem C7 {i j:Nat}(h:i+j<4294967296):IntKind.wrap .i64 (Int.fdiv (IntKind.wrap .u64 (IntKind.wrap .i64 ((i:Int)+j))) (2 ^ (min (1:Int).toNat (IntKind.bits .u64)):Int))=((i+j) / 2:Nat):=by
 rw [w64 (n:=(i:Int)+j) (by omega) (by omega)]
 have e1:IntKind.wrap .u64 ((i:Int)+j)=((i+j:Nat):Int):=by
  unfold IntKind.wrap
  simp [IntKind.bits,IntKind.signed]
  omega
 rw [e1,show (2 ^ (min (1:Int).toNat (IntKind.bits .u64)):Int)=2 from by simp [IntKind.bits],Int.fdiv_eq_ediv_of_nonneg _ (by omega),show (((i+j:Nat):Int) / 2)=(((i+j) / 2:Nat):Int) from by omega,w64 (by omega) (by omega)]
theorem uB {h:H}{x:Ver}{e:Int}{K:Value->H->Prop}(k:∀ h',Ext h h'->K (.int .i64 (if x.epoch<=e then -1 else 1)) h'):CV PP (.func (.func eU) #[] #[]) [.agg x.cells.toArray,.int .i64 e] h K:=by
 refine wS (fun a w=>gu a w) ?_
 have:F.xfl x e h fun r h'=>K (.int .i64 r) h':=by
  unfold F.xfl
  refine aN fun n h1 e1 e2 e3 e4=>?_
  simp only [aC,Nat.add_zero]
  rw [bA (e2.cell (v:=.int .i64 x.epoch) rfl)]
  simp only [decide_eq_true_eq,decide_eq_false_iff_not]
  refine ⟨fun g=>?_,fun g=>?_⟩
  ·have:=k h1 e3;rw [if_pos g] at this;exact this
  ·have:=k h1 e3;rw [if_neg g] at this;exact this
 have:=F.xfl_ok this
 simp only [List.append_toArray,Array.empty_append,Array.append_empty]
 exact this.mono fun r h' ⟨r0,e,q⟩=>by subst e;exact q
theorem tt {s:Sl}{e:Int}{L:List Ver}{Q:Int->Bool->H->Prop}(hr:jH L) (hL:L.length<1073741824):∀ (m i j:Nat) (h:H),aU h s bU 6 (L.flatMap (·.cells))->i<=j->j<=L.length ->
  (∀ t x,t<i->L[t]?=some x->x.epoch<=e)->(∀ t x,j<=t->L[t]?=some x->e<x.epoch)->j-i<m->(∀ r h',Ext h h'->Q (jd L e) r h') ->
  F.xcx.l1 Q m s e (.func (.func eU) #[] #[]) (L.length:Int) (i:Int) (j:Int) h
 | 0,i,j,h,_,_,_,_,_,hm,_=>by omega
 | m+1,i,j,h,ho,hij,hj,hlo,hhi,hm,k=>by
  unfold F.xcx.l1
  simp only [decide_eq_true_eq,decide_eq_false_iff_not]
  refine ⟨fun g=>⟨by omega,?_⟩,fun g=>?_⟩
  ·rw [C7 (by omega)]
   have hm1:(i+j) / 2<L.length:=by omega
   obtain ⟨x,hx⟩:∃ x,L[(i+j) / 2]?=some x:=⟨_,List.getElem?_eq_getElem hm1⟩
   obtain ⟨b,a1,a2,a3,a4,a5⟩:=Ch.at ho hx
   have hl:=Ch.len ho
   refine cl (i:=(i+j) / 2) a1 (by omega) rfl ?_
   refine ⟨x,a5,uB fun h' e1=>⟨_,rfl,fun g2=>?_,fun g2=>?_⟩⟩
   ·have hxe:x.epoch<=e:=by
     by_cases hh:x.epoch<=e
     ·exact hh
     ·rw [if_neg hh] at g2;omega
    rw [w64 (by omega) (by omega),show (((i+j) / 2:Nat):Int)+1=(((i+j) / 2+1:Nat):Int) from by omega]
    refine tt hr hL m _ j h' (ho.only e1 fun _ _ f=>f) (by omega) hj (fun t y ht hy=>?_) hhi (by omega) fun r h2 e2=>k r h2 (e1.trans e2)
    by_cases ht2:t=(i+j) / 2
    ·subst ht2;rw [hx] at hy;cases hy;exact hxe
    ·have:=hr.lt (by omega) hy hx;omega
   ·have hxe:¬ x.epoch<=e:=fun hh=>by rw [if_pos hh] at g2;omega
    refine tt hr hL m i _ h' (ho.only e1 fun _ _ f=>f) (by omega) (by omega) hlo (fun t y ht hy=>?_) (by omega) fun r h2 e2=>k r h2 (e1.trans e2)
    by_cases ht2:t=(i+j) / 2
    ·subst ht2;rw [hx] at hy;cases hy;omega
    ·have:=hr.lt (show (i+j) / 2<t by omega) hx hy;omega
  ·have hij2:i=j:=by omega
   subst hij2
   have hc:jd L e=i:=tz _ L i hj (fun t x ht hx=>by simpa using hlo t x ht hx) fun t x ht hx=>by simpa using hhi t x ht hx
   rw [hc] at k
   refine ⟨fun g2=>?_,fun g2=>k _ h (.refl _)⟩
   obtain ⟨x,hx⟩:∃ x,L[i]?=some x:=⟨_,List.getElem?_eq_getElem (by omega)⟩
   obtain ⟨b,a1,a2,a3,a4,a5⟩:=Ch.at ho hx
   have hl:=Ch.len ho
   refine cl (i:=i) a1 (by omega) rfl ?_
   exact ⟨x,a5,uB fun h' e1=>⟨_,rfl,k _ h' e1⟩⟩
theorem iz {h:H}{p:Nat}{L:List Ver}{B:Option Nat}{e:Int}{Q:Int->H->Prop}(c:Ch h p L B) (hr:jH L) (hL:L.length<1073741824)
  (k:∀ h',Ext h h'->Q ((jd L e:Int)-1) h'):F.xcp (some ⟨p,0,none⟩) e h Q:=by
 obtain ⟨s,hb,ho,hB,hne⟩:=c
 have hl:=Ch.len ho
 have hc0:aA h ⟨p,0,none⟩=some s.enc:=hb.cell rfl
 have hcl:jd L e<=L.length:=List.countP_le_length
 simp only [F.xcp,aZ,aC,Nat.add_zero,bj hc0]
 unfold F.xcx
 refine ⟨L.length+1,?_⟩
 rw [hl]
 refine tt hr hL _ 0 L.length h ho (by omega) (by omega) (fun t x ht=>by omega) (fun t x ht hx=>?_) (by omega) fun r h' e1=>?_
 ·rw [List.getElem?_eq_none (by omega)] at hx;cases hx
 ·rw [w64 (by omega) (by omega)]
  exact k h' e1
def atM (L:List Ver) (e:Int):ag×Bool:=match (L.filter fun x=>decide (x.epoch<=e)).getLast? with | some x=>if x.dead then (zA,false) else (x.value,true) | none=>(zA,false)
theorem vd {L:List Ver}(hr:jH L) (e:Int):L.filter (fun x=>decide (x.epoch<=e))=L.take (jd L e):=by
 unfold jd
 induction L with
 | nil=>rfl
 | cons y r ih =>
  have hr':=List.pairwise_cons.1 hr
  by_cases hy:y.epoch<=e
  ·simp [hy,ih hr'.2]
  ·have hno:∀ x∈r,¬ x.epoch<=e:=fun x hx=>by have:=hr'.1 x hx;omega
   have h1:r.filter (fun x=>decide (x.epoch<=e))=[]:=by simp;intro x hx;have:=hno x hx;omega
   have h2:r.countP (fun x=>decide (x.epoch<=e))=0:=by rw [List.countP_eq_length_filter,h1];rfl
   simp [hy,h1,h2]
theorem A7 {L:List Ver}(hr:jH L) (e:Int):(L.filter fun x=>decide (x.epoch<=e)).getLast?=if jd L e=0 then none else L[jd L e-1]?:=by
 have hcl:jd L e<=L.length:=List.countP_le_length
 rw [vd hr,List.getLast?_eq_getElem?,List.length_take,Nat.min_eq_left hcl]
 split
 ·rename_i h0;rw [h0];simp
 ·rw [List.getElem?_take_of_lt (by omega)]
theorem pI {h:H}{p:Nat}{L:List Ver}{B:Option Nat}{e:Int}{Q:ag->Bool->H->Prop}(c:Ch h p L B) (hr:jH L) (hL:L.length<1073741824)
  (k:∀ h',Ext h h'->Q (atM L e).1 (atM L e).2 h'):F.xbz (some ⟨p,0,none⟩) e h Q:=by
 unfold F.xbz
 refine aN fun n0 h0 hn0 b0 e0 s0=>?_
 have b0':Blk h0 n0 zA.cells.toArray cf:=b0
 refine iz (c.ext e0) hr hL fun h1 e1=>?_
 have e01:=e0.trans e1
 have b1:Blk h1 n0 zA.cells.toArray cf:=e1.block b0' fun f=>f
 obtain ⟨s,hb,ho,hB,hne⟩:=c.ext e01
 have hl:=Ch.len ho
 have hc0:aA h1 ⟨p,0,none⟩=some s.enc:=hb.cell rfl
 have hcl:jd L e<=L.length:=List.countP_le_length
 have none_:(atM L e)=(zA,false)->F.xbz.j1 Q ⟨n0,0,none⟩ h1:=fun hn=>by
  unfold F.xbz.j1
  refine ⟨zA,b1.cells,eK b1 fun h2 b2 o2 s2=>⟨zA,b2.cells,?_⟩⟩
  have:=k h2 (e01.step o2 fun m hm hb=>by omega)
  rw [hn] at this;exact this
 unfold atM at none_ k
 rw [A7 hr e] at none_ k
 simp only [F.xbz.j2,aZ,aC,Nat.add_zero,bj hc0,decide_eq_true_eq,decide_eq_false_iff_not]
 refine ⟨fun g=>?_,fun g=>⟨(fun h=>by cases h),fun _=>none_ (by rw [if_pos (by omega)])⟩⟩
 rw [if_neg (by omega)] at none_ k
 obtain ⟨x,hx⟩:∃ x,L[jd L e-1]?=some x:=⟨_,List.getElem?_eq_getElem (by omega)⟩
 rw [hx] at none_ k
 obtain ⟨b,a1,a2,a3,a4,a5⟩:=Ch.at ho hx
 refine cl (i:=jd L e-1) a1 (by omega) (by omega) ?_
 simp only [aC,Nat.add_zero]
 rw [tM a4]
 cases hd:x.dead with
 | true=>exact ⟨(fun h=>by cases h),fun _=>none_ (by simp [hd])⟩
 | false =>
  simp only [hd] at k
  refine ⟨fun _=>?_,(fun h=>by cases h)⟩
  refine cl (i:=jd L e-1) a1 (by omega) (by omega) ?_
  rw [aC]
  refine ⟨x.value,a3,eK b1 fun h2 b2 o2 s2=>⟨_,b2.cells,?_⟩⟩
  exact k h2 (e01.step o2 fun m hm hb=>by omega)
end Go.Proofs.YtjjchpaomgmmdaaGreat.V.C
namespace Go.Proofs.YtjjchpaomgmmdaaGreat.V
open Go
set_option linter.unusedVariables false
set_option linter.unusedSimpArgs false
theorem ir {n:Int}(h:(Lit.int .i64 n).wf=true):-9223372036854775808<=n∧n<9223372036854775808:=by
 simp [Lit.wf,IntKind.min,IntKind.max,IntKind.bits,IntKind.signed] at h
 omega
end Go.Proofs.YtjjchpaomgmmdaaGreat.V
namespace Go.Proofs.YtjjchpaomgmmdaaGreat.V.C
open Go Go.Proofs.YtjjchpaomgmmdaaGreat.V
set_option linter.unusedVariables false
set_option linter.unusedSimpArgs false
set_option maxRecDepth 20000
def jP (L:List Ver) (S:List Bool) (e:Int):List Bool:=if jd L e=0 then S else S.set (jd L e-1) true
def du:List Ver->List Bool->List Ver
 | x :: r,b :: s=>if b then x :: du r s else du r s
 | _,_=>[]
def im (L:List Ver) (E:List Int):List Bool:=E.foldl (jP L) ((List.replicate L.length false).set (L.length-1) true)
def mK:List Ver->List Ver
 | [x]=>if x.dead then [] else [x]
 | R=>R
def bF (L:List Ver) (E:List Int):List Ver:=mK (du L (im L E))
theorem oK (L:List Ver) (S:List Bool) (e:Int):(jP L S e).length=S.length:=by unfold jP;split <;> simp
theorem nP (L:List Ver):∀ (E:List Int) (S:List Bool),(E.foldl (jP L) S).length=S.length
 | [],S=>rfl
 | e :: r,S=>by rw [List.foldl_cons,nP L r,oK]
theorem nC:∀ (L:List Ver) (S:List Bool),(du L S).length<=L.length
 | [],S=>by simp [du]
 | x :: r,[]=>by simp [du]
 | x :: r,b :: s=>by unfold du;have:=nC r s;split <;> simp <;> omega
theorem sy (x:Ver) (b:Bool):∀ (L:List Ver) (S:List Bool),L.length=S.length->du (L ++ [x]) (S ++ [b])=du L S ++ (if b then [x] else [])
 | [],[],_=>by cases b <;> simp [du]
 | [],_ :: _,h=>by simp at h
 | _ :: _,[],h=>by simp at h
 | y :: r,c :: s,h=>by
  have:=sy x b r s (by simpa using h)
  simp only [List.cons_append,du,this]
  split <;> simp
theorem sA {L:List Ver}{S:List Bool}(hl:S.length=L.length){i:Nat}{x:Ver}{b:Bool}(hx:L[i]?=some x) (hb:S[i]?=some b):du (L.take (i+1)) (S.take (i+1))=du (L.take i) (S.take i) ++ (if b then [x] else []):=by
 rw [List.take_add_one,List.take_add_one,hx,hb]
 exact sy x b _ _ (by simp [hl])
theorem oL {p:Nat}{L:List Ver}{B:Option Nat}{held:Sl}{s6:Sl}{sb:Nat}{E0:List Int}{Q:Int->H->Prop}(hr:jH L) (hL:L.length<1073741824) (hE0:E0.length<1073741824) (hp6:s6.ptr=some ⟨sb,0,none⟩) (hpb:p≠sb) (hBb:B≠some sb) (hh:E0≠[]->held.blk≠some sb) :
  ∀ (m i:Nat) (h:H) (S:List Bool),Ch h p L B->aU h s6 4 1 (S.flatMap cB)->S.length=L.length->bS h held 1 (E0.flatMap cI)->i<=E0.length->E0.length-i<m ->
  (∀ h' S',S'=(E0.drop i).foldl (jP L) S->Ch h' p L B->aU h' s6 4 1 (S'.flatMap cB)->bI (·=sb) h h'->(nn (some ⟨p,0,none⟩) fun a22=>ldL h' (a22.add 0) fun y24=>∃ m,F.xao.l2 Q m (some ⟨p,0,none⟩) (L.length:Int) s6 ⟨none,0,0⟩ y24 (y24.len:Int) 0 h')) ->
  F.xao.l1 Q m (some ⟨p,0,none⟩) (L.length:Int) s6 held (E0.length:Int) (i:Int) h
 | 0,i,h,S,_,_,_,_,_,hm,_=>by omega
 | m+1,i,h,S,c,o,hS,rd,hi,hm,k=>by
  have hp:=c.lt
  unfold F.xao.l1
  simp only [decide_eq_true_eq,decide_eq_false_iff_not]
  refine ⟨fun g=>?_,fun g=>?_⟩
  ·have hi2:i<E0.length:=by omega
   obtain ⟨e,he⟩:∃ e,E0[i]?=some e:=⟨_,List.getElem?_eq_getElem hi2⟩
   obtain ⟨q,r1,r2,r3⟩:=gw fZ (by omega) rd he
   have hel:=cz fZ (by omega) rd
   refine dK (i:=i) r1 (by omega) rfl ?_
   rw [bA r3.one]
   refine iz c hr hL fun h1 e1=>?_
   have hd:E0.drop i=e :: E0.drop (i+1):=by
    rw [List.drop_eq_getElem_cons hi2]
    congr 1
    obtain ⟨_,h⟩:=List.getElem?_eq_some_iff.1 he;exact h
   rw [hd,List.foldl_cons] at k
   have hw:IntKind.wrap .i64 ((i:Int)+1)=((i+1:Nat):Int):=by rw [w64 (by omega) (by omega)];omega
   rw [hw]
   have hcl:jd L e<=L.length:=List.countP_le_length
   refine ⟨fun g2=>?_,fun g2=>?_⟩
   ·refine cl (i:=jd L e-1) hp6 (by rw [bH kH (by omega) o];omega) (by omega) ?_
    refine ix (f:=cB) (k:=1) (x:=true) kH (o.only e1 fun _ _ f=>f) hp6 (by omega) fun h2 f1 f2 f3=>?_
    have hm2:jP L S e=S.set (jd L e-1) true:=by unfold jP;rw [if_neg (by omega)]
    rw [← hm2] at f1
    have f2':bI (·=sb) h h2:=(e1.only (S:=(·=sb))).trans f2 fun n _ e=>by simp [Sl.blk,hp6] at e;exact e.symm
    exact oL hr hL hE0 hp6 hpb hBb hh m (i+1) h2 _ (c.only f2' hpb fun b hb e=>hBb (by rw [hb,e])) f1 (by rw [oK];exact hS) (rd.keep f2' fun hne b hb e=>hh hne (by rw [hb,e])) (by omega) (by omega)
     fun h' S' q1 q2 q3 q4=>k h' S' q1 q2 q3 (f2'.trans q4 fun _ _ e=>e)
   ·have hm2:jP L S e=S:=by unfold jP;rw [if_pos (by omega)]
    rw [hm2] at k
    exact oL hr hL hE0 hp6 hpb hBb hh m (i+1) h1 _ (c.ext e1) (o.only e1 fun _ _ f=>f) hS (rd.only e1 fun _ _ f=>f) (by omega) (by omega)
     fun h' S' q1 q2 q3 q4=>k h' S' q1 q2 q3 ((e1.only (S:=(·=sb))).trans q4 fun _ _ e=>e)
  ·have hd:E0.drop i=[]:=List.drop_eq_nil_of_le (by omega)
   rw [hd] at k
   exact k h S rfl c o (.refl _)
theorem oF {p:Nat}{L:List Ver}{s s6:Sl}{sb n0:Nat}{S:List Bool}{Q:Int->H->Prop}(hL:L.length<1073741824) (hS:S.length=L.length) (hp6:s6.ptr=some ⟨sb,0,none⟩) (hs:s.blk≠some p) :
  ∀ (m i:Nat) (h:H) (x:Sl),Blk h p #[s.enc] di->aU h s bU 6 (L.flatMap (·.cells))->aU h s6 4 1 (S.flatMap cB)->aU h x bU 6 ((du (L.take i) (S.take i)).flatMap (·.cells)) ->
  (∀ b,x.blk=some b->n0<=b)->n0<=h.size->p<n0->(∀ b,s.blk=some b->b<n0)->sb<n0->i<=L.length->L.length-i<m ->
  (∀ h' B',Ch h' p (mK (du L S)) B'->bI (fun b=>b=p∨n0<=b) h h'->(B'=none∨∃ b,B'=some b∧n0<=b)->Q ((L.length:Int)-((mK (du L S)).length:Int)) h') ->
  F.xao.l2 Q m (some ⟨p,0,none⟩) (L.length:Int) s6 x s (L.length:Int) (i:Int) h
 | 0,i,h,x,_,_,_,_,_,_,_,_,_,_,hm,_=>by omega
 | m+1,i,h,x,hb,ho,o6,ox,hx,hn0,hp,hs0,hsb,hi,hm,k=>by
  unfold F.xao.l2
  have hl:=bH gC (by omega) ho
  have hl6:=bH kH (by omega) o6
  simp only [decide_eq_true_eq,decide_eq_false_iff_not]
  refine ⟨fun g=>?_,fun g=>?_⟩
  ·have hi2:i<L.length:=by omega
   obtain ⟨y,hy⟩:∃ y,L[i]?=some y:=⟨_,List.getElem?_eq_getElem hi2⟩
   obtain ⟨b,hSb⟩:∃ b,S[i]?=some b:=⟨_,List.getElem?_eq_getElem (by omega)⟩
   obtain ⟨bb,a1,a2⟩:=jz gC (by omega) ho hy
   refine cl (i:=i) a1 (by omega) rfl ⟨y,a2,?_⟩
   refine aN fun n h1 e1 e2 e3 e4=>?_
   refine cC e2 (by simp [aM.cells,ag.cells]) fun h2 f1 f2 f3=>?_
   rw [cE (by simp [aM.cells,ag.cells])] at f1
   have f4:Ext h h2:=(e3.only (S:=fun _=>False)).trans f2 fun m hm e=>by omega
   obtain ⟨b6,c1,c2⟩:=jz kH (by omega) (o6.only f4 fun _ _ f=>f) hSb
   refine cl (i:=i) c1 (by omega) rfl ?_
   rw [tM c2.one]
   have hw:IntKind.wrap .i64 ((i:Int)+1)=((i+1:Nat):Int):=by rw [w64 (by omega) (by omega)];omega
   rw [hw]
   have hkt:=sA hS hy hSb
   refine ⟨fun g2=>?_,fun g2=>?_⟩
   ·subst g2
    refine ⟨y,fun j v hv=>by rw [aC,Nat.zero_add];exact f1.cell (by simpa using hv),?_⟩
    refine dT fun n3 h3 g1 g2 g3 g4=>?_
    have f5:=f4.trans g3
    have hkl:(du (L.take i) (S.take i)).length<=L.length:=Nat.le_trans (nC _ _) (by rw [List.length_take];omega)
    have hxl:=bH gC (by omega) ox
    refine vM (ys:=y.cells) fL (ox.only f5 (fun _ _ f=>f)) (dB (by simpa using g2) rfl) (cG y) (by simp only;omega) fun r h4 r1 r2 r3 r4=>?_
    have r3':bI (fun b=>n0<=b) h h4:=(f5.only (S:=fun b=>n0<=b)).trans r3 fun b _ e=>hx b e
    have hge:h.size<=h4.size:=r3'.size
    refine oF (n0:=n0) hL hS hp6 hs m (i+1) h4 r (r3'.block hb (by omega)) (ho.only r3' fun b hb e=>by have:=hs0 b hb;omega) (o6.only r3' fun b hb e=>by simp [Sl.blk,hp6] at hb;omega) ?_ ?_ (by omega) hp hs0 hsb (by omega) (by omega) ?_
    ·rw [hkt];simpa using r1
    ·intro b hb
     rcases r4 with r4 | ⟨b',r4,r5⟩
     ·exact hx b (by rw [← r4];exact hb)
     ·rw [r4] at hb;cases hb
      have:=f5.size;omega
    ·intro h' B' q1 q2 q3
     exact k h' B' q1 ((r3'.mono fun b _ e=>.inr e).trans q2 fun _ _ e=>e) q3
   ·subst g2
    refine oF (n0:=n0) hL hS hp6 hs m (i+1) h2 x (f4.block hb (fun f=>f)) (ho.only f4 fun _ _ f=>f) (o6.only f4 fun _ _ f=>f) ?_ hx (by have:=f4.size;omega) hp hs0 hsb (by omega) (by omega) ?_
    ·rw [hkt];simpa using ox.only f4 fun _ _ f=>f
    ·intro h' B' q1 q2 q3
     exact k h' B' q1 ((f4.only (S:=fun b=>b=p∨n0<=b)).trans q2 fun _ _ e=>e) q3
  ·have hii:i=L.length:=by omega
   subst hii
   rw [List.take_length,show L.length=S.length from hS.symm,List.take_length] at ox
   have hxl:=bH gC (by omega) ox
   have hkl:=nC L S
   -- the end: what is laid
   have hend:∀ (y:Sl) (R:List Ver),aU h y bU 6 (R.flatMap (·.cells))->(∀ b,y.blk=some b->n0<=b)->R=(mK (du L S))->R.length<=L.length->F.xao.j3 Q (some ⟨p,0,none⟩) (L.length:Int) y h:=fun y R hy hyb hR hRl=>by
    unfold F.xao.j3
    simp only [aZ,aC,Nat.add_zero]
    have hyl:=bH gC (by omega) hy
    refine cC hb (by simp) fun h4 g1 g2 g3=>?_
    rw [cE (by simp)] at g1
    rw [hyl,w64 (by omega) (by omega)]
    have hne:y.blk≠some p:=fun e=>by have:=hyb p e;omega
    rw [← hR] at k
    refine k h4 y.blk ⟨y,g1,hy.only g2 fun b hb e=>hne (by rw [hb,e]),rfl,hne⟩ (g2.mono fun _ _ e=>.inl e) ?_
    cases hyy:y.blk with
    | none=>exact .inl rfl
    | some b=>exact .inr ⟨b,rfl,hyb b hyy⟩
   rw [beq_iff_eq,beq_eq_false_iff_ne]
   unfold F.xao.j4
   refine ⟨fun g2=>?_,fun g2=>⟨(fun h=>by cases h),fun _=>hend x _ ox hx ?_ hkl⟩⟩
   ·have h1:(du L S).length=1:=by omega
    obtain ⟨y,hy⟩:=List.length_eq_one_iff.1 h1
    obtain ⟨bb,a1,a2⟩:=jz (i:=0) (x:=y) gC (by omega) ox (by rw [hy];rfl)
    refine cl (i:=0) a1 (by omega) rfl ?_
    have hd:aA h ((⟨bb,0*6,none⟩:Addr).add 5)=some (.bool y.dead):=a2 5 (.bool y.dead) rfl
    rw [tM hd]
    refine ⟨fun g3=>hend _ [] (aU.nil _ _ _) (fun b hb=>by simp [Sl.blk] at hb) (by rw [hy];simp [mK,g3]) (by simp),fun g3=>hend x _ ox hx (by rw [hy];simp [mK,g3]) hkl⟩
   ·unfold mK
    split
    ·rename_i y hy;rw [hy] at hxl;simp at hxl;omega
    ·rfl
theorem mz {h:H}{p:Nat}{L:List Ver}{B:Option Nat}{held:Sl}{E:List Int}{Q:Int->H->Prop}(c:Ch h p L B) (hr:jH L) (hL:L.length<1073741824) (hE:E.length<1073741824) (rd:bS h held 1 (E.flatMap cI))
  (hlt:E≠[]->∀ b,held.blk=some b->b<h.size)
  (k:∀ h' B',Ch h' p (bF L E) B'->bI (·=p) h h'->Kin h.size B B'->Q ((L.length:Int)-((bF L E).length:Int)) h'):F.xao (some ⟨p,0,none⟩) held h Q:=by
 have hp:=c.lt
 obtain ⟨s,hb,ho,hB,hne⟩:=id c
 have hl:=bH gC (by omega) ho
 have hel:=cz fZ (by omega) rd
 have hc0:aA h ⟨p,0,none⟩=some s.enc:=hb.cell rfl
 simp only [F.xao,aZ,aC,Nat.add_zero,bj hc0,hl,hel]
 rw [beq_iff_eq,beq_eq_false_iff_ne]
 refine ⟨fun g=>?_,fun g=>?_⟩
 ·have hn:L=[]:=List.eq_nil_of_length_eq_zero (by omega)
  subst hn
  have hpr:bF [] E=[]:=by simp [bF,du,mK]
  rw [hpr] at k
  exact k h B c (.refl _) (.inl rfl)
 ·have hpos:0<L.length:=by omega
  refine nF sd (by omega) (by simp only [maxLen];omega) fun nb h1 n1 n2 n3=>?_
  have hblt:=c.ltB
  have hg1:=n3.size
  rw [show (Value.bool false).cells=#[.bool false] from rfl,Nat.mul_one,uR,← jx cB false (.bool false) rfl] at n2
  refine cl (i:=L.length-1) rfl (by simp only;omega) (by rw [w64 (by omega) (by omega)];omega) ?_
  refine ix (f:=cB) (k:=1) (x:=true) kH n2 rfl (by simp;omega) fun h2 f1 f2 f3=>?_
  have f2':Ext h h2:=(n3.only (S:=fun _=>False)).trans f2 fun n hn e=>by simp [Sl.blk] at e;omega
  refine ⟨E.length+1,?_⟩
  refine oL hr hL hE rfl (by omega) (fun e=>by have:=hblt _ e;omega) (fun hne e=>by have:=hlt hne _ e;omega) _ 0 h2 _ (c.ext f2') f1 (by simp) (rd.only f2' fun _ _ f=>f) (by omega) (by omega) fun h3 S' q1 q2 q3 q4=>?_
  have q5:Ext h h3:=(f2'.only (S:=fun _=>False)).trans q4 fun n hn e=>by omega
  have hb3:Blk h3 p #[s.enc] di:=q5.block hb (fun f=>f)
  simp only [aZ,aC,Nat.add_zero]
  rw [bj (hb3.cell (i:=0) rfl)]
  refine ⟨L.length+1,?_⟩
  rw [hl]
  have hS':S'=im L E:=q1
  have hsl:(im L E).length=L.length:=by unfold im;rw [nP];simp
  rw [hS'] at q3
  have hg3:=q5.size
  have hsb3:nb<h3.size:=q3.blk_lt (b:=nb) rfl
  refine oF (n0:=h3.size) hL hsl rfl (by rw [hB];exact hne) _ 0 h3 _ hb3 (ho.only q5 fun _ _ f=>f) q3 (by simpa [du] using aU.nil h3 bU 6) (fun b hb=>by simp [Sl.blk] at hb) (Nat.le_refl _) (by omega) (fun b hb=>by have:=hblt b (by rw [← hB];exact hb);omega) hsb3 (by omega) (by omega) ?_
  intro h' B' t1 t2 t3
  refine k h' B' t1 ((q5.only (S:=(·=p))).trans t2 fun n hn e=>by omega) ?_
  rcases t3 with t3 | ⟨b,t3,t4⟩
  ·exact .inr (.inl t3)
  ·exact .inr (.inr ⟨b,t3,by omega⟩)
theorem ve {L R:List Ver}(hr:jH L) (hs:R.Sublist L):jH R:=List.Pairwise.sublist hs hr
theorem nD:∀ (L:List Ver) (S:List Bool),(du L S).Sublist L
 | [],S=>by simp [du]
 | x :: r,[]=>by simp [du]
 | x :: r,b :: s=>by
  unfold du
  split
  ·exact (nD r s).cons_cons x
  ·exact (nD r s).cons x
theorem BE (R:List Ver):(mK R).Sublist R:=by
 unfold mK
 split
 ·split <;> simp
 ·simp
theorem sO (L:List Ver) (E:List Int):(bF L E).Sublist L:=(BE _).trans (nD _ _)
theorem uU {x:Ver}:∀ {L:List Ver}{S:List Bool}{i:Nat},L[i]?=some x->S[i]?=some true->x∈du L S
 | [],S,i,h,_=>by simp at h
 | y :: r,[],i,_,h=>by simp at h
 | y :: r,b :: s,0,h1,h2=>by simp at h1 h2;subst h1;subst h2;simp [du]
 | y :: r,b :: s,i+1,h1,h2=>by
  have:=uU (L:=r) (S:=s) (i:=i) (by simpa using h1) (by simpa using h2)
  unfold du
  split
  ·exact List.mem_cons_of_mem _ this
  ·exact this
theorem sJ (L:List Ver){i:Nat}:∀ (E:List Int) (S:List Bool),S[i]?=some true->(E.foldl (jP L) S)[i]?=some true
 | [],S,h=>h
 | e :: r,S,h=>by
  rw [List.foldl_cons]
  refine sJ L r _ ?_
  unfold jP
  split
  ·exact h
  ·have hi:=(List.getElem?_eq_some_iff.1 h).1
   rw [List.getElem?_set]
   split
   ·rename_i he;subst he;rw [if_pos hi]
   ·exact h
theorem nN (L:List Ver) (E:List Int):(bF L E).length<=L.length:=(sO L E).length_le
theorem yR {L:List Ver}(hn:L≠[]) (E:List Int):(im L E)[L.length-1]?=some true:=by
 have hpos:0<L.length:=List.length_pos_iff.2 hn
 exact sJ L E _ (by rw [List.getElem?_set,if_pos rfl,if_pos (by simp;omega)])
theorem yw {L:List Ver}(hr:jH L) (hn:L≠[]) (E:List Int):(du L (im L E)).getLast?=some (L.getLast hn):=by
 have hmem:L.getLast hn∈du L (im L E):=uU (fp hn) (yR hn E)
 have hk:=nD L (im L E)
 have hr2:=ve hr hk
 obtain ⟨y,hy⟩:∃ y,(du L (im L E)).getLast?=some y:=⟨_,List.getLast?_eq_some_getLast (List.ne_nil_of_mem hmem)⟩
 rw [hy]
 obtain ⟨l,hl⟩:=List.getLast?_eq_some_iff.1 hy
 congr 1
 rw [hl] at hmem hr2
 rcases List.mem_append.1 hmem with hm | hm
 ·exfalso
  have h1:=(List.pairwise_append.1 hr2).2.2 _ hm y (by simp)
  have hyL:y∈L:=hk.subset (by rw [hl];simp)
  have hrr:∀ z∈L,z.epoch<=(L.getLast hn).epoch:=fun z hz=>by
   obtain ⟨i,hi,rfl⟩:=List.mem_iff_getElem.1 hz
   by_cases he:i=L.length-1
   ·have:L.getLast hn=L[i]:=by rw [List.getLast_eq_getElem];congr 1;exact he.symm
    rw [this];exact Int.le_refl _
   ·have:=hr.lt (i:=i) (j:=L.length-1) (by omega) (List.getElem?_eq_getElem hi) (fp hn);omega
  have:=hrr y hyL
  omega
 ·simp at hm;exact hm.symm
theorem wv {L:List Ver}(hr:jH L) (hn:L≠[]) (E:List Int):(bF L E=[]∧(L.getLast hn).dead=true)∨(bF L E).getLast?=some (L.getLast hn):=by
 have hk:=yw hr hn E
 unfold bF mK
 split
 ·rename_i x hx
  rw [hx] at hk
  simp at hk
  split
  ·rename_i hd;exact .inl ⟨rfl,by rw [← hk];exact hd⟩
  ·exact .inr (by simp [hk])
 ·exact .inr hk
end Go.Proofs.YtjjchpaomgmmdaaGreat.V.C
namespace Go.Proofs.YtjjchpaomgmmdaaGreat.V
set_option linter.unusedVariables false
set_option linter.unusedSimpArgs false
structure Pl (α:Type) where
 is_:Nat
 key:ByteArray
 value:α
abbrev kL (k:ByteArray):List UInt8:=k.data.toList
theorem qF {a b:ByteArray}(h:kL a=kL b):a=b:=by
 obtain ⟨x⟩:=a
 obtain ⟨y⟩:=b
 congr 1
 exact Array.toList_inj.1 h
def Cj (l:List UInt8):Nat:=l.foldl (fun h c=>((h ^^^ c.toNat)*1099511628211) % 18446744073709551616) 14695981039346656037
def nB (k:ByteArray):Nat:=Cj (kL k)
section
variable {α:Type}
def kx (R:List (Pl α)) (key:ByteArray):Nat->Nat->Option (Nat×Bool)
 | 0,_=>none
 | f+1,i=>match R[i]? with
  | none=>none
  | some p=>if p.is_=0 then some (i,false) else if p.is_=1∧kL p.key=kL key then some (i,true) else kx R key f ((i+1) % R.length)
def fb (R:List (Pl α)) (key:ByteArray):Nat:=nB key % R.length
def fB (R:List (Pl α)) (key:ByteArray):Option (Nat×Bool):=if R.length=0 then some (0,false) else kx R key (R.length+1) (fb R key)
def cV (n h i:Nat):Nat:=if h<=i then i-h else i+n-h
theorem ng {n h i:Nat}(hh:h<n) (hi:i<n):cV n h i<n:=by unfold cV;split <;> omega
theorem iC {n h i:Nat}(hh:h<n) (hi:i<n):(h+cV n h i) % n=i:=by
 unfold cV
 split
 ·rw [show h+(i-h)=i from by omega,Nat.mod_eq_of_lt hi]
 ·rw [show h+(i+n-h)=i+n from by omega,Nat.add_mod_right,Nat.mod_eq_of_lt hi]
theorem iU {n h k:Nat}(hh:h<n) (hk:k<n):(h+k) % n=if h+k<n then h+k else h+k-n:=by
 split
 ·rename_i g;exact Nat.mod_eq_of_lt g
 ·rename_i g
  rw [show h+k=(h+k-n)+n from by omega,Nat.add_mod_right,Nat.mod_eq_of_lt (by omega)]
  omega
theorem oz {n h k:Nat}(hh:h<n) (hk:k<n):cV n h ((h+k) % n)=k:=by
 rw [iU hh hk];unfold cV
 split <;> split <;> omega
theorem jR {n h k:Nat}(hn:0<n):(h+k) % n<n:=Nat.mod_lt _ hn
theorem yN {n h k:Nat}:((h+k) % n+1) % n=(h+(k+1)) % n:=by
 rw [Nat.add_mod ((h+k) % n),Nat.mod_mod,← Nat.add_mod,Nat.add_assoc]
def pA (R:List (Pl α)) (i:Nat):Prop:=∃ p,R[i]?=some p∧p.is_≠0
def Hit (R:List (Pl α)) (key:ByteArray) (i:Nat):Prop:=∃ p,R[i]?=some p∧p.is_=1∧kL p.key=kL key
def jv (R:List (Pl α)) (i:Nat):Prop:=∃ p,R[i]?=some p∧p.is_=0
theorem pA.not_empty {R:List (Pl α)}{i:Nat}(h:pA R i):¬ jv R i:=fun ⟨q,h1,h2⟩=>by
 obtain ⟨p,h3,h4⟩:=h
 rw [h1] at h3;cases h3;exact h4 h2
theorem rE {R:List (Pl α)}{i:Nat}(h:i<R.length):pA R i∨jv R i:=by
 by_cases e:R[i].is_=0
 ·exact .inr ⟨_,List.getElem?_eq_getElem h,e⟩
 ·exact .inl ⟨_,List.getElem?_eq_getElem h,e⟩
theorem jv.lt {R:List (Pl α)}{i:Nat}(h:jv R i):i<R.length:=by
 obtain ⟨p,h1,_⟩:=h;exact (List.getElem?_eq_some_iff.1 h1).1
theorem Hit.lt {R:List (Pl α)}{key:ByteArray}{i:Nat}(h:Hit R key i):i<R.length:=by
 obtain ⟨p,h1,_⟩:=h;exact (List.getElem?_eq_some_iff.1 h1).1
theorem uY {R:List (Pl α)}{key:ByteArray}{h:Nat}(hn:h<R.length):∀ (K f:Nat),(∀ k,k<K->pA R ((h+k) % R.length)∧¬ Hit R key ((h+k) % R.length))->∀ j,j<=K->kx R key (f+(K-j)) ((h+j) % R.length)=kx R key f ((h+K) % R.length):=by
 intro K f hk j hj
 obtain ⟨d,hd⟩:∃ d,K=j+d:=⟨K-j,by omega⟩
 subst hd
 induction d generalizing j with
 | zero=>simp
 | succ d ih =>
  rw [show j+(d+1)-j=d+1 from by omega,← Nat.add_assoc f d 1,kx]
  obtain ⟨⟨p,h1,h2⟩,h3⟩:=hk j (by omega)
  rw [h1]
  simp only [h2,if_false]
  rw [if_neg (fun hh=>h3 ⟨p,h1,hh.1,hh.2⟩),yN]
  have:=ih (j+1) (fun k hk2=>hk k (by omega)) (by omega)
  rw [show j+1+d-(j+1)=d from by omega,show j+1+d=j+(d+1) from by omega] at this
  exact this
theorem yH {R:List (Pl α)}{key:ByteArray}{h K f:Nat}(hn:h<R.length) (hk:∀ k,k<K->pA R ((h+k) % R.length)∧¬ Hit R key ((h+k) % R.length)) (hh:Hit R key ((h+K) % R.length)) (hf:K<f):kx R key f h=some ((h+K) % R.length,true):=by
 have:=uY hn K (f-K) hk 0 (by omega)
 rw [show f-K+(K-0)=f from by omega,Nat.add_zero,Nat.mod_eq_of_lt hn] at this
 rw [this,show f-K=(f-K-1)+1 from by omega,kx]
 obtain ⟨p,h1,h2,h3⟩:=hh
 rw [h1]
 simp [h2,h3]
theorem wm {R:List (Pl α)}{key:ByteArray}{h K f:Nat}(hn:h<R.length) (hk:∀ k,k<K->pA R ((h+k) % R.length)∧¬ Hit R key ((h+k) % R.length)) (hh:jv R ((h+K) % R.length)) (hf:K<f):kx R key f h=some ((h+K) % R.length,false):=by
 have:=uY hn K (f-K) hk 0 (by omega)
 rw [show f-K+(K-0)=f from by omega,Nat.add_zero,Nat.mod_eq_of_lt hn] at this
 rw [this,show f-K=(f-K-1)+1 from by omega,kx]
 obtain ⟨p,h1,h2⟩:=hh
 rw [h1]
 simp [h2]
theorem Ck {P:Nat->Prop}:∀ m,(∃ k,k<m∧P k)->∃ k,k<m∧P k∧∀ j,j<k->¬ P j
 | 0,⟨k,h,_⟩=>by omega
 | m+1,⟨k,h,hp⟩=>by
  by_cases e:∃ k,k<m∧P k
  ·obtain ⟨k,h1,h2,h3⟩:=Ck m e
   exact ⟨k,by omega,h2,h3⟩
  ·exact ⟨k,h,hp,fun j hj hpj=>e ⟨j,by omega,hpj⟩⟩
def mr (R:List (Pl α)) (key:ByteArray) (i:Nat):Prop:=∀ k,k<cV R.length (fb R key) i->pA R ((fb R key+k) % R.length)
theorem kS {R:List (Pl α)}{key:ByteArray}(h:0<R.length):fb R key<R.length:=Nat.mod_lt _ h
theorem zP {R:List (Pl α)}{key:ByteArray}{i:Nat}(hh:Hit R key i) (hc:mr R key i) (hu:∀ j,Hit R key j->j=i):fB R key=some (i,true):=by
 have hlt:=hh.lt
 have hn:0<R.length:=by omega
 have hm:=kS (R:=R) (key:=key) hn
 unfold fB
 rw [if_neg (by omega)]
 have hr:=iC hm hlt
 have hd:=ng hm hlt
 rw [yH (K:=cV R.length (fb R key) i) hm (fun k hk=>⟨hc k hk,fun hk2=>?_⟩) (by rw [hr];exact hh) (by omega),hr]
 have:=hu _ hk2
 have h2:=oz hm (show k<R.length by omega)
 rw [this] at h2;omega
theorem gJ {R:List (Pl α)}{key:ByteArray}(hn:∀ j,¬ Hit R key j) (hr:∃ i,jv R i):∃ i,fB R key=some (i,false)∧jv R i∧mr R key i:=by
 obtain ⟨e,he⟩:=hr
 have hlt:=he.lt
 have hm:=kS (R:=R) (key:=key) (by omega)
 obtain ⟨K,h1,h2,h3⟩:=Ck (P:=fun k=>jv R ((fb R key+k) % R.length)) R.length ⟨cV R.length (fb R key) e,ng hm hlt,by rw [iC hm hlt];exact he⟩
 have full:∀ k,k<K->pA R ((fb R key+k) % R.length):=fun k hk=>(rE (jR (by omega))).resolve_right (h3 k hk)
 refine ⟨(fb R key+K) % R.length,?_,h2,fun k hk=>?_⟩
 ·unfold fB
  rw [if_neg (by omega)]
  exact wm hm (fun k hk=>⟨full k hk,hn _⟩) h2 (by omega)
 ·rw [oz hm h1] at hk;exact full k hk
theorem zQ {key:ByteArray}:fB ([]:List (Pl α)) key=some (0,false):=rfl
structure ew (R:List (Pl α)):Prop where
 chain:∀ (i:Nat) (p:Pl α),R[i]?=some p->p.is_=1->mr R p.key i
 uniq:∀ (i j:Nat) (p q:Pl α),R[i]?=some p->R[j]?=some q->p.is_=1->q.is_=1->kL p.key=kL q.key->i=j
theorem ew.hit {R:List (Pl α)}(r:ew R){key:ByteArray}{i:Nat}(h:Hit R key i):fB R key=some (i,true):=by
 obtain ⟨p,h1,h2,h3⟩:=h
 have hk:=qF h3
 refine zP ⟨p,h1,h2,h3⟩ (by rw [← hk];exact r.chain i p h1 h2) fun j ⟨q,g1,g2,g3⟩=>r.uniq j i q p g1 h1 g2 h2 (g3.trans h3.symm)
theorem AE {R:List (Pl α)}{i j:Nat}{p:Pl α}(h:pA R j) (hp:p.is_≠0):pA (R.set i p) j:=by
 obtain ⟨q,h1,h2⟩:=h
 by_cases e:i=j
 ·subst e;exact ⟨p,by rw [List.getElem?_set,if_pos rfl,if_pos (List.getElem?_eq_some_iff.1 h1).1],hp⟩
 ·exact ⟨q,by rw [List.getElem?_set,if_neg e];exact h1,h2⟩
theorem iD {R:List (Pl α)}{i j:Nat}{p:Pl α}{key:ByteArray}(h:mr R key j) (hp:p.is_≠0):mr (R.set i p) key j:=by
 unfold mr fb at *
 rw [List.length_set]
 exact fun k hk=>AE (h k hk) hp
theorem cu {R:List (Pl α)}{i j:Nat}{p q:Pl α}(h:(R.set i p)[j]?=some q):(i=j∧q=p∧i<R.length)∨(i≠j∧R[j]?=some q):=by
 rw [List.getElem?_set] at h
 split at h
 ·rename_i e
  split at h
  ·exact .inl ⟨e,(Option.some.inj h).symm,by assumption⟩
  ·cases h
 ·rename_i e;exact .inr ⟨e,h⟩
theorem ew.put {R:List (Pl α)}(r:ew R){p:Pl α}{i:Nat}(h1:p.is_=1) (hc:mr R p.key i) (hn:∀ j,¬ Hit R p.key j):ew (R.set i p):=by
 refine ⟨fun j q hq hq1=>?_,fun j k q s hq hs hq1 hs1 he=>?_⟩
 ·rcases cu hq with ⟨rfl,rfl,_⟩ | ⟨_,hq⟩
  ·exact iD hc (by omega)
  ·exact iD (r.chain j q hq hq1) (by omega)
 ·rcases cu hq with ⟨rfl,rfl,_⟩ | ⟨_,gq⟩
  ·rcases cu hs with ⟨rfl,_,_⟩ | ⟨_,gs⟩
   ·rfl
   ·exact absurd ⟨s,gs,hs1,he.symm⟩ (hn k)
  ·rcases cu hs with ⟨rfl,rfl,_⟩ | ⟨_,gs⟩
   ·exact absurd ⟨q,gq,hq1,he⟩ (hn j)
   ·exact r.uniq j k q s gq gs hq1 hs1 he
theorem ew.anew {R:List (Pl α)}(r:ew R){p q:Pl α}{i:Nat}(h0:R[i]?=some p) (hp:p.is_=1) (h1:q.is_=1) (hk:kL q.key=kL p.key):ew (R.set i q):=by
 have hk':=qF hk
 refine ⟨fun j s hs hs1=>?_,fun j k s t hs ht hs1 ht1 he=>?_⟩
 ·rcases cu hs with ⟨rfl,rfl,_⟩ | ⟨_,hs⟩
  ·rw [hk'];exact iD (r.chain i p h0 hp) (by omega)
  ·exact iD (r.chain j s hs hs1) (by omega)
 ·rcases cu hs with ⟨rfl,rfl,_⟩ | ⟨_,gs⟩
  ·rcases cu ht with ⟨rfl,_,_⟩ | ⟨_,gt⟩
   ·rfl
   ·exact r.uniq i k p t h0 gt hp ht1 (hk.symm.trans he)
  ·rcases cu ht with ⟨rfl,rfl,_⟩ | ⟨_,gt⟩
   ·exact r.uniq j i s p gs h0 hs1 hp (he.trans hk)
   ·exact r.uniq j k s t gs gt hs1 ht1 he
theorem ew.gone {R:List (Pl α)}(r:ew R){q:Pl α}{i:Nat}(h1:q.is_≠1) (h0:q.is_≠0):ew (R.set i q):=by
 refine ⟨fun j s hs hs1=>?_,fun j k s t hs ht hs1 ht1 he=>?_⟩
 ·rcases cu hs with ⟨rfl,rfl,_⟩ | ⟨_,hs⟩
  ·exact absurd hs1 h1
  ·exact iD (r.chain j s hs hs1) h0
 ·rcases cu hs with ⟨rfl,rfl,_⟩ | ⟨_,hs⟩
  ·exact absurd hs1 h1
  ·rcases cu ht with ⟨rfl,rfl,_⟩ | ⟨_,ht⟩
   ·exact absurd ht1 h1
   ·exact r.uniq j k s t hs ht hs1 ht1 he
def ez (R:List (Pl α)):Nat:=R.countP fun p=>decide (p.is_=1)
theorem gR:∀ (R:List (Pl α)) (i:Nat) (p q:Pl α),R[i]?=some q->ez (R.set i p)+(if q.is_=1 then 1 else 0)=ez R+(if p.is_=1 then 1 else 0)
 | [],i,p,q,h=>by simp at h
 | x :: r,0,p,q,h=>by
  simp at h;subst h
  simp only [List.set_cons_zero,ez,List.countP_cons]
  by_cases h1:x.is_=1 <;> by_cases h2:p.is_=1 <;> simp [h1,h2]
 | x :: r,i+1,p,q,h=>by
  have:=gR r i p q (by simpa using h)
  simp only [List.set_cons_succ,ez,List.countP_cons] at *
  omega
theorem BQ {R:List (Pl α)}(h01:∀ p∈R,p.is_<=1) (h:ez R<R.length):∃ i,jv R i:=by
 apply Classical.byContradiction
 intro hn
 have:ez R=R.length:=by
  unfold ez
  rw [List.countP_eq_length]
  intro p hp
  obtain ⟨i,hi,rfl⟩:=List.mem_iff_getElem.1 hp
  have:=h01 _ hp
  have:¬ R[i].is_=0:=fun e=>hn ⟨i,_,List.getElem?_eq_getElem hi,e⟩
  simp;omega
 omega
def d5 (R:List (Pl α)) (key:ByteArray):Option α:=(R.find? fun p=>decide (p.is_=1∧kL p.key=kL key)).map (·.value)
theorem fy {R:List (Pl α)}(r:ew R){key:ByteArray}{i:Nat}{p:Pl α}(h0:R[i]?=some p) (h1:p.is_=1) (h2:kL p.key=kL key):d5 R key=some p.value:=by
 unfold d5
 cases hf:R.find? fun p=>decide (p.is_=1∧kL p.key=kL key) with
 | none =>
  rw [List.find?_eq_none] at hf
  have:=hf p (List.mem_of_getElem? h0)
  simp [h1,h2] at this
 | some q =>
  have hq:q.is_=1∧kL q.key=kL key:=by simpa only [decide_eq_true_eq] using List.find?_some hf
  have hm:=List.mem_of_find?_eq_some hf
  obtain ⟨j,hj⟩:=List.mem_iff_getElem?.1 hm
  have:=r.uniq j i q p hj h0 hq.1 h1 (by rw [hq.2];exact h2.symm)
  subst this
  rw [h0] at hj;cases hj;rfl
theorem dm {R:List (Pl α)}{key:ByteArray}(h:∀ j,¬ Hit R key j):d5 R key=none:=by
 unfold d5
 rw [Option.map_eq_none_iff,List.find?_eq_none]
 intro p hp
 obtain ⟨j,hj⟩:=List.mem_iff_getElem?.1 hp
 intro hh
 simp only [decide_eq_true_eq] at hh
 exact h j ⟨p,hj,hh.1,hh.2⟩
theorem ru {R:List (Pl α)}{key:ByteArray}{v:α}(h:d5 R key=some v):∃ (i:Nat) (p:Pl α),R[i]?=some p∧p.is_=1∧kL p.key=kL key∧p.value=v:=by
 unfold d5 at h
 obtain ⟨p,hp,rfl⟩:=Option.map_eq_some_iff.1 h
 have hq:p.is_=1∧kL p.key=kL key:=by simpa only [decide_eq_true_eq] using List.find?_some hp
 obtain ⟨j,hj⟩:=List.mem_iff_getElem?.1 (List.mem_of_find?_eq_some hp)
 exact ⟨j,p,hj,hq.1,hq.2,rfl⟩
theorem mE (R:List (Pl α)) (key:ByteArray):(∃ i,Hit R key i)∨∀ j,¬ Hit R key j:=by
 by_cases h:∃ i,Hit R key i
 ·exact .inl h
 ·exact .inr fun j hj=>h ⟨j,hj⟩
theorem ju {R:List (Pl α)}{i:Nat}{p q:Pl α}(r':ew (R.set i q)) (r:ew R) (h0:R[i]?=some p) (key:ByteArray) (hp:¬ (p.is_=1∧kL p.key=kL key)):d5 (R.set i q) key=if q.is_=1∧kL q.key=kL key then some q.value else d5 R key:=by
 have hi:=(List.getElem?_eq_some_iff.1 h0).1
 have hg:(R.set i q)[i]?=some q:=by rw [List.getElem?_set,if_pos rfl,if_pos hi]
 split
 ·rename_i h;exact fy r' hg h.1 h.2
 ·rename_i h
  rcases mE R key with ⟨j,s,g1,g2,g3⟩ | hn
  ·have hij:i≠j:=fun e=>by subst e;rw [h0] at g1;cases g1;exact hp ⟨g2,g3⟩
   rw [fy r g1 g2 g3,fy r' (i:=j) (by rw [List.getElem?_set,if_neg hij];exact g1) g2 g3]
  ·rw [dm hn,dm]
   intro j ⟨s,g1,g2,g3⟩
   rcases cu g1 with ⟨rfl,rfl,_⟩ | ⟨_,g1⟩
   ·exact h ⟨g2,g3⟩
   ·exact hn j ⟨s,g1,g2,g3⟩
end
structure Tb (α:Type) where
 row:List (Pl α)
 elder:List (Pl α)
 moved:Nat
 count:Nat
section
variable {α:Type}(z:α)
def eE:Pl α:=⟨2,⟨#[]⟩,z⟩
def eD:Pl α:=⟨0,⟨#[]⟩,z⟩
def xt (T:Tb α):Option (Tb α):=match T.elder[T.moved]? with
 | none=>none
 | some p=>if p.is_=1 then (match fB T.row p.key with
  | none=>none
  | some r=>some ⟨T.row.set r.1 p,T.elder.set T.moved (eE z),T.moved+1,T.count⟩) else some ⟨T.row,T.elder,T.moved+1,T.count⟩
def pl:Nat->Tb α->Option (Tb α)
 | 0,T=>some T
 | n+1,T=>if T.moved<T.elder.length then (match xt z T with
  | none=>none
  | some T'=>pl n T') else some T
def lB (T:Tb α):Tb α:=if T.moved=T.elder.length then ⟨T.row,[],0,T.count⟩ else T
def qM (T:Tb α) (n:Int):Option (Tb α):=(pl z n.toNat T).map lB
def dd (T:Tb α):Nat:=T.elder.length-T.moved
def jX (T:Tb α) (key:ByteArray):Option (Option (Bool×Nat)):=match fB T.row key with
 | none=>none
 | some (i,true)=>some (some (false,i))
 | some (_,false)=>match fB T.elder key with
  | none=>none
  | some (i,true)=>some (some (true,i))
  | some (_,false)=>some none
def gL (T:Tb α):Tb α:=⟨List.replicate (2*T.row.length) (eD z),T.row,0,T.count⟩
def wg (T:Tb α) (key:ByteArray) (v:α):Option (Tb α):=match fB T.row key with
 | none=>none
 | some (i,_)=>some ⟨T.row.set i ⟨1,key,v⟩,T.elder,T.moved,T.count+1⟩
def tS (R:List (Pl α)) (i:Nat) (v:α):List (Pl α):=match R[i]? with
 | none=>R
 | some p=>R.set i ⟨p.is_,p.key,v⟩
def xC (T:Tb α) (key:ByteArray) (v:α):Option (Tb α):=match jX T key with
 | none=>none
 | some (some (false,i))=>some ⟨tS T.row i v,T.elder,T.moved,T.count⟩
 | some (some (true,i))=>some ⟨T.row,tS T.elder i v,T.moved,T.count⟩
 | some none=>if 4*(T.count+1) > 3*T.row.length then (match qM z T (T.elder.length:Int) with
   | none=>none
   | some T2=>wg (gL z T2) key v) else wg T key v
def BK (T:Tb α) (key:ByteArray) (v:α):Option (Tb α):=match qM z T 4 with
 | none=>none
 | some T1=>xC z T1 key v
def dO (T:Tb α) (key:ByteArray):Option α:=match d5 T.row key with
 | some v=>some v
 | none=>d5 T.elder key
end
section
variable {α:Type}{z:α}
structure TOk (T:Tb α):Prop where
 row:ew T.row
 row01:∀ p∈T.row,p.is_<=1
 pos:2<=T.row.length
 elder:ew T.elder
 eroom:T.elder≠[]->∃ i,jv T.elder i
 behind:∀ (i:Nat) (p:Pl α),i<T.moved->T.elder[i]?=some p->p.is_≠1
 mle:T.moved<=T.elder.length
 apart:∀ (i j:Nat) (p q:Pl α),T.row[i]?=some p->T.elder[j]?=some q->p.is_=1->q.is_=1->kL p.key≠kL q.key
 cnt:ez T.row+ez T.elder=T.count
 load:dd T+4*T.count<=3*T.row.length
def ti (T:Tb α):Prop:=T.elder=[]∨T.moved<T.elder.length
theorem TOk.cnt_elder {T:Tb α}(t:TOk T){i:Nat}{p:Pl α}(h:T.elder[i]?=some p) (h1:p.is_=1):1<=ez T.elder:=by
 unfold ez
 exact List.countP_pos_iff.2 ⟨p,List.mem_of_getElem? h,by simpa using h1⟩
theorem TOk.room {T:Tb α}(t:TOk T) (h:ez T.row<T.row.length):∃ i,jv T.row i:=BQ t.row01 h
theorem TOk.cnt_row {T:Tb α}(t:TOk T):ez T.row<T.row.length:=by
 have:=t.cnt
 have:=t.load
 have:=t.pos
 omega
theorem Ak {T:Tb α}(t:TOk T) (hm:T.moved<T.elder.length):∃ T',xt z T=some T'∧TOk T'∧T'.moved=T.moved+1∧T'.elder.length=T.elder.length∧T'.row.length=T.row.length∧T'.count=T.count∧∀ key,dO T' key=dO T key:=by
 obtain ⟨p,hp⟩:∃ p,T.elder[T.moved]?=some p:=⟨_,List.getElem?_eq_getElem hm⟩
 unfold xt
 rw [hp]
 simp only
 have hload:=t.load
 by_cases h1:p.is_=1
 ·rw [if_pos h1]
  have hno:∀ j,¬ Hit T.row p.key j:=fun j ⟨q,g1,g2,g3⟩=>t.apart j T.moved q p g1 hp g2 h1 g3
  obtain ⟨i,f1,f2,f3⟩:=gJ hno (t.room t.cnt_row)
  rw [f1]
  have hi:=f2.lt
  obtain ⟨e,he1,he2⟩:=f2
  have r1:=t.row.put h1 f3 hno (i:=i)
  have r2:ew (T.elder.set T.moved (eE z)):=t.elder.gone (by simp [eE]) (by simp [eE])
  refine ⟨_,rfl,⟨r1,fun q hq=>?_,by simpa using t.pos,r2,fun hne=>?_,fun j q hj hq=>?_,by simp;omega,fun a b q s hq hs hq1 hs1=>?_,?_,?_⟩,rfl,by simp,by simp,rfl,fun key=>?_⟩
  ·obtain ⟨j,hj⟩:=List.mem_iff_getElem?.1 hq
   rcases cu hj with ⟨_,rfl,_⟩ | ⟨_,hj⟩
   ·omega
   ·exact t.row01 q (List.mem_of_getElem? hj)
  ·obtain ⟨j,q,g1,g2⟩:=t.eroom (fun e=>by rw [e] at hm;simp at hm)
   have:T.moved≠j:=fun e=>by subst e;rw [hp] at g1;cases g1;omega
   exact ⟨j,q,by rw [List.getElem?_set,if_neg this];exact g1,g2⟩
  ·rcases cu hq with ⟨_,rfl,_⟩ | ⟨hne,hq⟩
   ·simp [eE]
   ·exact t.behind j q (by simp at hj;omega) hq
  ·rcases cu hs with ⟨_,rfl,_⟩ | ⟨hne,gs⟩
   ·simp [eE] at hs1
   ·rcases cu hq with ⟨_,rfl,_⟩ | ⟨_,gq⟩
    ·exact fun e=>hne (t.elder.uniq T.moved b q s hp gs hq1 hs1 e)
    ·exact t.apart a b q s gq gs hq1 hs1
  ·have c1:=gR T.row i p e he1
   have c2:=gR T.elder T.moved (eE z) p hp
   have:=t.cnt
   rw [if_pos h1,if_neg (by omega)] at c1
   rw [if_pos h1,if_neg (by simp [eE])] at c2
   show ez (T.row.set i p)+ez (T.elder.set T.moved (eE z))=T.count
   omega
  ·show (T.elder.set T.moved (eE z)).length-(T.moved+1)+4*T.count<=3*(T.row.set i p).length
   unfold dd at hload
   simp;omega
  ·have v1:=ju r1 t.row he1 key (by omega)
   show (match d5 (T.row.set i p) key with | some v=>some v | none=>d5 (T.elder.set T.moved (eE z)) key)=dO T key
   unfold dO
   by_cases hk:kL p.key=kL key
   ·have hrow:d5 T.row key=none:=dm (R:=T.row) (fun j hj=>hno j (by obtain ⟨q,g1,g2,g3⟩:=hj;exact ⟨q,g1,g2,g3.trans hk.symm⟩))
    have hel:d5 T.elder key=some p.value:=fy t.elder hp h1 hk
    rw [v1,if_pos ⟨h1,hk⟩,hrow,hel]
   ·rw [v1,if_neg (fun h=>hk h.2),ju r2 t.elder hp key (fun h=>hk h.2),if_neg (by simp [eE])]
 ·rw [if_neg h1]
  refine ⟨_,rfl,⟨t.row,t.row01,t.pos,t.elder,t.eroom,fun j q hj hq=>?_,by show T.moved+1<=T.elder.length;omega,t.apart,t.cnt,?_⟩,rfl,rfl,rfl,rfl,fun key=>rfl⟩
  ·by_cases e:j=T.moved
   ·subst e;rw [hp] at hq;cases hq;exact h1
   ·exact t.behind j q (by simp at hj;omega) hq
  ·show T.elder.length-(T.moved+1)+4*T.count<=3*T.row.length
   unfold dd at hload
   omega
theorem uV:∀ (n:Nat){T:Tb α},TOk T->∃ T',pl z n T=some T'∧TOk T'∧dd T'=dd T-n∧T'.row.length=T.row.length∧T'.count=T.count∧∀ key,dO T' key=dO T key
 | 0,T,t=>⟨T,rfl,t,rfl,rfl,rfl,fun _=>rfl⟩
 | n+1,T,t=>by
  unfold pl
  by_cases hm:T.moved<T.elder.length
  ·rw [if_pos hm]
   obtain ⟨T1,a1,a2,a3,a4,a5,a6,a7⟩:=Ak (z:=z) t hm
   rw [a1]
   obtain ⟨T2,b1,b2,b3,b4,b5,b6⟩:=uV n a2
   refine ⟨T2,b1,b2,?_,by omega,by omega,fun key=>(b6 key).trans (a7 key)⟩
   unfold dd at *;omega
  ·rw [if_neg hm]
   refine ⟨T,rfl,t,?_,rfl,rfl,fun _=>rfl⟩
   unfold dd;omega
theorem ew.nil:ew ([]:List (Pl α)):=⟨fun i p h=>by simp at h,fun i j p q h=>by simp at h⟩
theorem CX {T:Tb α}(t:TOk T):TOk (lB T)∧ti (lB T)∧dd (lB T)=dd T∧(lB T).row=T.row∧(lB T).count=T.count∧∀ key,dO (lB T) key=dO T key:=by
 unfold lB
 by_cases h:T.moved=T.elder.length
 ·rw [if_pos h]
  have hno:∀ key j,¬ Hit T.elder key j:=fun key j ⟨q,g1,g2,g3⟩=>t.behind j q (by rw [h];exact (List.getElem?_eq_some_iff.1 g1).1) g1 g2
  have hc:ez T.elder=0:=by
   unfold ez
   rw [List.countP_eq_zero]
   intro p hp
   obtain ⟨j,hj⟩:=List.mem_iff_getElem?.1 hp
   have:=t.behind j p (by rw [h];exact (List.getElem?_eq_some_iff.1 hj).1) hj
   simpa using this
  have hload:=t.load
  have hcnt:=t.cnt
  refine ⟨⟨t.row,t.row01,t.pos,ew.nil,fun h=>absurd rfl h,fun i p hi=>by simp at hi,Nat.le_refl _,fun i j p q _ hq=>by simp at hq,by show ez T.row+ez []=_;rw [show ez ([]:List (Pl α))=0 from rfl];show _=T.count;omega,?_⟩,.inl rfl,?_,rfl,rfl,fun key=>?_⟩
  ·show 0-0+4*T.count<=3*T.row.length
   omega
  ·unfold dd;simp;omega
  ·unfold dO
   rw [dm (hno key)]
   rw [dm (R:=[]) (fun j ⟨q,g1,_⟩=>by simp at g1)]
 ·rw [if_neg h]
  have:=t.mle
  exact ⟨t,.inr (by omega),rfl,rfl,rfl,fun _=>rfl⟩
theorem mf {T:Tb α}(t:TOk T) (n:Int):∃ T',qM z T n=some T'∧TOk T'∧ti T'∧dd T'=dd T-n.toNat∧T'.row.length=T.row.length∧T'.count=T.count∧∀ key,dO T' key=dO T key:=by
 obtain ⟨T1,a1,a2,a3,a4,a5,a6⟩:=uV (z:=z) n.toNat t
 obtain ⟨b1,b2,b3,b4,b5,b6⟩:=CX a2
 refine ⟨lB T1,by unfold qM;rw [a1];rfl,b1,b2,by omega,by rw [b4];exact a4,by omega,fun key=>(b6 key).trans (a6 key)⟩
theorem rv {T:Tb α}(t:TOk T) (key:ByteArray):(∃ i,jX T key=some (some (false,i))∧Hit T.row key i)∨(∃ i,jX T key=some (some (true,i))∧Hit T.elder key i∧∀ j,¬ Hit T.row key j)∨(jX T key=some none∧(∀ j,¬ Hit T.row key j)∧∀ j,¬ Hit T.elder key j):=by
 unfold jX
 rcases mE T.row key with ⟨i,hi⟩ | hn
 ·rw [t.row.hit hi];exact .inl ⟨i,rfl,hi⟩
 ·obtain ⟨i,f1,_,_⟩:=gJ hn (t.room t.cnt_row)
  rw [f1]
  simp only
  rcases mE T.elder key with ⟨j,hj⟩ | hne
  ·rw [t.elder.hit hj];exact .inr (.inl ⟨j,rfl,hj,hn⟩)
  ·by_cases he:T.elder=[]
   ·rw [he,zQ];exact .inr (.inr ⟨rfl,hn,fun j ⟨q,g,_⟩=>by simp at g⟩)
   ·obtain ⟨j,g1,_,_⟩:=gJ hne (t.eroom he)
    rw [g1];exact .inr (.inr ⟨rfl,hn,hne⟩)
theorem nA {T:Tb α}(t:TOk T){key:ByteArray}{i:Nat}{p:Pl α}(h:T.row[i]?=some p) (h1:p.is_=1) (h2:kL p.key=kL key):dO T key=some p.value:=by
 unfold dO;rw [fy t.row h h1 h2]
theorem lZ {T:Tb α}(t:TOk T){key:ByteArray}{i:Nat}{p:Pl α}(hn:∀ j,¬ Hit T.row key j) (h:T.elder[i]?=some p) (h1:p.is_=1) (h2:kL p.key=kL key):dO T key=some p.value:=by
 unfold dO;rw [dm hn,fy t.elder h h1 h2]
theorem lG {T:Tb α}{key:ByteArray}(hn:∀ j,¬ Hit T.row key j) (hne:∀ j,¬ Hit T.elder key j):dO T key=none:=by
 unfold dO;rw [dm hn,dm hne]
theorem tT {R:List (Pl α)}{i:Nat}{p:Pl α}{v:α}(h:R[i]?=some p):tS R i v=R.set i ⟨p.is_,p.key,v⟩:=by unfold tS;rw [h]
theorem oH {T:Tb α}(t:TOk T) (hr:ti T){key:ByteArray}{v:α}(hn:∀ j,¬ Hit T.row key j) (hne:∀ j,¬ Hit T.elder key j) (hl:dd T+4*(T.count+1)<=3*T.row.length) :
  ∃ T',wg T key v=some T'∧TOk T'∧ti T'∧T'.row.length=T.row.length∧T'.count=T.count+1∧dd T'=dd T∧∀ k,dO T' k=if kL k=kL key then some v else dO T k:=by
 obtain ⟨i,f1,f2,f3⟩:=gJ hn (t.room t.cnt_row)
 unfold wg
 rw [f1]
 obtain ⟨e,he1,he2⟩:=f2
 have hi:=(List.getElem?_eq_some_iff.1 he1).1
 have r1:ew (T.row.set i ⟨1,key,v⟩):=t.row.put rfl f3 hn
 refine ⟨_,rfl,⟨r1,fun q hq=>?_,by simpa using t.pos,t.elder,t.eroom,t.behind,t.mle,fun a b q s hq hs hq1 hs1=>?_,?_,by simpa [dd] using hl⟩,hr,by simp,rfl,rfl,fun k=>?_⟩
 ·obtain ⟨j,hj⟩:=List.mem_iff_getElem?.1 hq
  rcases cu hj with ⟨_,rfl,_⟩ | ⟨_,hj⟩
  ·exact Nat.le_refl _
  ·exact t.row01 q (List.mem_of_getElem? hj)
 ·rcases cu hq with ⟨_,rfl,_⟩ | ⟨_,gq⟩
  ·exact fun h=>hne b ⟨s,hs,hs1,h.symm⟩
  ·exact t.apart a b q s gq hs hq1 hs1
 ·have c1:=gR T.row i ⟨1,key,v⟩ e he1
  have:=t.cnt
  rw [if_neg (by omega),if_pos rfl] at c1
  show ez (T.row.set i ⟨1,key,v⟩)+ez T.elder=T.count+1
  omega
 ·have v1:=ju r1 t.row he1 k (by omega)
  show (match d5 (T.row.set i ⟨1,key,v⟩) k with | some v=>some v | none=>d5 T.elder k)=_
  rw [v1]
  by_cases hk:kL k=kL key
  ·rw [if_pos ⟨rfl,hk.symm⟩,if_pos hk]
  ·rw [if_neg (fun h=>hk h.2.symm),if_neg hk];rfl
theorem iT {n i:Nat}{p q:Pl α}(h:(List.replicate n p)[i]?=some q):q=p∧i<n:=by
 rw [List.getElem?_replicate] at h
 split at h
 ·exact ⟨(Option.some.inj h).symm,by assumption⟩
 ·cases h
theorem Bt {T:Tb α}(t:TOk T) (he:T.elder=[]) (hf:3*T.row.length<4*(T.count+1)):TOk (gL z T)∧(gL z T).row.length=2*T.row.length∧(gL z T).count=T.count∧dd (gL z T)=T.row.length∧(∀ key,dO (gL z T) key=dO T key)∧∀ key j,¬ Hit (gL z T).row key j:=by
 have hno:∀ key j,¬ Hit (gL z T).row key j:=fun key j ⟨q,g1,g2,_⟩=>by
  obtain ⟨rfl,_⟩:=iT g1
  simp [eD] at g2
 have hcnt:=t.cnt
 have hload:=t.load
 have hpos:=t.pos
 have he0:ez T.elder=0:=by rw [he];rfl
 refine ⟨⟨⟨fun i p h h1=>?_,fun i j p q h h2 h1=>?_⟩,fun p hp=>?_,by show 2<=(List.replicate _ _).length;simp;omega,t.row,fun _=>t.room t.cnt_row,fun i p hi=>by simp [gL] at hi,by simp [gL],fun i j p q h h2 h1=>?_,?_,?_⟩,by simp [gL],rfl,by simp [gL,dd],fun key=>?_,hno⟩
 ·obtain ⟨rfl,_⟩:=iT h
  simp [eD] at h1
 ·obtain ⟨rfl,_⟩:=iT h
  simp [eD] at h1
 ·have:=List.eq_of_mem_replicate hp
  subst this;simp [eD]
 ·obtain ⟨rfl,_⟩:=iT h
  simp [eD] at h1
 ·have:ez (List.replicate (2*T.row.length) (eD z))=0:=by
   unfold ez
   rw [List.countP_eq_zero]
   intro p hp
   have:=List.eq_of_mem_replicate hp
   subst this;simp [eD]
  show ez (List.replicate (2*T.row.length) (eD z))+ez T.row=T.count
  omega
 ·show T.row.length-0+4*T.count<=3*(List.replicate (2*T.row.length) (eD z)).length
  simp;omega
 ·unfold dO
  rw [dm (hno key),he]
  show d5 T.row key=_
  rw [dm (R:=[]) (fun j ⟨q,g1,_⟩=>by simp at g1)]
  cases d5 T.row key <;> rfl
theorem BJ {T:Tb α}(t:TOk T) (hr:ti T) (key:ByteArray) (v:α) (hlow:dd T+4*(T.count+1)<=3*T.row.length∨(T.elder=[]∧4*(T.count+1) > 3*T.row.length)) :
  ∃ T',xC z T key v=some T'∧TOk T'∧ti T'∧(∀ k,dO T' k=if kL k=kL key then some v else dO T k)∧T'.count=T.count+(if (dO T key).isSome then 0 else 1) ∧
   ((dO T key=none∧4*(T.count+1) > 3*T.row.length∧T'.row.length=2*T.row.length∧dd T'=T.row.length)∨((dO T key).isSome=true∨4*(T.count+1)<=3*T.row.length)∧T'.row.length=T.row.length∧dd T'=dd T):=by
 unfold xC
 rcases rv t key with ⟨i,w,p,h1,h2,h3⟩ | ⟨i,w,⟨p,h1,h2,h3⟩,hn⟩ | ⟨w,hn,hne⟩
 ·rw [w]
  simp only
  rw [tT h1]
  have r1:ew (T.row.set i ⟨p.is_,p.key,v⟩):=t.row.anew h1 h2 h2 rfl
  have hg:=nA t h1 h2 h3
  refine ⟨_,rfl,⟨r1,fun q hq=>?_,by simpa using t.pos,t.elder,t.eroom,t.behind,t.mle,fun a b q s hq hs hq1 hs1=>?_,?_,by simpa [dd] using t.load⟩,hr,fun k=>?_,by rw [hg];rfl,.inr ⟨.inl (by rw [hg];rfl),by simp,rfl⟩⟩
  ·obtain ⟨j,hj⟩:=List.mem_iff_getElem?.1 hq
   rcases cu hj with ⟨_,rfl,_⟩ | ⟨_,hj⟩
   ·show p.is_<=1;omega
   ·exact t.row01 q (List.mem_of_getElem? hj)
  ·rcases cu hq with ⟨_,rfl,_⟩ | ⟨_,gq⟩
   ·exact t.apart i b p s h1 hs h2 hs1
   ·exact t.apart a b q s gq hs hq1 hs1
  ·have c1:=gR T.row i ⟨p.is_,p.key,v⟩ p h1
   have:=t.cnt
   show ez (T.row.set i ⟨p.is_,p.key,v⟩)+ez T.elder=T.count
   simp only at c1;omega
  ·show (match d5 (T.row.set i ⟨p.is_,p.key,v⟩) k with | some v=>some v | none=>d5 T.elder k)=_
   by_cases hk:kL k=kL key
   ·rw [if_pos hk,fy r1 (i:=i) (p:=⟨p.is_,p.key,v⟩) (by rw [List.getElem?_set,if_pos rfl,if_pos (List.getElem?_eq_some_iff.1 h1).1]) h2 (h3.trans hk.symm)]
   ·rw [if_neg hk,ju r1 t.row h1 k (fun h=>hk (h.2.symm.trans h3)),if_neg (fun h=>hk (h.2.symm.trans h3))];rfl
 ·rw [w]
  simp only
  rw [tT h1]
  have r1:ew (T.elder.set i ⟨p.is_,p.key,v⟩):=t.elder.anew h1 h2 h2 rfl
  have hg:=lZ t hn h1 h2 h3
  have hil:=(List.getElem?_eq_some_iff.1 h1).1
  refine ⟨_,rfl,⟨t.row,t.row01,t.pos,r1,fun hne=>?_,fun j q hj hq=>?_,by simpa using t.mle,fun a b q s hq hs hq1 hs1=>?_,?_,by simpa [dd] using t.load⟩,?_,fun k=>?_,by rw [hg];rfl,.inr ⟨.inl (by rw [hg];rfl),rfl,by simp [dd]⟩⟩
  ·obtain ⟨j,q,g1,g2⟩:=t.eroom (fun e=>by rw [e] at h1;simp at h1)
   have:i≠j:=fun e=>by subst e;rw [h1] at g1;cases g1;omega
   exact ⟨j,q,by rw [List.getElem?_set,if_neg this];exact g1,g2⟩
  ·rcases cu hq with ⟨rfl,rfl,_⟩ | ⟨_,gq⟩
   ·exact t.behind i p hj h1
   ·exact t.behind j q hj gq
  ·rcases cu hs with ⟨_,rfl,_⟩ | ⟨_,gs⟩
   ·exact t.apart a i q p hq h1 hq1 h2
   ·exact t.apart a b q s hq gs hq1 hs1
  ·have c1:=gR T.elder i ⟨p.is_,p.key,v⟩ p h1
   have:=t.cnt
   show ez T.row+ez (T.elder.set i ⟨p.is_,p.key,v⟩)=T.count
   simp only at c1;omega
  ·rcases hr with hr | hr
   ·rw [hr] at h1;simp at h1
   ·exact .inr (by simpa using hr)
  ·show (match d5 T.row k with | some v=>some v | none=>d5 (T.elder.set i ⟨p.is_,p.key,v⟩) k)=_
   by_cases hk:kL k=kL key
   ·rw [if_pos hk,dm (fun j ⟨q,g1,g2,g3⟩=>hn j ⟨q,g1,g2,g3.trans hk⟩),fy r1 (i:=i) (p:=⟨p.is_,p.key,v⟩) (by rw [List.getElem?_set,if_pos rfl,if_pos hil]) h2 (h3.trans hk.symm)]
   ·rw [if_neg hk,ju r1 t.elder h1 k (fun h=>hk (h.2.symm.trans h3)),if_neg (fun h=>hk (h.2.symm.trans h3))];rfl
 ·rw [w]
  have hg:=lG hn hne
  simp only
  by_cases hb:4*(T.count+1) > 3*T.row.length
  ·rw [if_pos hb]
   have he:T.elder=[]:=by
    rcases hlow with h | h
    ·omega
    ·exact h.1
   obtain ⟨T1,m1,m2,m3,m4,m5,m6,m7⟩:=mf (z:=z) t (T.elder.length:Int)
   rw [m1]
   have he1:T1.elder=[]:=by
    rcases m3 with h | h
    ·exact h
    ·unfold dd at m4
     rw [he] at m4
     simp at m4
     omega
   obtain ⟨g1,g2,g3,g4,g5,g6⟩:=Bt (z:=z) m2 he1 (by omega)
   have hpos:=t.pos
   have hld:=t.load
   have hel:∀ j,¬ Hit (gL z T1).elder key j:=fun j hj=>by
    obtain ⟨q,a1,a2,a3⟩:=hj
    have:dO T1 key=some q.value:=nA m2 a1 a2 a3
    rw [m7,hg] at this;cases this
   obtain ⟨T2,l1,l2,l3,l4,l5,l6,l7⟩:=oH (v:=v) g1 (.inr (by show (gL z T1).moved<T1.row.length;show 0<T1.row.length;omega)) (g6 key) hel (by rw [g2,g3,g4];omega)
   simp only
   rw [l1]
   refine ⟨T2,rfl,l2,l3,fun k=>?_,by rw [hg,l5,g3,m6];rfl,.inl ⟨hg,hb,by rw [l4,g2,m5],by rw [l6,g4,m5]⟩⟩
   rw [l7,g5,m7]
  ·rw [if_neg hb]
   have hl:dd T+4*(T.count+1)<=3*T.row.length:=by
    rcases hlow with h | h
    ·exact h
    ·omega
   obtain ⟨T2,l1,l2,l3,l4,l5,l6,l7⟩:=oH (v:=v) t hr hn hne hl
   exact ⟨T2,l1,l2,l3,l7,by rw [hg,l5];rfl,.inr ⟨.inr (by omega),l4,l6⟩⟩
theorem Db {T:Tb α}(t:TOk T) (key:ByteArray) (v:α) :
  ∃ T',BK z T key v=some T'∧TOk T'∧ti T'∧(∀ k,dO T' k=if kL k=kL key then some v else dO T k)∧T'.count=T.count+(if (dO T key).isSome then 0 else 1) ∧
   ((dO T key=none∧4*(T.count+1) > 3*T.row.length∧T'.row.length=2*T.row.length∧dd T'=T.row.length∧dd T<4)∨((dO T key).isSome=true∨4*(T.count+1)<=3*T.row.length)∧T'.row.length=T.row.length∧dd T'=dd T-4):=by
 obtain ⟨T1,m1,m2,m3,m4,m5,m6,m7⟩:=mf (z:=z) t 4
 have hld:=t.load
 have hlow:dd T1+4*(T1.count+1)<=3*T1.row.length∨(T1.elder=[]∧4*(T1.count+1) > 3*T1.row.length):=by
  rw [m5,m6,m4]
  by_cases hb:4*(T.count+1) > 3*T.row.length
  ·refine .inr ⟨?_,hb⟩
   rcases m3 with h | h
   ·exact h
   ·unfold dd at m4;unfold dd at hld;simp at m4;omega
  ·refine .inl ?_
   simp;omega
 obtain ⟨T2,p1,p2,p3,p4,p5,p6⟩:=BJ (z:=z) m2 m3 key v hlow
 unfold BK
 rw [m1]
 refine ⟨T2,p1,p2,p3,fun k=>?_,by rw [p5,m6,m7],?_⟩
 ·rw [p4,m7]
 ·rw [m7,m6,m5,m4] at p6
  rcases p6 with ⟨a,b,c,d⟩ | ⟨a,b,c⟩
  ·exact .inl ⟨a,b,c,d,by omega⟩
  ·exact .inr ⟨a,b,by simpa using c⟩
def lm (z:α):Tb α:=⟨List.replicate 8 (eD z),[],0,0⟩
theorem C8 (z:α):TOk (lm z)∧ti (lm z)∧∀ key,dO (lm z) key=none:=by
 have hno:∀ key j,¬ Hit (lm z).row key j:=fun key j ⟨q,g1,g2,_⟩=>by
  obtain ⟨rfl,_⟩:=iT g1
  simp [eD] at g2
 refine ⟨⟨⟨fun i p h h1=>?_,fun i j p q h h2 h1=>?_⟩,fun p hp=>?_,by simp [lm],ew.nil,fun h=>absurd rfl h,fun i p hi=>by simp [lm] at hi,Nat.le_refl _,fun i j p q h h2=>by simp [lm] at h2,?_,by simp [lm,dd]⟩,.inl rfl,fun key=>lG (hno key) fun j ⟨q,g1,_⟩=>by simp [lm] at g1⟩
 ·obtain ⟨rfl,_⟩:=iT h
  simp [eD] at h1
 ·obtain ⟨rfl,_⟩:=iT h
  simp [eD] at h1
 ·have:=List.eq_of_mem_replicate hp
  subst this;simp [eD]
 ·show ez (List.replicate 8 (eD z))+ez []=0
  rfl
end
section
variable {α:Type}(z:α)
def kW:Nat->List (Pl α)->Nat->Nat->Option (List (Pl α))
 | 0,_,_,_=>none
 | f+1,R,at_,k=>match R[k]? with
  | none=>none
  | some p=>if p.is_=0 then some (R.set at_ (eD z)) else if cV R.length (fb R p.key) k>=cV R.length at_ k then kW f (R.set at_ p) k ((k+1) % R.length) else kW f R at_ ((k+1) % R.length)
def xd (T:Tb α) (key:ByteArray):Option (Tb α×(α×Bool)):=match qM z T 4 with
 | none=>none
 | some T1=>match fB T1.elder key with
  | none=>none
  | some (i,true)=>(match T1.elder[i]? with
   | none=>none
   | some p=>some (⟨T1.row,T1.elder.set i (eE z),T1.moved,T1.count-1⟩,(p.value,true)))
  | some (_,false)=>match fB T1.row key with
   | none=>none
   | some (_,false)=>some (T1,(z,false))
   | some (i,true)=>match T1.row[i]? with
    | none=>none
    | some p=>match kW z (T1.row.length+1) T1.row i ((i+1) % T1.row.length) with
     | none=>none
     | some R=>some (⟨R,T1.elder,T1.moved,T1.count-1⟩,(p.value,true))
end
section
variable {α:Type}{z:α}
theorem yi {n k e:Nat}(hk:k<n) (he:e<n) (hne:k≠e):cV n ((k+1) % n) e+1=cV n k e:=by
 rw [iU hk (show 1<n by omega)]
 unfold cV
 split <;> split <;> split <;> omega
def Els (R:List (Pl α)) (a:Nat) (q:Pl α):Prop:=∃ i,i≠a∧R[i]?=some q∧q.is_=1
structure Sh (R:List (Pl α)) (a k:Nat):Prop where
 ha:a<R.length
 hk:k<R.length
 ne:a≠k
 uniq:∀ (i j:Nat) (p q:Pl α),i≠a->j≠a->R[i]?=some p->R[j]?=some q->p.is_=1->q.is_=1->kL p.key=kL q.key->i=j
 chain:∀ (i:Nat) (p:Pl α),i≠a->R[i]?=some p->p.is_=1->mr R p.key i
 full:∀ i,i<R.length->i≠a->cV R.length a i<cV R.length a k->pA R i
 off:∀ (i:Nat) (p:Pl α),i≠a->R[i]?=some p->p.is_=1->cV R.length a i<cV R.length a k->cV R.length (fb R p.key) i<cV R.length a i
 stale:∃ p,R[a]?=some p∧p.is_=1
 room:∃ e,jv R e
 r01:∀ p∈R,p.is_<=1
theorem Aa {R:List (Pl α)}{i:Nat}{p:Pl α}(key:ByteArray):fb (R.set i p) key=fb R key:=by unfold fb;rw [List.length_set]
theorem zD {R:List (Pl α)}{key:ByteArray}{i j:Nat}(c:mr R key i) (hi:i<R.length) (hj:j<R.length) (h:cV R.length (fb R key) j<cV R.length (fb R key) i):pA R j:=by
 have:=c _ h
 rwa [iC (kS (by omega)) hj] at this
theorem qw {n h a i:Nat}(hh:h<n) (ha:a<n) (hi:i<n) (hne:a≠i):cV n h i>=cV n a i↔cV n h a<cV n h i:=by
 unfold cV
 split <;> split <;> split <;> omega
theorem tB {n h a k i:Nat}(hh:h<n) (ha:a<n) (hk:k<n) (hi:i<n) (h1:cV n h a<cV n h i) (h2:cV n a k<cV n a i):cV n h k<cV n h i:=by
 revert h1 h2
 unfold cV
 split <;> split <;> split <;> split <;> split <;> omega
theorem rZ {n a i:Nat}(ha:a<n) (hi:i<n) (h:cV n a i=0):a=i:=by
 revert h;unfold cV;split <;> omega
theorem Sh.final {R:List (Pl α)}{a k:Nat}(s:Sh R a k) (hk:jv R k):ew (R.set a (eD z)):=by
 have ha:=s.ha
 have hkl:=s.hk
 refine ⟨fun i p hp h1=>?_,fun i j p q hp hq h1 h2 he=>?_⟩
 ·rcases cu hp with ⟨_,rfl,_⟩ | ⟨hne,hp⟩
  ·simp [eD] at h1
  ·have hi:=(List.getElem?_eq_some_iff.1 hp).1
   have c:=s.chain i p (Ne.symm hne) hp h1
   have hh:=kS (R:=R) (key:=p.key) (by omega)
   unfold mr
   rw [Aa,List.length_set]
   intro x hx
   have f:=c x hx
   obtain ⟨q,q1,q2⟩:=f
   have hxl:x<R.length:=by have:=ng hh hi;omega
   have hne2:a≠(fb R p.key+x) % R.length:=fun e=>by
    have hd:cV R.length (fb R p.key) a<cV R.length (fb R p.key) i:=by rw [e,oz hh hxl];exact hx
    by_cases hb:cV R.length a i<cV R.length a k
    ·have:=s.off i p (Ne.symm hne) hp h1 hb
     have:=(qw hh ha hi hne).2 hd
     omega
    ·by_cases hki:k=i
     ·subst hki
      obtain ⟨q',g1,g2⟩:=hk
      rw [hp] at g1;cases g1;omega
     ·have hlt:cV R.length a k<cV R.length a i:=by
       rcases Nat.lt_or_ge (cV R.length a k) (cV R.length a i) with h | h
       ·exact h
       ·exfalso
        have:cV R.length a k=cV R.length a i:=by omega
        have e1:=iC ha hkl
        have e2:=iC ha hi
        rw [this,e2] at e1;exact hki e1.symm
      have:=tB hh ha hkl hi hd hlt
      exact (zD c hi hkl this).not_empty hk
   exact ⟨q,by rw [List.getElem?_set,if_neg hne2];exact q1,q2⟩
 ·rcases cu hp with ⟨_,rfl,_⟩ | ⟨hn1,hp⟩
  ·simp [eD] at h1
  ·rcases cu hq with ⟨_,rfl,_⟩ | ⟨hn2,hq⟩
   ·simp [eD] at h2
   ·exact s.uniq i j p q (Ne.symm hn1) (Ne.symm hn2) hp hq h1 h2 he
theorem xv {n k e:Nat}(hk:k<n) (h:k≠e) (he:e<n):(k+1) % n≠k:=by
 rw [iU hk (show 1<n by omega)]
 split <;> omega
theorem Sh.skip {R:List (Pl α)}{a k:Nat}{p:Pl α}(s:Sh R a k) (hp:R[k]?=some p) (h1:p.is_=1) (hd:cV R.length (fb R p.key) k<cV R.length a k):Sh R a ((k+1) % R.length):=by
 have ha:=s.ha
 have hk:=s.hk
 obtain ⟨e,he⟩:=s.room
 have hel:=he.lt
 obtain ⟨q,hq1,hq2⟩:=s.stale
 have hae:a≠e:=fun h=>by
  subst h;obtain ⟨q',g1,g2⟩:=he
  rw [hq1] at g1;cases g1;omega
 have hke:k≠e:=fun h=>by
  subst h;obtain ⟨q',g1,g2⟩:=he
  rw [hp] at g1;cases g1;omega
 have hnext:(k+1) % R.length≠a:=fun h=>by
  -- then e lies nowhere
  have hf:cV R.length a e<cV R.length a k∨cV R.length a k<cV R.length a e:=by
   rcases Nat.lt_trichotomy (cV R.length a e) (cV R.length a k) with g | g | g
   ·exact .inl g
   ·exfalso
    have e1:=iC ha hk
    have e2:=iC ha hel
    rw [← g,e2] at e1;exact hke e1.symm
   ·exact .inr g
  rcases hf with hf | hf
  ·exact (s.full e hel (Ne.symm hae) hf).not_empty he
  ·have:=ng ha hel
   rw [iU hk (by omega)] at h
   revert hf this
   unfold cV
   split at h <;> split <;> split <;> omega
 have hdk:∀ i,i<R.length->i≠a->cV R.length a i<cV R.length a ((k+1) % R.length)->i=k∨cV R.length a i<cV R.length a k:=fun i hi hia hlt=>by
  by_cases hik:i=k
  ·exact .inl hik
  ·right
   revert hlt
   rw [iU hk (by omega)] at hnext ⊢
   unfold cV
   split at hnext <;> split <;> split <;> split <;> omega
 refine ⟨ha,jR (by omega),Ne.symm hnext,s.uniq,s.chain,fun i hi hia hlt=>?_,fun i q hia hq hq1 hlt=>?_,s.stale,s.room,s.r01⟩
 ·rcases hdk i hi hia hlt with rfl | h
  ·exact ⟨p,hp,by omega⟩
  ·exact s.full i hi hia h
 ·rcases hdk i (List.getElem?_eq_some_iff.1 hq).1 hia hlt with rfl | h
  ·rw [hp] at hq;cases hq;exact hd
  ·exact s.off i q hia hq hq1 h
theorem Sh.move {R:List (Pl α)}{a k:Nat}{p:Pl α}(s:Sh R a k) (hp:R[k]?=some p) (h1:p.is_=1) (hd:cV R.length (fb R p.key) k>=cV R.length a k):Sh (R.set a p) k ((k+1) % R.length)∧(∀ q,Els (R.set a p) k q↔Els R a q)∧ez (R.set a p)=ez R:=by
 have ha:=s.ha
 have hk:=s.hk
 obtain ⟨e,he⟩:=s.room
 have hel:=he.lt
 obtain ⟨q,hq1,hq2⟩:=s.stale
 have hae:a≠e:=fun h=>by
  subst h;obtain ⟨q',g1,g2⟩:=he
  rw [hq1] at g1;cases g1;omega
 have hke:k≠e:=fun h=>by
  subst h;obtain ⟨q',g1,g2⟩:=he
  rw [hp] at g1;cases g1;omega
 have hh:=kS (R:=R) (key:=p.key) (by omega)
 have hat:(R.set a p)[a]?=some p:=by rw [List.getElem?_set,if_pos rfl,if_pos ha]
 have hkt:(R.set a p)[k]?=some p:=by rw [List.getElem?_set,if_neg s.ne];exact hp
 refine ⟨⟨by simpa using hk,by rw [List.length_set];exact jR (by omega),Ne.symm (xv hk hke hel),?_,?_,?_,?_,⟨p,hkt,h1⟩,⟨e,?_⟩,?_⟩,fun x=>⟨fun ⟨i,h2,h3,h4⟩=>?_,fun ⟨i,h2,h3,h4⟩=>?_⟩,?_⟩
 ·intro i j x y hi hj hx hy hx1 hy1 hxy
  rcases cu hx with ⟨gi,gx,_⟩ | ⟨gi,gx⟩
  ·rcases cu hy with ⟨gj,gy,_⟩ | ⟨gj,gy⟩
   ·exact gi.symm.trans gj
   ·subst gx
    exact absurd (s.uniq k j _ y (Ne.symm s.ne) (Ne.symm gj) hp gy h1 hy1 hxy).symm hj
  ·rcases cu hy with ⟨gj,gy,_⟩ | ⟨gj,gy⟩
   ·subst gy
    exact absurd (s.uniq i k x _ (Ne.symm gi) (Ne.symm s.ne) gx hp hx1 h1 hxy) hi
   ·exact s.uniq i j x y (Ne.symm gi) (Ne.symm gj) gx gy hx1 hy1 hxy
 ·intro i x hi hx hx1
  rcases cu hx with ⟨rfl,rfl,_⟩ | ⟨gi,hx⟩
  ·refine iD (fun y hy=>?_) (by omega)
   have c:=s.chain k x (Ne.symm s.ne) hp h1
   have:=(qw hh ha hk s.ne).1 hd
   exact c y (by omega)
  ·exact iD (s.chain i x (Ne.symm gi) hx hx1) (by omega)
 ·intro i hi hik hlt
  rw [List.length_set] at hi hlt
  exfalso
  revert hlt
  rw [iU hk (by omega)]
  unfold cV
  split <;> split <;> split <;> omega
 ·intro i x hik hx hx1 hlt
  have hi:=(List.getElem?_eq_some_iff.1 hx).1
  rw [List.length_set] at hi hlt
  exfalso
  revert hlt
  rw [iU hk (by omega)]
  unfold cV
  split <;> split <;> split <;> omega
 ·obtain ⟨q',g1,g2⟩:=he
  exact ⟨q',by rw [List.getElem?_set,if_neg hae];exact g1,g2⟩
 ·intro x hx
  obtain ⟨j,hj⟩:=List.mem_iff_getElem?.1 hx
  rcases cu hj with ⟨_,rfl,_⟩ | ⟨_,hj⟩
  ·omega
  ·exact s.r01 x (List.mem_of_getElem? hj)
 ·rcases cu h3 with ⟨rfl,rfl,_⟩ | ⟨gi,h3⟩
  ·exact ⟨k,Ne.symm s.ne,hp,h4⟩
  ·exact ⟨i,Ne.symm gi,h3,h4⟩
 ·by_cases hik:i=k
  ·subst hik;rw [hp] at h3;cases h3;exact ⟨a,s.ne,hat,h4⟩
  ·exact ⟨i,hik,by rw [List.getElem?_set,if_neg (Ne.symm h2)];exact h3,h4⟩
 ·have:=gR R a p q hq1
  rw [if_pos hq2,if_pos h1] at this
  omega
theorem mO:∀ (f:Nat) (R:List (Pl α)) (a k:Nat),Sh R a k->(∃ e,jv R e∧cV R.length k e<f)->∃ R',kW z f R a k=some R'∧ew R'∧(∀ p∈R',p.is_<=1)∧R'.length=R.length∧ez R'+1=ez R∧∀ q:Pl α,(∃ i:Nat,R'[i]?=some q∧q.is_=1)↔Els R a q
 | 0,R,a,k,s,⟨e,_,h⟩=>by omega
 | f+1,R,a,k,s,⟨e,he,hf⟩=>by
  have hk:=s.hk
  have ha:=s.ha
  have hel:=he.lt
  obtain ⟨p,hp⟩:∃ p,R[k]?=some p:=⟨_,List.getElem?_eq_getElem hk⟩
  unfold kW
  rw [hp]
  simp only
  by_cases h0:p.is_=0
  ·rw [if_pos h0]
   obtain ⟨q,hq1,hq2⟩:=s.stale
   refine ⟨_,rfl,s.final ⟨p,hp,h0⟩,fun x hx=>?_,by simp,?_,fun x=>⟨fun ⟨i,g1,g2⟩=>?_,fun ⟨i,g0,g1,g2⟩=>⟨i,by rw [List.getElem?_set,if_neg (Ne.symm g0)];exact g1,g2⟩⟩⟩
   ·obtain ⟨j,hj⟩:=List.mem_iff_getElem?.1 hx
    rcases cu hj with ⟨_,rfl,_⟩ | ⟨_,hj⟩
    ·simp [eD]
    ·exact s.r01 x (List.mem_of_getElem? hj)
   ·have:=gR R a (eD z) q hq1
    rw [if_pos hq2,if_neg (by simp [eD])] at this
    omega
   ·rcases cu g1 with ⟨_,rfl,_⟩ | ⟨gi,g1⟩
    ·simp [eD] at g2
    ·exact ⟨i,Ne.symm gi,g1,g2⟩
  ·rw [if_neg h0]
   have h1:p.is_=1:=by have:=s.r01 p (List.mem_of_getElem? hp);omega
   have hke:k≠e:=fun h=>by
    subst h;obtain ⟨q',g1,g2⟩:=he
    rw [hp] at g1;cases g1;omega
   have hds:=yi hk hel hke
   by_cases hd:cV R.length (fb R p.key) k>=cV R.length a k
   ·rw [if_pos hd]
    obtain ⟨s1,s2,s3⟩:=s.move hp h1 hd
    obtain ⟨q,hq1,hq2⟩:=s.stale
    have hae:a≠e:=fun h=>by
     subst h;obtain ⟨q',g1,g2⟩:=he
     rw [hq1] at g1;cases g1;omega
    obtain ⟨R',r1,r2,r3,r4,r5,r6⟩:=mO f (R.set a p) k ((k+1) % R.length) s1 ⟨e,by
     obtain ⟨q',g1,g2⟩:=he
     exact ⟨q',by rw [List.getElem?_set,if_neg hae];exact g1,g2⟩,by rw [List.length_set];omega⟩
    exact ⟨R',r1,r2,r3,by simpa using r4,by omega,fun x=>(r6 x).trans (s2 x)⟩
   ·rw [if_neg hd]
    exact mO f R a _ (s.skip hp h1 (by omega)) ⟨e,he,by omega⟩
theorem AF {R:List (Pl α)}{i:Nat}{d:Pl α}(r:ew R) (h01:∀ p∈R,p.is_<=1) (hroom:∃ e,jv R e) (hd:R[i]?=some d) (h1:d.is_=1) :
  ∃ R',kW z (R.length+1) R i ((i+1) % R.length)=some R'∧ew R'∧(∀ p∈R',p.is_<=1)∧R'.length=R.length∧ez R'+1=ez R∧(∀ key,d5 R' key=if kL key=kL d.key then none else d5 R key) ∧
   ∀ q:Pl α,(∃ i:Nat,R'[i]?=some q∧q.is_=1)->∃ i:Nat,R[i]?=some q∧q.is_=1:=by
 have hi:=(List.getElem?_eq_some_iff.1 hd).1
 obtain ⟨e,he⟩:=hroom
 have hel:=he.lt
 have hie:i≠e:=fun h=>by
  subst h;obtain ⟨q',g1,g2⟩:=he
  rw [hd] at g1;cases g1;omega
 have hn1:cV R.length i ((i+1) % R.length)=1:=by
  rw [iU hi (by omega)]
  unfold cV
  split <;> split <;> omega
 have s:Sh R i ((i+1) % R.length):=⟨hi,jR (by omega),Ne.symm (xv hi hie hel),fun a b p q _ _ ha hb hp hq h=>r.uniq a b p q ha hb hp hq h,fun a p _ hp hp1=>r.chain a p hp hp1,fun a ha hne hlt=>by
   have:=rZ hi ha (by omega)
   exact absurd this.symm hne,fun a p hne hp hp1 hlt=>by
   have:=rZ hi (List.getElem?_eq_some_iff.1 hp).1 (by omega)
   exact absurd this.symm hne,⟨d,hd,h1⟩,⟨e,he⟩,h01⟩
 obtain ⟨R',r1,r2,r3,r4,r5,r6⟩:=mO (z:=z) (R.length+1) R i _ s ⟨e,he,by have:=ng (jR (h:=i) (k:=1) (n:=R.length) (by omega)) hel;omega⟩
 refine ⟨R',r1,r2,r3,r4,r5,fun key=>?_,fun q hq=>?_⟩
 ·split
  ·rename_i hk
   refine dm fun j ⟨q,g1,g2,g3⟩=>?_
   obtain ⟨a,h2,h3,h4⟩:=(r6 q).1 ⟨j,g1,g2⟩
   exact h2 (r.uniq a i q d h3 hd h4 h1 (g3.trans hk))
  ·rename_i hk
   cases hv:d5 R key with
   | none =>
    refine dm fun j ⟨q,g1,g2,g3⟩=>?_
    obtain ⟨a,h2,h3,h4⟩:=(r6 q).1 ⟨j,g1,g2⟩
    rw [fy r h3 h4 g3] at hv;cases hv
   | some v =>
    obtain ⟨a,q,g1,g2,g3,g4⟩:=ru hv
    have hai:a≠i:=fun h=>by subst h;rw [hd] at g1;cases g1;exact hk g3.symm
    obtain ⟨b,h2,h3⟩:=(r6 q).2 ⟨a,hai,g1,g2⟩
    rw [fy r2 h2 h3 g3,g4]
 ·obtain ⟨a,_,h3,h4⟩:=(r6 q).1 hq
  exact ⟨a,h3,h4⟩
theorem Bj {T:Tb α}(t:TOk T) (key:ByteArray) :
  ∃ T',xd z T key=some (T',((dO T key).getD z,(dO T key).isSome))∧TOk T'∧ti T'∧(∀ k,dO T' k=if kL k=kL key then none else dO T k)∧T'.count=T.count-(if (dO T key).isSome then 1 else 0)∧T'.row.length=T.row.length∧dd T'=dd T-4:=by
 obtain ⟨T1,m1,m2,m3,m4,m5,m6,m7⟩:=mf (z:=z) t 4
 unfold xd
 rw [m1,← m7,← m5,← m6]
 simp only
 have m4':dd T1=dd T-4:=by rw [m4];rfl
 rw [← m4']
 have back:∀ k,dO T k=dO T1 k:=fun k=>(m7 k).symm
 simp only [back]
 clear m1 m7 m5 m6 m4 m4' back t
 rcases mE T1.elder key with ⟨i,hi⟩ | hne
 ·rw [m2.elder.hit hi]
  obtain ⟨p,h1,h2,h3⟩:=hi
  simp only [h1]
  have hil:=(List.getElem?_eq_some_iff.1 h1).1
  have hn:∀ k,kL k=kL key->∀ j,¬ Hit T1.row k j:=fun k hk j ⟨q,g1,g2,g3⟩=>m2.apart j i q p g1 h1 g2 h2 (g3.trans (hk.trans h3.symm))
  have hg:=lZ m2 (hn key rfl) h1 h2 h3
  rw [hg]
  have r1:ew (T1.elder.set i (eE z)):=m2.elder.gone (by simp [eE]) (by simp [eE])
  have hc1:=m2.cnt_elder h1 h2
  have hcnt:=m2.cnt
  refine ⟨_,rfl,⟨m2.row,m2.row01,m2.pos,r1,fun hne=>?_,fun j q hj hq=>?_,by simpa using m2.mle,fun a b q s hq hs hq1 hs1=>?_,?_,?_⟩,?_,fun k=>?_,rfl,rfl,by simp [dd]⟩
  ·obtain ⟨j,q,g1,g2⟩:=m2.eroom (fun e=>by rw [e] at h1;simp at h1)
   have:i≠j:=fun e=>by subst e;rw [h1] at g1;cases g1;omega
   exact ⟨j,q,by rw [List.getElem?_set,if_neg this];exact g1,g2⟩
  ·rcases cu hq with ⟨_,rfl,_⟩ | ⟨_,gq⟩
   ·simp [eE]
   ·exact m2.behind j q hj gq
  ·rcases cu hs with ⟨_,rfl,_⟩ | ⟨_,gs⟩
   ·simp [eE] at hs1
   ·exact m2.apart a b q s hq gs hq1 hs1
  ·have c1:=gR T1.elder i (eE z) p h1
   rw [if_pos h2,if_neg (by simp [eE])] at c1
   show ez T1.row+ez (T1.elder.set i (eE z))=T1.count-1
   omega
  ·have:=m2.load
   show (T1.elder.set i (eE z)).length-T1.moved+4*(T1.count-1)<=3*T1.row.length
   unfold dd at this
   rw [List.length_set];omega
  ·rcases m3 with hr | hr
   ·rw [hr] at h1;simp at h1
   ·exact .inr (by simpa using hr)
  ·show (match d5 T1.row k with | some v=>some v | none=>d5 (T1.elder.set i (eE z)) k)=_
   by_cases hk:kL k=kL key
   ·have a1:d5 T1.row k=none:=dm (R:=T1.row) (hn k hk)
    have a2:d5 (T1.elder.set i (eE z)) k=none:=dm (R:=T1.elder.set i (eE z)) fun j ⟨q,g1,g2,g3⟩=>by
     rcases cu g1 with ⟨_,rfl,_⟩ | ⟨gi,g1⟩
     ·simp [eE] at g2
     ·exact gi (m2.elder.uniq i j p q h1 g1 h2 g2 (h3.trans (hk.symm.trans g3.symm)))
    rw [if_pos hk,a1,a2]
   ·rw [if_neg hk,ju r1 m2.elder h1 k (fun h=>hk (h.2.symm.trans h3)),if_neg (by simp [eE])];rfl
 ·have hfe:∃ i,fB T1.elder key=some (i,false):=by
   by_cases he:T1.elder=[]
   ·exact ⟨0,by rw [he];rfl⟩
   ·obtain ⟨j,g1,_,_⟩:=gJ hne (m2.eroom he)
    exact ⟨j,g1⟩
  obtain ⟨j,hj⟩:=hfe
  rw [hj]
  simp only
  rcases mE T1.row key with ⟨i,hi⟩ | hn
  ·rw [m2.row.hit hi]
   obtain ⟨p,h1,h2,h3⟩:=hi
   simp only [h1]
   obtain ⟨R',r1,r2,r3,r4,r5,r6,r7⟩:=AF (z:=z) m2.row m2.row01 (m2.room m2.cnt_row) h1 h2
   rw [r1]
   have hg:=nA m2 h1 h2 h3
   rw [hg]
   have hcnt:=m2.cnt
   have hpos:=m2.pos
   refine ⟨_,rfl,⟨r2,r3,by show 2<=R'.length;omega,m2.elder,m2.eroom,m2.behind,m2.mle,fun a b q s hq hs hq1 hs1=>?_,?_,?_⟩,m3,fun k=>?_,rfl,r4,rfl⟩
   ·obtain ⟨a',ha,hb⟩:=r7 q ⟨a,hq,hq1⟩
    exact m2.apart a' b q s ha hs hb hs1
   ·show ez R'+ez T1.elder=T1.count-1
    omega
   ·have:=m2.load
    show T1.elder.length-T1.moved+4*(T1.count-1)<=3*R'.length
    unfold dd at this
    omega
   ·show (match d5 R' k with | some v=>some v | none=>d5 T1.elder k)=_
    rw [r6]
    by_cases hk:kL k=kL key
    ·have a2:d5 T1.elder k=none:=dm (R:=T1.elder) fun j ⟨q,g1,g2,g3⟩=>hne j ⟨q,g1,g2,g3.trans hk⟩
     rw [if_pos hk,if_pos (hk.trans h3.symm),a2]
    ·rw [if_neg hk,if_neg (fun h=>hk (h.trans h3))];rfl
  ·obtain ⟨i,f1,_,_⟩:=gJ hn (m2.room m2.cnt_row)
   rw [f1]
   have hg:=lG hn hne
   rw [hg]
   refine ⟨T1,rfl,m2,m3,fun k=>?_,by simp,rfl,rfl⟩
   by_cases hk:kL k=kL key
   ·rw [if_pos hk]
    exact lG (fun j ⟨q,g1,g2,g3⟩=>hn j ⟨q,g1,g2,g3.trans hk⟩) (fun j ⟨q,g1,g2,g3⟩=>hne j ⟨q,g1,g2,g3.trans hk⟩)
   ·rw [if_neg hk]
end
open Go Go.Proofs
set_option maxRecDepth 100000
def AJ:Go.Shelf.Ren:=⟨fun | 6=>124 | 8=>145 | 9=>144 | 19=>162 | 20=>163 | 21=>153 | 22=>154 | 23=>155 | 24=>156 | 25=>157 | 26=>158 | 27=>159 | 28=>160 | 29=>161 | 36=>167 | 31=>168 | 32=>169 | 37=>170 | 38=>171 | 39=>172 | 41=>181 | n=>n,fun | 27=>22 | 29=>9 | 3=>3 | 32=>177 | 26=>22 | 0=>0 | 44=>223 | 46=>90 | 4=>4 | 36=>216 | 35=>215 | 41=>166 | 5=>5 | 9=>9 | 53=>227 | 57=>231 | 63=>238 | 64=>239 | n=>n,fun n=>n⟩
theorem srt:SlLaysM.n6 Tryz.prog AJ:={ mixed:=by kernel_rfl,f6:=⟨Tryz.f124.name,by decide,Tryz.func124.trans (congrArg some (by kernel_rfl))⟩,f8:=Tryz.func145.trans (congrArg some (by kernel_rfl)),f9:=⟨Tryz.f144.name,by decide,Tryz.func144.trans (congrArg some (by kernel_rfl))⟩,f19:=Tryz.func162.trans (congrArg some (by kernel_rfl)),f20:=Tryz.func163.trans (congrArg some (by kernel_rfl)),f21:=⟨Tryz.f153.name,by decide,Tryz.func153.trans (congrArg some (by kernel_rfl))⟩,f22:=⟨Tryz.f154.name,by decide,Tryz.func154.trans (congrArg some (by kernel_rfl))⟩,f23:=⟨Tryz.f155.name,by decide,Tryz.func155.trans (congrArg some (by kernel_rfl))⟩,f24:=⟨Tryz.f156.name,by decide,Tryz.func156.trans (congrArg some (by kernel_rfl))⟩,f25:=⟨Tryz.f157.name,by decide,Tryz.func157.trans (congrArg some (by kernel_rfl))⟩,f26:=⟨Tryz.f158.name,by decide,Tryz.func158.trans (congrArg some (by kernel_rfl))⟩,f27:=⟨Tryz.f159.name,by decide,Tryz.func159.trans (congrArg some (by kernel_rfl))⟩,f28:=⟨Tryz.f160.name,by decide,Tryz.func160.trans (congrArg some (by kernel_rfl))⟩,f29:=⟨Tryz.f161.name,by decide,Tryz.func161.trans (congrArg some (by kernel_rfl))⟩,f31:=Tryz.func168.trans (congrArg some (by kernel_rfl)),f32:=Tryz.func169.trans (congrArg some (by kernel_rfl)),f36:=⟨Tryz.f167.name,by decide,Tryz.func167.trans (congrArg some (by kernel_rfl))⟩,f37:=⟨Tryz.f170.name,by decide,Tryz.func170.trans (congrArg some (by kernel_rfl))⟩,f38:=⟨Tryz.f171.name,by decide,Tryz.func171.trans (congrArg some (by kernel_rfl))⟩,f39:=⟨Tryz.f172.name,by decide,Tryz.func172.trans (congrArg some (by kernel_rfl))⟩,f41:=⟨Tryz.f181.name,by decide,Tryz.func181.trans (congrArg some (by kernel_rfl))⟩,t0:=Tryz.underlying0,a0:=Tryz.isAgg0,z0:=Tryz.sizeOf0,v0:=Tryz.zeroValue0,t3:=ZBM,a3:=ZC,z3:=ZQ,v3:=Tryz.zeroValue3,t4:=ZBQ,a4:=Zj,z4:=Z2,v4:=Tryz.zeroValue4,t5:=ZBT,a5:=Tryz.isAgg5,z5:=Tryz.sizeOf5,v5:=Tryz.zeroValue5,t9:=ZBF,a9:=ZP,z9:=Tryz.sizeOf9,v9:=Tryz.zeroValue9,t26:=Tryz.underlying22,a26:=Tryz.isAgg22,z26:=Tryz.sizeOf22,v26:=Tryz.zeroValue22,t27:=Tryz.underlying22,a27:=Tryz.isAgg22,z27:=Tryz.sizeOf22,v27:=Tryz.zeroValue22,t29:=ZBF,a29:=ZP,z29:=Tryz.sizeOf9,v29:=Tryz.zeroValue9,t32:=Tryz.underlying177,a32:=Tryz.isAgg177,z32:=Tryz.sizeOf177,v32:=Tryz.zeroValue177,t35:=Tryz.underlying215,a35:=Tryz.isAgg215,z35:=Tryz.sizeOf215,v35:=Tryz.zeroValue215,t36:=Tryz.underlying216,a36:=Tryz.isAgg216,z36:=Tryz.sizeOf216,v36:=Tryz.zeroValue216,t41:=Tryz.underlying166,a41:=Tryz.isAgg166,z41:=Tryz.sizeOf166,v41:=Tryz.zeroValue166,t44:=Tryz.underlying223,a44:=Tryz.isAgg223,z44:=Tryz.sizeOf223,v44:=Tryz.zeroValue223,t46:=Tryz.underlying90,a46:=ZV,z46:=Tryz.sizeOf90,v46:=Tryz.zeroValue90,t53:=Tryz.underlying227,a53:=Tryz.isAgg227,z53:=Tryz.sizeOf227,v53:=Tryz.zeroValue227,t57:=Tryz.underlying231,a57:=Tryz.isAgg231,z57:=Tryz.sizeOf231,v57:=Tryz.zeroValue231,t63:=Tryz.underlying238,a63:=Tryz.isAgg238,z63:=Tryz.sizeOf238,v63:=Tryz.zeroValue238,t64:=Tryz.underlying239,a64:=Tryz.isAgg239,z64:=Tryz.sizeOf239,v64:=Tryz.zeroValue239 }
open Go Go.Sort
noncomputable def ii (ss:List ByteArray):List ByteArray:=((ss.map fun s=>s.data.toList).mergeSort fun x y=>decide (x<=y)).map fun l=>⟨l.toArray⟩
theorem oV (ss:List ByteArray):(ii ss).length=ss.length:=by simp [ii]
theorem Bn (s:ByteArray):encStr s.data.toList=.string s:=by simp [encStr]
theorem uE (ss:List ByteArray):ss.flatMap cT=(ss.map fun s=>s.data.toList).map encStr:=by
 rw [List.map_map]
 induction ss with
 | nil=>rfl
 | cons a r ih=>rw [List.flatMap_cons,ih];simp [Bn]
theorem yr (ss:List ByteArray):(ii ss).flatMap cT=((ss.map fun s=>s.data.toList).mergeSort fun x y=>decide (x<=y)).map encStr:=by
 rw [uE,ii,List.map_map,List.map_map]
 congr 1
theorem uc {h:H}{s:Sl}{ss:List ByteArray}{f:Nat}{K:Value->H->Prop}(hf:AJ.f 6=f) (ow:aU h s 9 1 (ss.flatMap cT)) (hl:ss.length<4611686018427387904)
  (k:∀ h',aU h' s 9 1 ((ii ss).flatMap cT)->bI (fun b=>s.blk=some b) h h'->K (.tuple #[]) h'):Fn Tryz.prog f [s.enc].toArray h K:=fun w hw=>by
 subst hw
 subst hf
 obtain ⟨hlen,⟨h1,h2,h3⟩ | ⟨g,c,h1,h2,h3,h4,h5,h6⟩⟩:=id ow
 ·obtain ⟨sp,sl,sc⟩:=s
  simp only at h1 h2 h3
  subst h1;subst h2;subst h3
  have hs:ss=[]:=by
   have:=hlen
   rw [cq cT 1 i4] at this
   simp only at this
   exact List.eq_nil_of_length_eq_zero (by omega)
  subst hs
  have hc:=AnyM.slices_Sort_string_none srt none 0 w
  refine callsIn_wide.2 (hc.mono fun e w' ⟨he,hn⟩=>?_)
  subst he
  subst hn
  refine ⟨_,rfl,eJ.refl _,k _ ?_ (.refl _)⟩
  have:ii []=[]:=by simp [ii]
  rw [this]
  exact ow
 ·obtain ⟨sp,sl,sc⟩:=s
  simp only at h1 h3 h4 h5
  subst h1
  have hsl:sl=ss.length:=by
   have:=hlen
   rw [cq cT 1 i4] at this
   simp only at this
   omega
  subst hsl
  have htk:c.toList.take (ss.map fun s=>s.data.toList).length=(ss.map fun s=>s.data.toList).map encStr:=by
   rw [← uE,List.length_map]
   rw [cq cT 1 i4,Nat.mul_one] at h6
   exact h6
  have hH:=holds_of_block (w:=w) (ss:=ss.map fun s=>s.data.toList) h2 htk
  have hc:=AnyM.slices_Sort_string srt g 0 sc (ss.map fun s=>s.data.toList) w hH (Array.getElem?_eq_some_iff.1 h2).1 (by simpa using hl)
  rw [List.length_map] at hc
  refine callsIn_wide.2 (hc.mono fun e w' ⟨he,n,os,hn⟩=>?_)
  subst he
  have hg:w.grownBy w' (some g):=by rw [hn];exact grownBy_sorted _
  have hso:=heap_sorted (n:=n) (os:=os) ((ss.map fun s=>s.data.toList).mergeSort fun x y=>decide (x<=y)).toArray h2
  rw [← hn] at hso
  refine ⟨_,rfl,⟨hg.os,hg.tape,hg.output,by rw [hn];exact Nat.le_add_right _ _⟩,k _ ⟨?_,.inr ⟨g,_,rfl,hso,?_,h4,h5,?_⟩⟩ ((kn hg).mono fun b _ e=>by simpa [Sl.blk] using e)⟩
  ·rw [cq cT 1 i4,oV]
  ·simp only [putCells];simpa using h3
  ·rw [cq cT 1 i4,Nat.mul_one,oV,yr]
   have hlm:((ss.map fun s=>s.data.toList).mergeSort fun x y=>decide (x<=y)).length=ss.length:=by simp
   have:=take_putCells c ((ss.map fun s=>s.data.toList).mergeSort fun x y=>decide (x<=y)) (by rw [hlm];omega)
   rw [hlm] at this
   exact this
open Go
set_option maxRecDepth 20000
def pk (h:Nat) (c:UInt8):Nat:=((h ^^^ c.toNat)*1099511628211) % 18446744073709551616
theorem sv {x:Nat}(c:UInt8) (hx:x<18446744073709551616):IntKind.wrap .u64 ((cj .xor .u64 (x:Int) (IntKind.wrap .u64 (c.toNat:Int)))*1099511628211)=((pk x c:Nat):Int):=by
 have hb:c.toNat<256:=c.toNat_lt
 have e2:IntKind.wrap .u64 (c.toNat:Int)=((c.toNat:Nat):Int):=by rw [cg];omega
 rw [e2]
 simp only [cj]
 rw [BitVec.ofInt_natCast,BitVec.ofInt_natCast,BitVec.toNat_xor,BitVec.toNat_ofNat,BitVec.toNat_ofNat,cg,cg]
 have e3:x % 2 ^ (IntKind.bits .u64)=x:=Nat.mod_eq_of_lt (by simpa [IntKind.bits] using hx)
 have e4:c.toNat % 2 ^ (IntKind.bits .u64)=c.toNat:=Nat.mod_eq_of_lt (by simp [IntKind.bits];omega)
 rw [e3,e4]
 have hlt:x ^^^ c.toNat<2 ^ 64:=Nat.xor_lt_two_pow (by omega) (by omega)
 unfold pk
 generalize x ^^^ c.toNat=y at *
 omega
theorem uL (h:Nat) (c:UInt8):pk h c<18446744073709551616:=Nat.mod_lt _ (by omega)
theorem uK (l:List UInt8):Cj l=l.foldl pk 14695981039346656037:=rfl
theorem su {h:H}{s:Sl}{l:List UInt8}{z:Nat}{Q:Int->H->Prop}(rd:bS h s 1 (l.flatMap cU)) (hl:l.length<=9223372036854775807) (k:Q (z:Int) h) :
  ∀ (m i:Nat) (x:Nat),i<=l.length->l.length-i<m->x<18446744073709551616->(l.drop i).foldl pk x=z->F.xcq.l1 Q m (x:Int) s (s.len:Int) (i:Int) h
 | 0,i,x,h1,h2,_,_=>by omega
 | m+1,i,x,h1,h2,hlt,hx=>by
  unfold F.xcq.l1
  have hlen:=cz ip (by omega) rd
  rw [hlen]
  simp only [decide_eq_true_eq,decide_eq_false_iff_not]
  refine ⟨fun g=>?_,fun g=>?_⟩
  ·obtain ⟨c,hc⟩:∃ c,l[i]?=some c:=⟨_,List.getElem?_eq_getElem (by omega)⟩
   obtain ⟨p,q1,q2,q3⟩:=gw ip (by omega) rd hc
   refine dK q1 (by omega) rfl ?_
   rw [bA (by have:=q3.one;rwa [Nat.mul_one] at this ⊢),sv c hlt,w64 (by omega) (by omega)]
   have:=su rd hl k m (i+1) (pk x c) (by omega) (by omega) (uL x c) (by
    rw [← hx,List.drop_eq_getElem_cons (show i<l.length by omega),List.foldl_cons]
    have:l[i]=c:=by have:=(List.getElem?_eq_some_iff.1 hc).2;exact this
    rw [this])
   rw [hlen] at this
   exact this
  ·have:i=l.length:=by omega
   subst this
   rw [List.drop_length] at hx
   cases hx
   exact k
theorem rO {h:H}{key:ByteArray}{Q:Int->H->Prop}(hk:key.size<=9223372036854775807) (k:∀ h',Ext h h'->Q ((nB key:Nat):Int) h'):F.xcq key h Q:=by
 unfold F.xcq
 refine Bi ZBF fj.slice ZBT fun r h' rd hc e _=>?_
 refine ⟨key.data.toList.length+1,?_⟩
 have:=su (Q:=Q) (z:=nB key) rd (by rw [← dC];exact hk) (k h' e) (key.data.toList.length+1) 0 14695981039346656037 (by omega) (by omega) (by omega) (by rw [List.drop_zero];unfold nB;rw [uK])
 exact this
abbrev i3 (k:ByteArray):Prop:=k.size<=9223372036854775807
abbrev BIG:Nat:=1099511627776
theorem uZ {α:Type}{R:List (Pl α)}{key:ByteArray}:∀ (f i:Nat) (r:Nat×Bool),kx R key f i=some r->r.1<R.length
 | 0,i,r,h=>by cases h
 | f+1,i,r,h=>by
  unfold kx at h
  cases hp:R[i]? with
  | none=>rw [hp] at h;cases h
  | some p =>
   have hi:=(List.getElem?_eq_some_iff.1 hp).1
   rw [hp] at h
   simp only at h
   split at h
   ·cases h;exact hi
   ·split at h
    ·cases h;exact hi
    ·exact uZ f _ r h
theorem xh {α:Type}{R:List (Pl α)}{key:ByteArray}{r:Nat×Bool}(h0:R≠[]) (h:fB R key=some r):r.1<R.length:=by
 unfold fB at h
 rw [if_neg (fun e=>h0 (List.eq_nil_of_length_eq_zero e))] at h
 exact uZ _ _ _ h
def WB (h:H) (n:Nat) (e:TypeId):Prop:=∃ c,Blk h n c e
theorem WB.ne {h:H}{a b:Nat}{e e':TypeId}(x:WB h a e) (y:WB h b e') (n:e≠e'):a≠b:=fun hab=>by
 obtain ⟨c,hc⟩:=x
 obtain ⟨d,hd⟩:=y
 subst hab
 unfold Blk at hc hd
 rw [hc] at hd
 simp at hd
 exact n hd.2
theorem aU.typ {h:H}{s:Sl}{e:TypeId}{size:Nat}{cs:List Value}(o:aU h s e size cs){b:Nat}(hb:s.blk=some b):WB h b e:=by
 obtain ⟨_,⟨h1,_⟩ | ⟨b',c',h1,h2,_⟩⟩:=o
 ·simp [Sl.blk,h1] at hb
 ·simp [Sl.blk,h1] at hb;subst hb;exact ⟨c',h2⟩
def KB {α:Type}(R:List (Pl α)):Prop:=∀ (i:Nat) (p:Pl α),R[i]?=some p->i3 p.key
theorem KB.set {α:Type}{R:List (Pl α)}(k:KB R){i:Nat}{p:Pl α}(hp:i3 p.key):KB (R.set i p):=fun j q hq=>by
 rcases cu hq with ⟨_,rfl,_⟩ | ⟨_,hq⟩
 ·exact hp
 ·exact k j q hq
def FT (n:Nat) (rs es:Sl) (b:Nat):Prop:=b=n∨rs.blk=some b∨es.blk=some b
structure Stp (h:H) (n:Nat) (rs es:Sl) (h':H) (rs' es':Sl):Prop where
 only:bI (FT n rs es) h h'
 new:∀ b,FT n rs' es' b->FT n rs es b∨h.size<=b
theorem Stp.refl (h:H) (n:Nat) (rs es:Sl):Stp h n rs es h rs es:=⟨.refl _,fun b hb=>.inl hb⟩
theorem Stp.trans {h h' h'':H}{n:Nat}{rs es rs' es' rs'' es'':Sl}(a:Stp h n rs es h' rs' es') (b:Stp h' n rs' es' h'' rs'' es''):Stp h n rs es h'' rs'' es'':=
 ⟨a.only.trans b.only fun m hm hf=>(a.new m hf).resolve_right (by omega),fun m hm=>by
  rcases b.new m hm with h1 | h1
  ·exact a.new m h1
  ·exact .inr (Nat.le_trans a.only.size h1)⟩
theorem Stp.ext {h h' h'':H}{n:Nat}{rs es rs' es':Sl}(a:Stp h n rs es h' rs' es') (e:Ext h' h''):Stp h n rs es h'' rs' es':=⟨a.only.ext e,a.new⟩
theorem Stp.of_ext {h h':H}{n:Nat}{rs es:Sl}(e:Ext h h'):Stp h n rs es h' rs es:=⟨e.only,fun b hb=>.inl hb⟩
theorem DW (a b c:Value) (n:Nat):(madeCells #[a,b,c] (n*3)).toList=(List.replicate n [a,b,c]).flatten:=by
  apply List.ext_getElem?
  intro j
  have hfl:(List.replicate n [a,b,c]).flatten=(List.replicate n ()).flatMap fun _=>[a,b,c]:=by
   rw [List.flatMap,List.map_replicate]
  rw [hfl]
  by_cases hj:j<n*3
  ·have hd:j=(j / 3)*3+j % 3:=by omega
   have hu:(List.replicate n ())[j / 3]?=some ():=by rw [List.getElem?_replicate,if_pos (by omega)]
   have:=gV (fun _:Unit=>[a,b,c]) 3 (fun _=>rfl) (List.replicate n ()) (j / 3) () hu (j % 3) (by omega)
   rw [← hd] at this
   rw [this]
   simp only [madeCells,Array.getElem?_toList]
   have hm:j % 3<3:=by omega
   simp [hj]
   rcases (show j % 3=0∨j % 3=1∨j % 3=2 by omega) with h | h | h <;> simp [h]
  ·rw [List.getElem?_eq_none (by simp [size_madeCells];omega),List.getElem?_eq_none (by rw [cq _ 3 (fun _=>rfl)];simp;omega)]
theorem KB.nil {α:Type}:KB ([]:List (Pl α)):=fun i p hp=>by simp at hp
theorem Et {cs:List Value}{o:Nat}{a b v:Value}(ha:cs[o]?=some a) (hb:cs[o+1]?=some b):cs.take (o+2) ++ [v] ++ cs.drop (o+2+[v].length)=cs.take o ++ [a,b,v] ++ cs.drop (o+[a,b,v].length):=by
 rw [List.take_add_one (i:=o+1),List.take_add_one (i:=o),ha,hb]
 simp
theorem sW {n a k:Nat}(ha:a<n) (hk:k<n) (hn:n<=BIG):Int.tmod (IntKind.wrap .i64 (IntKind.wrap .i64 ((k:Int)-(a:Int))+(n:Int))) (n:Int)=((cV n a k:Nat):Int):=by
 simp only [BIG] at hn
 rw [w64 (n:=(k:Int)-(a:Int)) (by omega) (by omega),w64 (by omega) (by omega),show (k:Int)-(a:Int)+(n:Int)=((k+n-a:Nat):Int) from by omega,← Int.ofNat_tmod]
 congr 1
 unfold cV
 split
 ·rw [show k+n-a=k-a+n from by omega,Nat.add_mod_right,Nat.mod_eq_of_lt (by omega)]
 ·rw [Nat.mod_eq_of_lt (by omega)]
theorem oM {n k:Nat}(hk:k<n) (hn:n<=BIG):Int.tmod (IntKind.wrap .i64 ((k:Int)+1)) (n:Int)=(((k+1) % n:Nat):Int):=by
 simp only [BIG] at hn
 rw [w64 (by omega) (by omega),show (k:Int)+1=((k+1:Nat):Int) from by omega,← Int.ofNat_tmod]
theorem ig (h:H) (l:Nat) (o:Obj):bI (·=l) h (put h l o):=⟨by simp [put],fun b hb hn=>by
 unfold put
 rw [Array.getElem?_setIfInBounds_ne (fun e=>hn e.symm)]⟩
theorem qV {h:H}{l:Nat}{o o':Obj}(hl:h[l]?=some o'):(put h l o)[l]?=some o:=by
 have:=(Array.getElem?_eq_some_iff.1 hl).1
 unfold put
 rw [Array.getElem?_setIfInBounds_self_of_lt this]
theorem sN:∀ {E L:List Nat},E.Nodup->(∀ e∈E,e∈L)->E.length<=L.length
 | [],L,_,_=>Nat.zero_le _
 | e :: E,L,h,hs=>by
  rw [List.nodup_cons] at h
  have he:=hs e (by simp)
  have:=sN (E:=E) (L:=L.erase e) h.2 fun x hx=>(List.mem_erase_of_ne (show x≠e from fun hxe=>h.1 (by rw [← hxe];exact hx))).2 (hs x (by simp [hx]))
  rw [List.length_erase_of_mem he] at this
  have hpos:0<L.length:=List.length_pos_of_mem he
  simp only [List.length_cons];omega
structure KG (h:H) (o b:Nat) (M D:List (ByteArray×Value)) (h':H):Prop where
 ext:Ext h h'
 box:∃ s:Sl,Blk h' o #[s.enc] dE∧aU h' s 9 1 ((D.map (·.1)).flatMap cT)∧∀ n,s.blk=some n->o+4<=n
 dfr:h'[o+1]?=some (.deferred (some []))
 it:ItH h' (o+3) b M D
 size:o+3<h'.size
theorem KG.only {h h' h'':H}{o b:Nat}{M D:List (ByteArray×Value)}(k:KG h o b M D h') (ho:h.size<=o) (hb:b<o) (e:bI (·=o+2) h' h''):KG h o b M D h'':=by
 obtain ⟨s,s1,s2,s3⟩:=k.box
 exact ⟨k.ext.step e fun n hn hf=>by omega,⟨s,e.block s1 (by omega),s2.only e fun n hn hf=>by have:=s3 n hn;omega,s3⟩,e.block k.dfr (by omega),k.it.only e (by omega) (by omega),by have:=k.size;have:=e.size;omega⟩
theorem BL {M:List (ByteArray×Value)}{k:ByteArray}{v:Value}(h:k∉M.map (·.1)):ww M k v=M ++ [(k,v)]:=by
 unfold ww
 have:(M.findIdx? fun p=>k == p.1)=none:=by
  rw [List.findIdx?_eq_none_iff]
  intro p hp
  exact wV fun e=>h (List.mem_map.2 ⟨p,hp,e.symm⟩)
 rw [this]
theorem gm {M:List (ByteArray×Value)}{k:ByteArray}{v:Value}(hn:(M.map (·.1)).Nodup) (h:(k,v)∈M):dI M k=some v:=by
 induction M with
 | nil=>cases h
 | cons p M ih =>
  rw [List.map_cons,List.nodup_cons] at hn
  unfold dI
  rw [List.find?_cons]
  rcases List.mem_cons.1 h with rfl | h
  ·simp [kG]
  ·have:¬ k=p.1:=fun e=>hn.1 (List.mem_map.2 ⟨(k,v),h,e⟩)
   rw [wV this]
   exact ih hn.2 h
theorem rh {A B:List ByteArray}(h:A.Perm B):ii A=ii B:=by
 unfold ii
 rw [show ((A.map fun s=>s.data.toList).mergeSort fun x y=>decide (x<=y))=((B.map fun s=>s.data.toList).mergeSort fun x y=>decide (x<=y)) from mergeSort_of_perm (h.map _)]
theorem yQ {A:List ByteArray}{k:ByteArray}:k∈ii A↔k∈A:=by
 unfold ii
 rw [List.mem_map]
 constructor
 ·rintro ⟨l,hl,rfl⟩
  have:=(List.mergeSort_perm _ _).mem_iff.1 hl
  obtain ⟨s,hs,rfl⟩:=List.mem_map.1 this
  simpa using hs
 ·intro h
  exact ⟨k.data.toList,(List.mergeSort_perm _ _).mem_iff.2 (List.mem_map.2 ⟨k,h,rfl⟩),by simp⟩
def SQF (ka ma b:Nat) (r:Sl) (n:Nat):Prop:=n=ka∨n=ma∨n=b∨r.blk=some n
end Go.Proofs.YtjjchpaomgmmdaaGreat.V
namespace Go.Proofs.YtjjchpaomgmmdaaGreat.V.P
open Go Go.Proofs.YtjjchpaomgmmdaaGreat.V
set_option linter.unusedVariables false
set_option linter.unusedSimpArgs false
set_option maxRecDepth 20000
abbrev iv:Option Addr:=none
abbrev cP (p:Pl (Option Addr)):List Value:=[.int .u8 (p.is_:Int),.string p.key,.pointer p.value]
theorem gD (p:Pl (Option Addr)):(cP p).length=3:=rfl
theorem sw {h:H}{s:Sl}{α:Type}{R:List (Pl α)}{key:ByteArray}{Q:Int->H->Prop}(hs:s.len=R.length) (h0:0<R.length) (hb:R.length<=BIG) (hk:i3 key) (k:∀ h',Ext h h'->Q ((fb R key:Nat):Int) h'):F.xdz s key h Q:=by
 unfold F.xdz
 refine rO hk fun h1 e1=>?_
 have hw:IntKind.wrap .u64 (s.len:Int)=((R.length:Nat):Int):=by rw [cg,hs];simp only [BIG] at hb;omega
 rw [hw]
 refine ⟨by omega,?_⟩
 rw [← Int.ofNat_tmod]
 have hl:=kS (R:=R) (key:=key) h0
 unfold fb at hl
 rw [w64 (by omega) (by simp only [BIG] at hb;omega)]
 exact k h1 e1
theorem qU {h:H}{s:Sl}{R:List (Pl (Option Addr))}{key:ByteArray}{Q:Int->Bool->H->Prop}(rd:bS h s 3 (R.flatMap cP)) (hb:R.length<=BIG) :
  ∀ (f i:Nat) (r:Nat×Bool),kx R key f i=some r->Q ((r.1:Nat):Int) r.2 h->F.xaj.l1 Q f s key (i:Int) h
 | 0,i,r,hp,k=>by cases hp
 | f+1,i,r,hp,k=>by
  unfold kx at hp
  unfold F.xaj.l1
  have hlen:=cz gD (by omega) rd
  cases hpi:R[i]? with
  | none=>rw [hpi] at hp;cases hp
  | some p =>
   have hi:=(List.getElem?_eq_some_iff.1 hpi).1
   rw [hpi] at hp
   simp only at hp
   obtain ⟨a,q1,q2,q3⟩:=gw gD (by omega) rd hpi
   have c0:=q3 0 _ rfl
   have c1:=q3 1 _ rfl
   refine dK q1 (by omega) rfl ?_
   rw [bA c0]
   simp only [bne_iff_ne,ne_eq,bne_eq_false_iff_eq,beq_iff_eq,beq_eq_false_iff_ne]
   by_cases h0:p.is_=0
   ·rw [if_pos h0] at hp
    cases hp
    exact ⟨fun g=>absurd (by omega) g,fun _=>k⟩
   ·rw [if_neg h0] at hp
    refine ⟨fun _=>?_,fun g=>absurd g (by omega)⟩
    refine dK q1 (by omega) rfl ?_
    rw [bA c0]
    have next:∀ (x:Bool),¬ (x=true)->¬ (p.is_=1∧kL p.key=kL key)->F.xaj.j3 Q (F.xaj.l1 Q f) s key (i:Int) x h:=fun x hx hn=>by
     rw [if_neg hn] at hp
     unfold F.xaj.j3
     refine ⟨fun g=>absurd g hx,fun _=>?_⟩
     unfold F.xaj.j2
     simp only [BIG] at hb
     refine ⟨by omega,?_⟩
     rw [w64 (by omega) (by omega),hlen,show (i:Int)+1=((i+1:Nat):Int) from by omega,← Int.ofNat_tmod]
     exact qU rd hb f _ r hp k
    refine ⟨fun g=>?_,fun g=>?_⟩
    ·refine dK q1 (by omega) rfl ?_
     rw [eP c1,dF,dF]
     by_cases hk:kL p.key=kL key
     ·rw [if_pos ⟨by omega,hk⟩] at hp
      cases hp
      rw [show (p.key.data.toList == key.data.toList)=true from by simpa using hk]
      exact ⟨fun _=>k,fun h=>by cases h⟩
     ·rw [show (p.key.data.toList == key.data.toList)=false from by simpa using hk]
      exact next _ (by simp) fun h=>hk h.2
    ·exact next _ (by simp) fun h=>g (by omega)
theorem jo {h:H}{s:Sl}{R:List (Pl (Option Addr))}{key:ByteArray}{Q:Int->Bool->H->Prop}{r:Nat×Bool}(rd:bS h s 3 (R.flatMap cP)) (hb:R.length<=BIG) (hk:i3 key) (hf:fB R key=some r) (k:∀ h',Ext h h'->Q ((r.1:Nat):Int) r.2 h'):F.xaj s key h Q:=by
 unfold F.xaj
 unfold fB at hf
 have hlen:=cz gD (by omega) rd
 simp only [beq_iff_eq,beq_eq_false_iff_ne]
 by_cases h0:R.length=0
 ·rw [if_pos h0] at hf
  cases hf
  exact ⟨fun _=>k h (.refl _),fun g=>absurd (by omega) g⟩
 ·rw [if_neg h0] at hf
  refine ⟨fun g=>absurd g (by omega),fun _=>?_⟩
  refine sw (R:=R) hlen (by omega) hb hk fun h1 e1=>?_
  exact ⟨R.length+1,qU (rd.ext e1) hb _ _ r hf (k h1 e1)⟩
structure TH (h:H) (n:Nat) (rs es:Sl) (T:Tb (Option Addr)):Prop where
 tb:Blk h n #[rs.enc,es.enc,.int .i64 (T.moved:Int),.int .i64 (T.count:Int)] cD
 row:aU h rs bq 3 (T.row.flatMap cP)
 el:aU h es bq 3 (T.elder.flatMap cP)
 ne:∀ b,rs.blk=some b->es.blk≠some b
 kr:KB T.row
 ke:KB T.elder
 pos:T.row≠[]
 br:T.row.length<=BIG
 be:T.elder.length<=BIG
 bc:T.count<=BIG
 bm:T.moved<=T.elder.length
section
variable {h h':H}{n:Nat}{rs es:Sl}{T:Tb (Option Addr)}
theorem TH.c0 (t:TH h n rs es T):aA h ⟨n,0,none⟩=some rs.enc:=t.tb.cell rfl
theorem TH.c1 (t:TH h n rs es T):aA h ⟨n,1,none⟩=some es.enc:=t.tb.cell rfl
theorem TH.c2 (t:TH h n rs es T):aA h ⟨n,2,none⟩=some (.int .i64 (T.moved:Int)):=t.tb.cell rfl
theorem TH.c3 (t:TH h n rs es T):aA h ⟨n,3,none⟩=some (.int .i64 (T.count:Int)):=t.tb.cell rfl
theorem TH.nr (t:TH h n rs es T):∀ b,rs.blk=some b->b≠n:=fun b hb=>(t.row.typ hb).ne ⟨_,t.tb⟩ (by decide)
theorem TH.nel (t:TH h n rs es T):∀ b,es.blk=some b->b≠n:=fun b hb=>(t.el.typ hb).ne ⟨_,t.tb⟩ (by decide)
theorem TH.rlen (t:TH h n rs es T):rs.len=T.row.length:=bH gD (by omega) t.row
theorem TH.elen (t:TH h n rs es T):es.len=T.elder.length:=bH gD (by omega) t.el
theorem TH.lt (t:TH h n rs es T):∀ b,FT n rs es b->b<h.size:=fun b hb=>by
 rcases hb with rfl | hb | hb
 ·exact dx t.tb
 ·exact t.row.blk_lt hb
 ·exact t.el.blk_lt hb
theorem TH.only (t:TH h n rs es T){S:Nat->Prop}(o:bI S h h') (hn:∀ b,FT n rs es b->¬ S b):TH h' n rs es T:=
 ⟨o.block t.tb (hn n (.inl rfl)),t.row.only o fun b hb=>hn b (.inr (.inl hb)),t.el.only o fun b hb=>hn b (.inr (.inr hb)),t.ne,t.kr,t.ke,t.pos,t.br,t.be,t.bc,t.bm⟩
theorem TH.ext (t:TH h n rs es T) (e:Ext h h'):TH h' n rs es T:=t.only e fun _ _ f=>f
theorem TH.set_row (t:TH h n rs es T){i b:Nat}{p:Pl (Option Addr)}{K:H->Prop}(hp:rs.ptr=some ⟨b,0,none⟩) (hi:i<T.row.length) (hk:i3 p.key)
  (k:∀ h',TH h' n rs es { T with row:=T.row.set i p }->Stp h n rs es h' rs es->K h'):stH h ⟨b,i*3,none⟩ (cP p) K:=
 ix gD t.row hp hi fun h1 o1 e1 _=>k h1 ⟨e1.block t.tb fun hb=>t.nr _ hb rfl,o1,t.el.only e1 fun b' hb hb'=>t.ne b' hb' hb,t.ne,t.kr.set hk,t.ke,by
  have:=t.pos;intro hnil;exact this (by simpa using hnil),by simpa using t.br,t.be,t.bc,t.bm⟩ ⟨e1.mono fun b' _ hb=>.inr (.inl hb),fun b' hb=>.inl hb⟩
theorem TH.set_el (t:TH h n rs es T){i b:Nat}{p:Pl (Option Addr)}{K:H->Prop}(hp:es.ptr=some ⟨b,0,none⟩) (hi:i<T.elder.length) (hk:i3 p.key)
  (k:∀ h',TH h' n rs es { T with elder:=T.elder.set i p }->Stp h n rs es h' rs es->K h'):stH h ⟨b,i*3,none⟩ (cP p) K:=
 ix gD t.el hp hi fun h1 o1 e1 _=>k h1 ⟨e1.block t.tb fun hb=>t.nel _ hb rfl,t.row.only e1 fun b' hb hb'=>t.ne b' hb hb',o1,t.ne,t.kr,t.ke.set hk,t.pos,t.br,by simpa using t.be,t.bc,by simpa using t.bm⟩ ⟨e1.mono fun b' _ hb=>.inr (.inr hb),fun b' hb=>.inl hb⟩
theorem TH.row_at (t:TH h n rs es T){i:Nat}{p:Pl (Option Addr)}(hp:T.row[i]?=some p):∃ b,rs.ptr=some ⟨b,0,none⟩∧Cells h ⟨b,i*3,none⟩ (cP p):=jz gD (by omega) t.row hp
theorem TH.el_at (t:TH h n rs es T){i:Nat}{p:Pl (Option Addr)}(hp:T.elder[i]?=some p):∃ b,es.ptr=some ⟨b,0,none⟩∧Cells h ⟨b,i*3,none⟩ (cP p):=jz gD (by omega) t.el hp
theorem TH.stn (t:TH h n rs es T){j:Nat}{v:Value}{K:H->Prop}(hj:j<4)
  (k:∀ h',Blk h' n ((#[rs.enc,es.enc,.int .i64 (T.moved:Int),.int .i64 (T.count:Int)]:Array Value).setIfInBounds j v) cD->bI (·=n) h h'->aU h' rs bq 3 (T.row.flatMap cP)->aU h' es bq 3 (T.elder.flatMap cP)->K h'):stH h ⟨n,j,none⟩ [v] K:=
 cC t.tb (by show j+1<=4;omega) fun h1 b1 e1 _=>k h1 b1 e1 (t.row.only e1 fun b hb hn=>t.nr b hb hn) (t.el.only e1 fun b hb hn=>t.nel b hb hn)
theorem TH.st_moved (t:TH h n rs es T){m:Nat}{x:Int}{K:H->Prop}(hx:x=(m:Int)) (hm:m<=T.elder.length) (k:∀ h',TH h' n rs es { T with moved:=m }->Stp h n rs es h' rs es->K h'):stH h ⟨n,2,none⟩ [.int .i64 x] K:=by
 subst hx
 exact t.stn (by omega) fun h1 b1 e1 o1 o2=>k h1 ⟨b1,o1,o2,t.ne,t.kr,t.ke,t.pos,t.br,t.be,t.bc,hm⟩ ⟨e1.mono fun b _ hb=>.inl hb,fun b hb=>.inl hb⟩
theorem TH.st_count (t:TH h n rs es T){m:Nat}{x:Int}{K:H->Prop}(hx:x=(m:Int)) (hm:m<=BIG) (k:∀ h',TH h' n rs es { T with count:=m }->Stp h n rs es h' rs es->K h'):stH h ⟨n,3,none⟩ [.int .i64 x] K:=by
 subst hx
 exact t.stn (by omega) fun h1 b1 e1 o1 o2=>k h1 ⟨b1,o1,o2,t.ne,t.kr,t.ke,t.pos,t.br,t.be,hm,t.bm⟩ ⟨e1.mono fun b _ hb=>.inl hb,fun b hb=>.inl hb⟩
theorem rP (t:TH h n rs es T){Q:Int->H->Prop}(k:Q ((dd T:Nat):Int) h):F.xfd (some ⟨n,0,none⟩) h Q:=by
 unfold F.xfd
 simp only [aZ,aC,Nat.zero_add]
 rw [bj t.c1,bA t.c2,t.elen]
 have:=t.bm
 have:=t.be
 simp only [BIG] at this
 rw [w64 (by omega) (by omega)]
 rw [show ((dd T:Nat):Int)=(T.elder.length:Int)-(T.moved:Int) from by unfold dd;omega] at k
 exact k
end
theorem rQ {n:Nat}{Q:Int->H->Prop}:∀ (m:Nat) (h:H) (rs es:Sl) (T T1:Tb (Option Addr)) (x1:Int),TH h n rs es T->pl iv x1.toNat T=some T1->x1<9223372036854775808->x1.toNat<m ->
  (∀ h' es',TH h' n rs es' (lB T1)->Stp h n rs es h' rs es'->Q ((dd (lB T1):Nat):Int) h')->F.xag.l1 Q m (some ⟨n,0,none⟩) x1 h
 | 0,h,rs,es,T,T1,x1,t,hm,hx,hf,k=>by omega
 | m+1,h,rs,es,T,T1,x1,t,hm,hx,hf,k=>by
  unfold F.xag.l1
  simp only [aZ,aC,Nat.zero_add]
  rw [bA t.c2,bj t.c1,t.elen]
  have hbe:=t.be
  simp only [BIG] at hbe
  have stop:∀ C1,T1=T->F.xag.j5 Q C1 (some ⟨n,0,none⟩) x1 false h:=fun C1 e=>by
   subst e
   unfold F.xag.j5
   refine ⟨(fun h=>by cases h),fun _=>?_⟩
   simp only [aZ,aC,Nat.zero_add]
   rw [bA t.c2,bj t.c1,t.elen]
   simp only [beq_iff_eq,beq_eq_false_iff_ne]
   unfold F.xag.j6
   refine ⟨fun g=>?_,fun g=>?_⟩
   ·refine t.stn (by omega) fun h1 b1 e1 o1 o2=>?_
    have hfin:lB T1=⟨T1.row,[],0,T1.count⟩:=by unfold lB;rw [if_pos (by omega)]
    refine cC b1 (by simp) fun h2 b2 e2 _=>?_
    have t2:TH h2 n rs ⟨none,0,0⟩ (lB T1):=by
     rw [hfin]
     exact ⟨b2,o1.only e2 fun b hb hn=>t.nr b hb hn,aU.nil _ _ _,fun b hb=>by simp [Sl.blk],t.kr,fun i p hi=>by simp at hi,t.pos,t.br,by simp,t.bc,by simp⟩
    have s2:Stp h n rs es h2 rs ⟨none,0,0⟩:=⟨(e1.mono fun b _ hb=>.inl hb).trans (e2.mono fun b _ hb=>.inl hb) fun _ _ hb=>hb,fun b hb=>by
     rcases hb with hb | hb | hb
     ·exact .inl (.inl hb)
     ·exact .inl (.inr (.inl hb))
     ·simp [Sl.blk] at hb⟩
    exact rP t2 (k h2 _ t2 s2)
   ·have hfin:lB T1=T1:=by unfold lB;rw [if_neg (by omega)]
    have t2:TH h n rs es (lB T1):=by rw [hfin];exact t
    exact rP t2 (k h _ t2 (.refl _ _ _ _))
  by_cases hx0:x1 > 0
  ·refine ⟨fun _=>?_,fun g=>by simp at g;omega⟩
   obtain ⟨c,hc⟩:∃ c,x1.toNat=c+1:=⟨x1.toNat-1,by omega⟩
   rw [hc] at hm
   unfold pl at hm
   by_cases hlt:T.moved<T.elder.length
   ·rw [if_pos hlt] at hm
    rw [show decide ((T.moved:Int)<(T.elder.length:Int))=true from by simpa using hlt]
    unfold F.xag.j5
    refine ⟨fun _=>?_,fun h=>by cases h⟩
    unfold F.xag.j2
    simp only [aZ,aC,Nat.zero_add]
    obtain ⟨p,hp⟩:∃ p,T.elder[T.moved]?=some p:=⟨_,List.getElem?_eq_getElem hlt⟩
    obtain ⟨be,q1,q2⟩:=t.el_at hp
    have step:∀ (h1:H) (T2:Tb (Option Addr)),TH h1 n rs es T2->Stp h n rs es h1 rs es->T2.moved=T.moved->T2.elder.length=T.elder.length->pl iv c { T2 with moved:=T2.moved+1 }=some T1->F.xag.j4 Q (F.xag.l1 Q m) (some ⟨n,0,none⟩) x1 h1:=fun h1 T2 t2 s2 em el hm2=>by
     unfold F.xag.j4
     simp only [aZ,aC,Nat.zero_add]
     rw [bA t2.c2]
     refine t2.st_moved (m:=T2.moved+1) (by rw [w64 (by omega) (by omega)];omega) (by omega) fun h2 t3 s3=>?_
     unfold F.xag.j3
     rw [w64 (by omega) (by omega)]
     refine rQ m h2 rs es _ T1 (x1-1) t3 ?_ (by omega) (by omega) fun h' es' t4 s4=>k h' es' t4 ((s2.trans s3).trans s4)
     rw [show (x1-1).toNat=c from by omega]
     exact hm2
    rw [bj t.c1,bA t.c2]
    refine cl q1 (by rw [t.elen];exact hlt) rfl ?_
    have c0:=q2 0 _ rfl
    have c1:=q2 1 _ rfl
    rw [bA c0]
    unfold xt at hm
    rw [hp] at hm
    simp only at hm
    simp only [beq_iff_eq,beq_eq_false_iff_ne]
    by_cases h1:p.is_=1
    ·rw [if_pos h1] at hm
     refine ⟨fun _=>?_,fun g=>absurd (by omega) g⟩
     cases hfr:fB T.row p.key with
     | none=>rw [hfr] at hm;cases hm
     | some r =>
      rw [hfr] at hm
      simp only at hm
      rw [bj t.c0,eP c1]
      refine jo t.row.reads t.br (t.ke _ p hp) hfr fun h1 e1=>?_
      have t1:=t.ext e1
      rw [bj t1.c0]
      have q3:Cells h1 ⟨be,T.moved*3,none⟩ (cP p):=q2.ext e1
      refine ⟨⟨(p.is_:Int),p.key,p.value⟩,q3,?_⟩
      have hr:=xh t.pos hfr
      obtain ⟨br,u1,_⟩:=t1.row_at (List.getElem?_eq_getElem hr)
      refine cl u1 (by rw [t.rlen];exact hr) rfl ?_
      refine t1.set_row u1 hr (t.ke _ p hp) fun h2 t2 s2=>?_
      refine t2.set_el (p:=eE iv) (i:=T.moved) q1 hlt (by show (0:Nat)<=_;decide) fun h3 t3 s3=>?_
      exact step h3 _ t3 ((Stp.of_ext e1).trans (s2.trans s3)) rfl (by simp) hm
    ·rw [if_neg h1] at hm
     refine ⟨fun g=>absurd (by omega) h1,fun _=>?_⟩
     exact step h T t (.refl _ _ _ _) rfl rfl hm
   ·rw [if_neg hlt] at hm
    rw [show decide ((T.moved:Int)<(T.elder.length:Int))=false from by simpa using hlt]
    exact stop _ (Option.some.inj hm).symm
  ·refine ⟨fun g=>by simp at g;omega,fun _=>stop _ ?_⟩
   rw [show x1.toNat=0 from by omega] at hm
   exact (Option.some.inj hm).symm
theorem n9 {h:H}{n:Nat}{rs es:Sl}{T T':Tb (Option Addr)}{x:Int}{Q:Int->H->Prop}(t:TH h n rs es T) (hm:qM iv T x=some T') (hx:x<9223372036854775808)
  (k:∀ h' es',TH h' n rs es' T'->Stp h n rs es h' rs es'->Q ((dd T':Nat):Int) h'):F.xag (some ⟨n,0,none⟩) x h Q:=by
 unfold qM at hm
 cases h1:pl iv x.toNat T with
 | none=>rw [h1] at hm;cases hm
 | some T1 =>
  rw [h1] at hm
  cases hm
  exact ⟨x.toNat+1,rQ _ h rs es T T1 x t h1 hx (by omega) k⟩
theorem elP:El PP ea bq 3 32 (.agg #[.int .u8 0,.string ⟨#[]⟩,.pointer none]):=ga
theorem sI (n:Nat):(madeCells (Value.agg #[.int .u8 0,.string ⟨#[]⟩,.pointer none]).cells (n*3)).toList=(List.replicate n (eD iv)).flatMap cP:=by
 have:=DW (.int .u8 0) (.string ⟨#[]⟩) (.pointer none) n
 rw [List.flatMap,List.map_replicate]
 exact this
theorem KB.repl (n:Nat):KB (List.replicate n (eD iv)):=fun i p hp=>by
 obtain ⟨rfl,_⟩:=iT hp
 show (0:Nat)<=_;omega
theorem lu {h:H}{Q:Option Addr->H->Prop}(k:∀ h' n rs,TH h' n rs ⟨none,0,0⟩ (lm iv)->Ext h h'->(∀ b,FT n rs ⟨none,0,0⟩ b->h.size<=b)->Q (some ⟨n,0,none⟩) h'):F.xeo h Q:=by
 unfold F.xeo
 refine nF (n:=8) elP (by omega) (by simp [maxLen]) fun b h1 hb o1 e1=>?_
 rw [sI] at o1
 refine aN fun n h2 hn b2 e2 _=>?_
 refine k h2 n _ ⟨b2,o1.ext e2,aU.nil _ _ _,fun b hb=>by simp [Sl.blk],KB.repl 8,KB.nil,by simp [lm],by simp [lm,BIG],by simp [lm],by simp [lm],by simp [lm]⟩ (e1.trans e2) fun b' hb'=>?_
 rcases hb' with h1 | h1 | h1
 ·have:=e1.size;omega
 ·simp [Sl.blk] at h1;omega
 ·simp [Sl.blk] at h1
section
variable {h:H}{n:Nat}{rs es:Sl}{T:Tb (Option Addr)}{key:ByteArray}
theorem rx {Q:Option Addr->H->Prop}(t:TH h n rs es T) (ok:TOk T) (hk:i3 key)
  (k1:∀ h' i b,Ext h h'->Hit T.row key i->rs.ptr=some ⟨b,0,none⟩->Q (some ⟨b,i*3,none⟩) h')
  (k2:∀ h' i b,Ext h h'->Hit T.elder key i->(∀ j,¬ Hit T.row key j)->es.ptr=some ⟨b,0,none⟩->Q (some ⟨b,i*3,none⟩) h')
  (k3:∀ h',Ext h h'->(∀ j,¬ Hit T.row key j)->(∀ j,¬ Hit T.elder key j)->Q none h'):F.xea (some ⟨n,0,none⟩) key h Q:=by
 unfold F.xea
 simp only [aZ,aC,Nat.zero_add]
 rw [bj t.c0]
 have w:=rv ok key
 unfold jX at w
 cases hf:fB T.row key with
 | none=>rw [hf] at w;rcases w with ⟨i,w,_⟩ | ⟨i,w,_⟩ | ⟨w,_⟩ <;> cases w
 | some r =>
  rw [hf] at w
  obtain ⟨i,b⟩:=r
  refine jo t.row.reads t.br hk hf fun h1 e1=>?_
  have t1:=t.ext e1
  rw [bj t1.c0,bj t1.c1]
  cases b with
  | true =>
   refine ⟨fun _=>?_,fun h=>by cases h⟩
   rcases w with ⟨j,w,wh⟩ | ⟨j,w,_⟩ | ⟨w,_⟩
   ·simp at w;subst w
    obtain ⟨p,hp,_⟩:=id wh
    obtain ⟨b,u1,_⟩:=t1.row_at hp
    exact cl u1 (by rw [t.rlen];exact wh.lt) rfl (k1 h1 _ b e1 wh u1)
   ·cases w
   ·cases w
  | false =>
   refine ⟨fun h=>(by cases h),fun _=>?_⟩
   simp only at w
   cases hg:fB T.elder key with
   | none=>rw [hg] at w;rcases w with ⟨i,w,_⟩ | ⟨i,w,_⟩ | ⟨w,_⟩ <;> cases w
   | some r =>
    rw [hg] at w
    obtain ⟨i,b⟩:=r
    refine jo t1.el.reads t.be hk hg fun h2 e2=>?_
    have t2:=t1.ext e2
    rw [bj t2.c1]
    cases b with
    | true =>
     refine ⟨fun _=>?_,fun h=>by cases h⟩
     rcases w with ⟨j,w,_⟩ | ⟨j,w,wh,wn⟩ | ⟨w,_⟩
     ·simp at w
     ·simp at w;subst w
      obtain ⟨p,hp,_⟩:=id wh
      obtain ⟨b,u1,_⟩:=t2.el_at hp
      exact cl u1 (by rw [t.elen];exact wh.lt) rfl (k2 h2 _ b (e1.trans e2) wh wn u1)
     ·cases w
    | false =>
     refine ⟨fun h=>(by cases h),fun _=>?_⟩
     rcases w with ⟨j,w,_⟩ | ⟨j,w,_⟩ | ⟨w,w1,w2⟩
     ·simp at w
     ·simp at w
     ·exact k3 h2 (e1.trans e2) w1 w2
theorem mX {Q:Option Addr->Bool->H->Prop}(t:TH h n rs es T) (ok:TOk T) (hk:i3 key) (k:∀ h',Ext h h'->Q ((dO T key).getD iv) (dO T key).isSome h'):F.xdy (some ⟨n,0,none⟩) key h Q:=by
 unfold F.xdy
 refine rx t ok hk (fun h1 i b e1 hh hb=>?_) (fun h1 i b e1 hh hn hb=>?_) (fun h1 e1 hn hne=>?_)
 ·obtain ⟨p,g1,g2,g3⟩:=hh
  obtain ⟨b',u1,u2⟩:=(t.ext e1).row_at g1
  rw [hb] at u1;cases u1
  refine ⟨fun _=>?_,fun h=>by cases h⟩
  rw [aZ,gB (u2 2 _ rfl)]
  have:=k h1 e1
  rw [nA ok g1 g2 g3] at this
  exact this
 ·obtain ⟨p,g1,g2,g3⟩:=hh
  obtain ⟨b',u1,u2⟩:=(t.ext e1).el_at g1
  rw [hb] at u1;cases u1
  refine ⟨fun _=>?_,fun h=>by cases h⟩
  rw [aZ,gB (u2 2 _ rfl)]
  have:=k h1 e1
  rw [lZ ok hn g1 g2 g3] at this
  exact this
 ·refine ⟨fun h=>(by cases h),fun _=>?_⟩
  have:=k h1 e1
  rw [lG hn hne] at this
  exact this
theorem AM {f:List (Pl (Option Addr))}{s:Sl}{i b:Nat}{p:Pl (Option Addr)}{v:Option Addr}{K:H->Prop}(ow:aU h s bq 3 (f.flatMap cP)) (hp:s.ptr=some ⟨b,0,none⟩) (hi:f[i]?=some p)
  (k:∀ h',aU h' s bq 3 ((tS f i v).flatMap cP)->bI (fun b=>s.blk=some b) h h'->K h'):stH h ⟨b,i*3+2,none⟩ [.pointer v] K:=by
 have hl:=(List.getElem?_eq_some_iff.1 hi).1
 refine pY ow hp (by rw [cq cP 3 gD];simp;omega) fun h1 o1 e1 _=>k h1 ?_ e1
 have ha:=gV cP 3 gD f i p hi 0 (by omega)
 have hb:=gV cP 3 gD f i p hi 1 (by omega)
 rw [Et (v:=.pointer v) ha hb] at o1
 rw [tT hi,qB cP 3 gD f i ⟨p.is_,p.key,v⟩ hl]
 exact o1
theorem nH {f:List (Pl (Option Addr))}{i:Nat}{v:Option Addr}:(tS f i v).length=f.length:=by unfold tS;split <;> simp
theorem xu {f:List (Pl (Option Addr))}{i:Nat}{v:Option Addr}(k:KB f):KB (tS f i v):=by
 unfold tS
 split
 ·exact k
 ·rename_i p hp;exact k.set (k i p hp)
theorem lH {v:Option Addr}{T':Tb (Option Addr)}{Q:H->Prop}(t:TH h n rs es T) (hk:i3 key) (hl:wg T key v=some T') (hc:T'.count<=BIG) (k:∀ h',TH h' n rs es T'->Stp h n rs es h' rs es->Q h'):F.xcs.j1 Q (some ⟨n,0,none⟩) key v h:=by
 unfold F.xcs.j1
 unfold wg at hl
 simp only [aZ,aC,Nat.zero_add]
 rw [bj t.c0]
 cases hf:fB T.row key with
 | none=>rw [hf] at hl;cases hl
 | some r =>
  rw [hf] at hl
  cases hl
  refine jo t.row.reads t.br hk hf fun h1 e1=>?_
  have t1:=t.ext e1
  rw [bj t1.c0]
  have hr:=xh t.pos hf
  obtain ⟨br,u1,_⟩:=t1.row_at (List.getElem?_eq_getElem hr)
  refine cl u1 (by rw [t.rlen];exact hr) rfl ?_
  refine t1.set_row (p:=⟨1,key,v⟩) u1 hr hk fun h2 t2 s2=>?_
  rw [bA t2.c3]
  have hb:T.count+1<=BIG:=hc
  simp only [BIG] at hb
  refine t2.st_count (m:=T.count+1) (by show IntKind.wrap .i64 ((T.count:Int)+1)=_;rw [w64 (by omega) (by omega)];omega) hc fun h3 t3 s3=>?_
  exact k h3 t3 (((Stp.of_ext e1).trans s2).trans s3)
theorem jY {v:Option Addr}{T':Tb (Option Addr)}{Q:H->Prop}(t:TH h n rs es T) (ok:TOk T) (hk:i3 key) (hp:BK iv T key v=some T') (hb:T'.row.length<=BIG) (hc:T'.count<=BIG)
  (k:∀ h' rs' es',TH h' n rs' es' T'->Stp h n rs es h' rs' es'->Q h'):F.xcs (some ⟨n,0,none⟩) key v h Q:=by
 unfold F.xcs
 obtain ⟨T1,m1,ok1,m3,m4,m5,m6,m7⟩:=mf (z:=iv) ok 4
 unfold BK at hp
 rw [m1] at hp
 simp only at hp
 unfold xC at hp
 have w:=rv ok1 key
 refine n9 t m1 (by omega) fun h1 es1 t1 s1=>?_
 refine rx t1 ok1 hk (fun h2 i b e2 hh hb2=>?_) (fun h2 i b e2 hh hn hb2=>?_) (fun h2 e2 hn hne=>?_)
 ·refine ⟨fun _=>?_,fun h=>by cases h⟩
  rw [aZ]
  have hw:jX T1 key=some (some (false,i)):=by
   unfold jX;rw [ok1.row.hit hh]
  rw [hw] at hp
  simp only at hp
  cases hp
  obtain ⟨p,g1,g2,g3⟩:=hh
  have t2:=t1.ext e2
  refine AM t2.row hb2 g1 fun h3 o3 e3=>?_
  exact k h3 _ _ ⟨e3.block t2.tb fun hb=>t2.nr _ hb rfl,o3,t2.el.only e3 fun b' hb hb'=>t2.ne b' hb' hb,t2.ne,xu t2.kr,t2.ke,by
   intro hnil
   have:=congrArg List.length hnil
   rw [nH] at this
   exact t2.pos (List.eq_nil_of_length_eq_zero this),by rw [nH];exact t2.br,t2.be,t2.bc,t2.bm⟩ ((s1.ext e2).trans ⟨e3.mono fun b' _ hb=>.inr (.inl hb),fun b' hb=>.inl hb⟩)
 ·refine ⟨fun _=>?_,fun h=>by cases h⟩
  rw [aZ]
  have hw:jX T1 key=some (some (true,i)):=by
   rcases w with ⟨j,w,wh⟩ | ⟨j,w,wh,_⟩ | ⟨w,_,wn⟩
   ·exact absurd wh (hn j)
   ·obtain ⟨p,a1,a2,a3⟩:=hh
    obtain ⟨q,b1,b2,b3⟩:=wh
    rw [w,ok1.elder.uniq i j p q a1 b1 a2 b2 (a3.trans b3.symm)]
   ·exact absurd hh (wn i)
  rw [hw] at hp
  simp only at hp
  cases hp
  obtain ⟨p,g1,g2,g3⟩:=hh
  have t2:=t1.ext e2
  refine AM t2.el hb2 g1 fun h3 o3 e3=>?_
  exact k h3 _ _ ⟨e3.block t2.tb fun hb=>t2.nel _ hb rfl,t2.row.only e3 fun b' hb hb'=>t2.ne b' hb hb',o3,t2.ne,t2.kr,xu t2.ke,t2.pos,t2.br,by rw [nH];exact t2.be,t2.bc,by rw [nH];exact t2.bm⟩ ((s1.ext e2).trans ⟨e3.mono fun b' _ hb=>.inr (.inr hb),fun b' hb=>.inl hb⟩)
 ·refine ⟨fun h=>(by cases h),fun _=>?_⟩
  have hw:jX T1 key=some none:=by
   rcases w with ⟨j,w,wh⟩ | ⟨j,w,wh,_⟩ | ⟨w,_,_⟩
   ·exact absurd wh (hn j)
   ·exact absurd wh (hne j)
   ·exact w
  rw [hw] at hp
  simp only at hp
  have t2:=t1.ext e2
  have s2:=s1.ext e2
  simp only [aZ,aC,Nat.zero_add]
  rw [bA t2.c3,bj t2.c0,t2.rlen]
  have hbc:=t1.bc
  have hbr:=t1.br
  simp only [BIG] at hbc hbr
  rw [w64 (n:=(T1.count:Int)+1) (by omega) (by omega),w64 (by omega) (by omega),w64 (by omega) (by omega)]
  simp only [decide_eq_true_eq,decide_eq_false_iff_not]
  by_cases hgr:4*(T1.count+1) > 3*T1.row.length
  ·rw [if_pos hgr] at hp
   refine ⟨fun _=>?_,fun g=>absurd (by omega) g⟩
   rw [bj t2.c1,t2.elen]
   obtain ⟨T2,n1,ok2,n3,n4,n5,n6,n7⟩:=mf (z:=iv) ok1 (T1.elder.length:Int)
   rw [n1] at hp
   simp only at hp
   have hbe:=t1.be
   simp only [BIG] at hbe
   refine n9 t2 n1 (by omega) fun h3 es3 t3 s3=>?_
   rw [bj t3.c0,t3.rlen]
   have hlen2:T'.row.length=2*T2.row.length:=by
    unfold wg at hp
    cases hf:fB (gL iv T2).row key with
    | none=>rw [hf] at hp;cases hp
    | some r=>rw [hf] at hp;cases hp;simp [gL]
   have hb2:2*T2.row.length<=BIG:=by omega
   simp only [BIG] at hb2
   rw [w64 (by omega) (by omega),show 2*(T2.row.length:Int)=((2*T2.row.length:Nat):Int) from by omega,bj t3.c0]
   refine nF (n:=2*T2.row.length) elP (by omega) (by simp only [maxLen];omega) fun b h4 hb4 o4 e4=>?_
   rw [sI] at o4
   have t4:=t3.ext e4
   refine ⟨t4.c0,?_⟩
   have hr3:=fun b' hb=>t3.lt b' (.inr (.inl hb))
   refine t4.stn (by omega) fun h5 b5 e5 p5 q5=>?_
   have o5:aU h5 ⟨some ⟨b,0,none⟩,2*T2.row.length,2*T2.row.length⟩ bq 3 ((List.replicate (2*T2.row.length) (eD iv)).flatMap cP):=o4.only e5 fun b' hb' hn'=>by
    simp [Sl.blk] at hb'
    have:=t3.lt n (.inl rfl)
    omega
   refine cC b5 (by simp) fun h6 b6 e6 _=>?_
   have o6:=o5.only e6 fun b' hb' hn'=>by
    simp [Sl.blk] at hb'
    have:=t3.lt n (.inl rfl)
    omega
   have p6:=p5.only e6 fun b' hb' hn'=>t4.nr b' hb' hn'
   refine cC b6 (by rw [lV];simp) fun h7 b7 e7 _=>?_
   have o7:=o6.only e7 fun b' hb' hn'=>by
    simp [Sl.blk] at hb'
    have:=t3.lt n (.inl rfl)
    omega
   have p7:=p6.only e7 fun b' hb' hn'=>t4.nr b' hb' hn'
   have t7:TH h7 n ⟨some ⟨b,0,none⟩,2*T2.row.length,2*T2.row.length⟩ rs (gL iv T2):=
    ⟨b7,o7,p7,fun b' hb' hb2=>by
     have:=hr3 b' hb2
     simp [Sl.blk] at hb'
     omega,KB.repl _,t3.kr,by
     have:=t3.pos
     intro hnil
     have h0:=congrArg List.length hnil
     have hl0:T2.row.length≠0:=fun e=>this (List.eq_nil_of_length_eq_zero e)
     simp only [gL,List.length_replicate,List.length_nil] at h0
     omega,by simp [gL];omega,t3.br,t3.bc,by simp [gL]⟩
   have s7:Stp h3 n rs es3 h7 ⟨some ⟨b,0,none⟩,2*T2.row.length,2*T2.row.length⟩ rs:=
    ⟨(((e4.only (S:=FT n rs es3)).trans (e5.mono fun b' _ hb=>.inl hb) fun _ _ hb=>hb).trans (e6.mono fun b' _ hb=>.inl hb) fun _ _ hb=>hb).trans (e7.mono fun b' _ hb=>.inl hb) fun _ _ hb=>hb,fun b' hb'=>by
     rcases hb' with h1 | h1 | h1
     ·exact .inl (.inl h1)
     ·simp [Sl.blk] at h1;exact .inr (by omega)
     ·exact .inl (.inr (.inl h1))⟩
   exact lH t7 hk hp hc fun h8 t8 s8=>k h8 _ _ t8 (((s2.trans s3).trans s7).trans s8)
  ·rw [if_neg hgr] at hp
   refine ⟨fun g=>absurd g (by omega),fun _=>?_⟩
   exact lH t2 hk hp hc fun h3 t3 s3=>k h3 _ _ t3 (s2.trans s3)
end
theorem mt {h:H}{o b:Nat}{M:List (ByteArray×Value)}{R:LoopState->Option Code->Obj}{Q:Sl->H->Prop}(ho:h.size<=o) (hb:b<o) (hM:M.length<1073741824) (hv:∀ p∈M,∃ v:Option Addr,p.2=.pointer v)
  (k:∀ (r:Sl) (h':H) (D:List (ByteArray×Value)),D.Perm M->aU h' r 9 1 ((D.map (·.1)).flatMap cT)->Ext h h'->(∀ n,r.blk=some n->h.size<=n)->Q r h')
  (hy:uo PP R (o+2) [] (fun bg1 l1 args h K1 J1=>∃ (y1_7:ByteArray),args=[(.string y1_7)] ∧
   bg1 h fun h3=>ldL h3 ⟨o,0,none⟩ fun y4=>fv h3 #[(.string y1_7)] B1 1 fun s7 h6=>dA PP (Builtin.append_ #[dE,dE] dE #[y4.enc,s7.enc]) h6 fun s9 h8=>stH h8 ⟨o,0,none⟩ [s9.enc] fun h10=>K1 h10)) :
  ∀ (m:Nat) (D:List (ByteArray×Value)) (h':H),KG h o b M D h'->h'[o+2]?=some (R .ready none)->D.length<=M.length->M.length-D.length<m ->
   F.xde.l1 (q9 R (o+2) [] (fun h11=>ldL h11 ⟨o,0,none⟩ fun y12=>lO ((o+1) :: ([]:List Nat)) h11 fun h14=>Q y12 h14) (fun jj h15=>True)) m (.func (.yield (o+2)) #[] #[]) ⟨o+3,0,none⟩ h'
 | 0,D,h',kg,hrd,hl,hm=>by omega
 | m+1,D,h',kg,hrd,hl,hm=>by
  unfold F.xde.l1
  refine Ar kg.it (fun hp=>?_) (fun h5 p it5 hpM e5 sz5 hen=>?_)
  ·refine ⟨false,#[],rfl,(fun h=>by cases h),fun _=>.inl ⟨hrd,?_⟩⟩
   have kg2:=kg.only ho hb (ig h' (o+2) (R .exhausted none))
   obtain ⟨s,s1,s2,s3⟩:=kg2.box
   refine (bj (s1.cell (i:=0) rfl)).2 ?_
   refine ⟨kg2.dfr,?_⟩
   have e6:=ig (put h' (o+2) (R .exhausted none)) (o+1) (.deferred none)
   exact k s _ D hp (s2.only e6 fun n hn hf=>by have:=s3 n hn;omega) (kg2.ext.step e6 fun n hn hf=>by omega) fun n hn=>by have:=s3 n hn;omega
  ·refine ⟨true,#[.string p.1,p.2],rfl,fun _=>?_,fun h=>by cases h⟩
   obtain ⟨v,hpv⟩:=hv p hpM
   refine hen _ ⟨p.1,v,by rw [hpv],?_⟩
   have hrd5:h5[o+2]?=some (R .ready none):=e5.block hrd (by omega)
   refine hy h5 _ _ hrd5 ⟨p.1,rfl,hrd5,?_⟩
   obtain ⟨s,s1,s2,s3⟩:=kg.box
   have ep:=ig h5 (o+2) (R .busy none)
   have s1':Blk (put h5 (o+2) (R .busy none)) o #[s.enc] dE:=ep.block (e5.block s1 (by omega)) (by omega)
   have s2':=(s2.only e5 fun n hn hf=>by have:=s3 n hn;omega).only ep fun n hn hf=>by have:=s3 n hn;omega
   rw [bj (s1'.cell (i:=0) rfl)]
   refine dT fun n6 h6 hn6 b6 e6 _=>?_
   have sz:=kg.size
   have szp:(put h5 (o+2) (R .busy none)).size=h'.size:=by simp [put];omega
   have hDl:(D.map (·.1)).length<1073741824:=by simp;omega
   refine fI (f:=cT) (M:=[p.1]) i4 (by omega) ph (s2'.ext e6) (dB (size:=1) (m:=1) (show Blk h6 n6 (([p.1]:List ByteArray).flatMap cT).toArray 9 from b6) rfl) (fun x=>de rfl) (by simp at hDl ⊢;omega) fun r7 h7 q1 q2 q3=>?_
   have b7:Blk h7 o #[s.enc] dE:=q2.block (e6.block s1' (fun f=>f)) fun e=>by have:=s3 o e;omega
   have hr7:∀ n,r7.blk=some n->o+4<=n:=fun n hn=>by
    rcases q3 with q3 | ⟨b',q3,q4⟩
    ·exact s3 n (by rw [← q3];exact hn)
    ·rw [q3] at hn;cases hn
     have:=e6.size;omega
   refine cC b7 (by simp) fun h8 b8 e8 _=>?_
   rw [cE (by simp)] at b8
   have oall:bI (fun n=>n=o∨n=o+2∨n=o+3∨s.blk=some n) h' h8:=
    (((e5.mono fun n _ e=>.inr (.inr (.inl e))).trans (ep.mono fun n _ e=>.inr (.inl e)) fun _ _ e=>e).trans ((e6.only (S:=fun b=>s.blk=some b)).trans q2 fun _ _ e=>e |> fun x=>x) fun n _ e=>.inr (.inr (.inr e))).trans e8 fun n _ e=>.inl e
   have oit:bI (fun n=>n=o∨n=o+2∨s.blk=some n) h5 h8:=
    ((ep.mono fun n _ e=>.inr (.inl e)).trans ((e6.only (S:=fun b=>s.blk=some b)).trans q2 fun _ _ e=>e |> fun x=>x) fun n _ e=>.inr (.inr e)).trans e8 fun n _ e=>.inl e
   have hrd8:h8[o+2]?=some (R .busy none):=e8.block (q2.block (e6.block (qV hrd5) (fun f=>f)) fun e=>by have:=s3 _ e;omega) (by omega)
   have kg8:KG h o b M (D ++ [p]) h8:=⟨kg.ext.step oall fun n hn hf=>by
     rcases hf with hf | hf | hf | hf
     ·omega
     ·omega
     ·omega
     ·have:=s3 n hf;omega,⟨r7,b8,by
     rw [List.map_append]
     exact q1.only e8 fun n hn hf=>by have:=hr7 n hn;omega,hr7⟩,oall.block kg.dfr (by
     intro hf
     rcases hf with hf | hf | hf | hf
     ·omega
     ·omega
     ·omega
     ·have:=s3 _ hf;omega),it5.only oit (by
     intro hf
     rcases hf with hf | hf | hf
     ·omega
     ·omega
     ·have:=s3 _ hf;omega) (by
     intro hf
     rcases hf with hf | hf | hf
     ·omega
     ·omega
     ·have:=s3 _ hf;omega),by have:=oall.size;omega⟩
   refine ⟨hrd8,true,rfl,(fun h=>by cases h),fun _=>?_⟩
   have hlen:(D ++ [p]).length<=M.length:=by
    obtain ⟨_,es,clock,since,seen,c0,hb1,rp,hr1,_,_,_,E,w1,w2,w3,w4⟩:=it5
    have l1:E.length=(D ++ [p]).length:=by simpa using congrArg List.length w4
    have l2:=rp.len
    have hnd:E.Nodup:=nJ w3
    have l3:(E.map (·.born)).length<=(es.toList.map (·.born)).length:=sN w3 fun x hx=>by
     obtain ⟨e,he,rfl⟩:=List.mem_map.1 hx
     exact List.mem_map.2 ⟨e,w1 e he,rfl⟩
    simp only [List.length_map,Array.length_toList] at l3
    omega
   refine mt ho hb hM hv k hy m (D ++ [p]) _ (kg8.only ho hb (ig h8 (o+2) (R .ready none))) (qV hrd8) hlen (by simp only [List.length_append,List.length_singleton] at hlen ⊢;omega)
set_option maxHeartbeats 400000 in
theorem rI {h:H}{a b:Nat}{M:List (ByteArray×Value)}{Q:Sl->H->Prop}(ba:Blk h a #[.map (some b)] bw) (mp:lj h b M) (hM:M.length<1073741824) (hv:∀ p∈M,∃ v:Option Addr,p.2=.pointer v)
  (k:∀ (r:Sl) (h':H) (D:List (ByteArray×Value)),D.Perm M->aU h' r 9 1 ((D.map (·.1)).flatMap cT)->Ext h h'->(∀ n,r.blk=some n->h.size<=n)->Q r h'):F.xfe ⟨none,0,0⟩ (.func (.func bP) #[] #[.pointer (some ⟨a,0,none⟩)]) h Q:=by
 unfold F.xfe
 refine aN fun o h1 ho b1 e1 sz1=>?_
 subst ho
 rw [show h1.size=h.size+1 from sz1]
 intro R hR hy
 rw [sz1] at hy ⊢
 refine ⟨bP,#[],#[.pointer (some ⟨a,0,none⟩)],rfl,fun args w=>cR args w,?_⟩
 have hblt:=mp.lt
 have halt:=dx ba
 have d1:Ext h1 (h1.push (.deferred (some []))):=.push _ _
 have d2:Ext (h1.push (.deferred (some []))) ((h1.push (.deferred (some []))).push (R .ready none)):=.push _ _
 have e3:Ext h ((h1.push (.deferred (some []))).push (R .ready none)):=(e1.trans d1).trans d2
 have key:F.xde (.func (.yield (h.size+2)) #[] #[]) ⟨a,0,none⟩ ((h1.push (.deferred (some []))).push (R .ready none)) (q9 R (h.size+2) [] (fun h11=>ldL h11 ⟨h.size,0,none⟩ fun y12=>lO ((h.size+1) :: ([]:List Nat)) h11 fun h14=>Q y12 h14) (fun jj h15=>True)):=by
  unfold F.xde
  rw [pT ((show Blk _ a #[.map (some b)] bw from e3.block ba (fun f=>f)).cell (i:=0) rfl)]
  refine yJ (kt:=9) (et:=_) cK (mp.only e3 (fun f=>f)) fun h4 it4 e4 sz4=>?_
  have hsz:((h1.push (.deferred (some []))).push (R .ready none)).size=h.size+3:=by simp;omega
  rw [hsz] at it4 sz4 ⊢
  refine ⟨_,rfl,M.length+1,?_⟩
  refine mt (Nat.le_refl _) hblt hM hv k hy (M.length+1) [] h4 ⟨e3.trans e4,⟨⟨none,0,0⟩,e4.block (d2.block (d1.block b1 (fun f=>f)) (fun f=>f)) (fun f=>f),aU.nil _ _ _,fun n hn=>by simp [Sl.blk] at hn⟩,e4.block (d2.block (by rw [← sz1];simp) (fun f=>f)) (fun f=>f),it4,by omega⟩ (e4.block (by
   have:h.size+2=(h1.push (.deferred (some []))).size:=by simp;omega
   rw [this,Array.getElem?_push,if_pos rfl]) (fun f=>f)) (by simp) (by simp)
 exact (F.xde_ok key).mono fun r h' ⟨_,q⟩=>q
theorem pH {h:H}{a b:Nat}{M:List (ByteArray×Value)}{Q:Sl->H->Prop}(ba:Blk h a #[.map (some b)] bw) (mp:lj h b M) (hM:M.length<1073741824) (hv:∀ p∈M,∃ v:Option Addr,p.2=.pointer v)
  (k:∀ (r:Sl) (h':H) (D:List (ByteArray×Value)),D.Perm M->aU h' r 9 1 ((ii (D.map (·.1))).flatMap cT)->Ext h h'->(∀ n,r.blk=some n->h.size<=n)->Q r h'):F.xev (.func (.func bP) #[] #[.pointer (some ⟨a,0,none⟩)]) h Q:=by
 unfold F.xev F.xfk
 refine rI ba mp hM hv fun r h1 D hp o1 e1 m1=>?_
 refine uc rfl o1 (by have:=hp.length_eq;simp;omega) fun h2 o2 e2=>⟨rfl,?_⟩
 exact k r h2 D hp o2 (e1.step e2 fun n hn hf=>by have:=m1 n hf;omega) m1
end Go.Proofs.YtjjchpaomgmmdaaGreat.V.P
