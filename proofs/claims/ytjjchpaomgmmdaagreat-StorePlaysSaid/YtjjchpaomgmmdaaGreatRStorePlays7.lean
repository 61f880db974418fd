/- Parts of the proof of StorePlays; no condition. -/
import Derived.Shelf.SlSortCmp.NoneTotal
import Derived.Test.YtjjchpaomgmmdaaGreatRStorePlays6
namespace Go.Proofs.YtjjchpaomgmmdaaGreat.V.S
open Go Go.Proofs.YtjjchpaomgmmdaaGreat.V
set_option linter.unusedVariables false
set_option linter.unusedSimpArgs false
set_option maxRecDepth 20000
section
open Classical
variable {α:Type}
noncomputable def cpN (L:List α):Nat->List α
 | 0=>[]
 | i+1=>match L[i]? with
  | none=>cpN L i
  | some x=>if i≠0∧L[i-1]?=some x then cpN L i else cpN L i ++ [x]
theorem nc {L:List α}{i:Nat}{x:α}(h:L[i]?=some x) (h0:i≠0) (h1:L[i-1]?=some x):cpN L (i+1)=cpN L i:=by
 show (match L[i]? with
  | none=>cpN L i
  | some x=>if i≠0∧L[i-1]?=some x then cpN L i else cpN L i ++ [x])=_
 rw [h];exact if_pos ⟨h0,h1⟩
theorem oy {L:List α}{i:Nat}{x:α}(h:L[i]?=some x) (h1:i=0∨L[i-1]?≠some x):cpN L (i+1)=cpN L i ++ [x]:=by
 show (match L[i]? with
  | none=>cpN L i
  | some x=>if i≠0∧L[i-1]?=some x then cpN L i else cpN L i ++ [x])=_
 rw [h]
 refine if_neg fun ⟨g1,g2⟩=>?_
 rcases h1 with h1 | h1
 ·exact g1 h1
 ·exact h1 g2
theorem zI (L:List α):∀ i,(cpN L i).length<=i
 | 0=>Nat.le_refl _
 | i+1=>by
  have ih:=zI L i
  cases h:L[i]? with
  | none =>
   have:cpN L (i+1)=cpN L i:=by
    show (match L[i]? with
     | none=>cpN L i
     | some x=>if i≠0∧L[i-1]?=some x then cpN L i else cpN L i ++ [x])=_
    rw [h]
   rw [this];omega
  | some x =>
   by_cases h1:i≠0∧L[i-1]?=some x
   ·rw [nc h h1.1 h1.2];omega
   ·rw [oy h (by
     by_cases h2:i=0
     ·exact .inl h2
     ·exact .inr fun e=>h1 ⟨h2,e⟩)]
    rw [List.length_append];simp;omega
theorem vV {L:List α}{c:α}:∀ i,i<=L.length->(c∈cpN L i↔c∈L.take i)
 | 0,_=>by simp [cpN]
 | i+1,hi=>by
  have ih:=vV (L:=L) (c:=c) i (by omega)
  obtain ⟨x,h⟩:∃ x,L[i]?=some x:=⟨_,List.getElem?_eq_getElem (by omega)⟩
  rw [ed h]
  by_cases h1:i≠0∧L[i-1]?=some x
  ·rw [nc h h1.1 h1.2,ih,List.mem_append,List.mem_singleton]
   refine ⟨.inl,fun g=>g.elim id fun e=>?_⟩
   rw [e]
   exact List.mem_of_getElem? (i:=i-1) (by rw [List.getElem?_take_of_lt (by omega)];exact h1.2)
  ·rw [oy h (by
    by_cases h2:i=0
    ·exact .inl h2
    ·exact .inr fun e=>h1 ⟨h2,e⟩),List.mem_append,ih,List.mem_append]
end
abbrev Asc (L:List Cel):Prop:=L.Pairwise fun a b=>bZ a b<=0
theorem DO {a b c:Cel}(h1:bZ a b<=0) (h2:bZ b c<=0):bZ a c<=0:=by
 have r1:=cZ a b
 have r2:=cZ b c
 by_cases e1:bZ a b=0
 ·rw [dq.1 e1];exact h2
 ·by_cases e2:bZ b c=0
  ·rw [← dq.1 e2];exact h1
  ·rw [gN (by omega:bZ a b=-1) (by omega:bZ b c=-1)];decide
theorem uC {L:List Cel}(h:Asc L):∀ i,i<=L.length->(cpN L i).Nodup
 | 0,_=>by simp [cpN]
 | i+1,hi=>by
  have ih:=uC h i (by omega)
  obtain ⟨x,hx⟩:∃ x,L[i]?=some x:=⟨_,List.getElem?_eq_getElem (by omega)⟩
  by_cases h1:i≠0∧L[i-1]?=some x
  ·rw [nc hx h1.1 h1.2];exact ih
  ·have h1':i=0∨L[i-1]?≠some x:=by
    by_cases h2:i=0
    ·exact .inl h2
    ·exact .inr fun e=>h1 ⟨h2,e⟩
   rw [oy hx h1',List.nodup_append]
   refine ⟨ih,by simp,fun a ha b hb e=>?_⟩
   rw [List.mem_singleton] at hb
   subst hb;subst e
   rw [vV i (by omega)] at ha
   obtain ⟨j,hj⟩:=List.mem_iff_getElem?.1 ha
   have hji:j<i:=by
    have:=(List.getElem?_eq_some_iff.1 hj).1
    rw [List.length_take] at this;omega
   rw [List.getElem?_take_of_lt hji] at hj
   obtain ⟨y,hy⟩:∃ y,L[i-1]?=some y:=⟨_,List.getElem?_eq_getElem (by omega)⟩
   have le:∀ {p q:Nat}{u v:Cel},p<q->L[p]?=some u->L[q]?=some v->bZ u v<=0:=fun {p q u v} hpq hu hv=>by
    obtain ⟨p1,rfl⟩:=List.getElem?_eq_some_iff.1 hu
    obtain ⟨q1,rfl⟩:=List.getElem?_eq_some_iff.1 hv
    exact List.pairwise_iff_getElem.1 h p q p1 q1 hpq
   have l2:=le (show i-1<i by omega) hy hx
   have l1:bZ a y<=0:=by
    by_cases e:j=i-1
    ·rw [e,hy] at hj;cases hj;rw [eC];decide
    ·exact le (by omega) hj hy
   have:bZ a y=0:=by
    have:=dR a y;have:=cZ a y;have:=cZ y a
    omega
   rw [← dq.1 this] at hy
   rcases h1' with h1' | h1'
   ·omega
   ·exact h1' hy
section
open Classical
noncomputable def ddL {α:Type}:List α->List α
 | []=>[]
 | x :: r=>if x∈r then ddL r else x :: ddL r
theorem mC {α:Type}{c:α}:∀ {L:List α},c∈ddL L↔c∈L
 | []=>by simp [ddL]
 | x :: r=>by
  have ih:=mC (c:=c) (L:=r)
  unfold ddL
  split
  ·rename_i h
   rw [ih,List.mem_cons]
   refine ⟨.inr,fun g=>g.elim (fun e=>by rw [e];exact h) id⟩
  ·rw [List.mem_cons,List.mem_cons,ih]
theorem kd {α:Type}:∀ (L:List α),(ddL L).Nodup
 | []=>by simp [ddL]
 | x :: r=>by
  unfold ddL
  split
  ·exact kd r
  ·rename_i h
   rw [List.nodup_cons]
   exact ⟨fun g=>h (mC.1 g),kd r⟩
theorem sV {α:Type} [DecidableEq α] (f:α->Int):∀ {L:List α}{x:α},x∈L->(L.map f).sum=f x+((L.erase x).map f).sum
 | [],x,h=>by cases h
 | y :: r,x,h=>by
  by_cases e:y=x
  ·subst e;simp
  ·have hr:x∈r:=by
    rcases List.mem_cons.1 h with g | g
    ·exact absurd g.symm e
    ·exact g
   have ih:=sV f hr
   rw [List.erase_cons_tail (by simpa using e),List.map_cons,List.sum_cons,List.map_cons,List.sum_cons,ih]
   omega
theorem vk {α:Type} [DecidableEq α] (f:α->Int):∀ {D E:List α},D.Nodup->E.Nodup->(∀ c,c∈D↔c∈E)->(D.map f).sum=(E.map f).sum
 | [],E,_,_,h=>by
  have:E=[]:=List.eq_nil_iff_forall_not_mem.2 fun c hc=>by have:=(h c).2 hc;cases this
  rw [this]
 | x :: D,E,h1,h2,h=>by
  rw [List.nodup_cons] at h1
  have hx:x∈E:=(h x).1 (by simp)
  have ih:=vk f (D:=D) (E:=E.erase x) h1.2 (h2.erase x) fun c=>by
   rw [h2.mem_erase_iff]
   constructor
   ·intro g
    exact ⟨fun e=>h1.1 (by rw [← e];exact g),(h c).1 (by simp [g])⟩
   ·rintro ⟨g1,g2⟩
    rcases List.mem_cons.1 ((h c).2 g2) with g | g
    ·exact absurd g g1
    ·exact g
  rw [sV f hx,List.map_cons,List.sum_cons,ih]
def hT (S:SL) (e:Int) (D:List Cel):Int:=(D.map (fc S e)).sum
noncomputable def fY (S:SL) (e:Int) (L:List Cel):Int:=hT S e (ddL L)
theorem sL {S:SL}{e:Int}{D E:List Cel}(h1:D.Nodup) (h2:E.Nodup) (h:∀ c,c∈D↔c∈E):hT S e D=hT S e E:=vk _ h1 h2 h
theorem qO {S:SL}{e:Int}{D L:List Cel}(h1:D.Nodup) (h:∀ c,c∈D↔c∈L):hT S e D=fY S e L:=sL h1 (kd L) fun c=>by rw [h,mC]
theorem uW {S:SL}{e:Int}{L M:List Cel}(h:∀ c,c∈L↔c∈M):fY S e L=fY S e M:=sL (kd L) (kd M) fun c=>by rw [mC,mC,h]
theorem iR (S:SL) (e:Int):∀ D:List Cel,0<=hT S e D∧hT S e D<=2*D.length
 | []=>by simp [hT]
 | c :: D=>by
  have ih:=iR S e D
  have:=tR S e c
  unfold hT at ih ⊢
  rw [List.map_cons,List.sum_cons,List.length_cons]
  omega
theorem qN (S:SL) (e:Int) (D:List Cel) (c:Cel):hT S e (D ++ [c])=hT S e D+fc S e c:=by
 unfold hT;rw [List.map_append,List.sum_append];simp
theorem yE (S:SL) (e:Int):fY S e []=0:=by
 rw [← qO (D:=[]) (by simp) fun _=>Iff.rfl];simp [hT]
end
open Go Go.Sort Go.Proofs.YtjjchpaomgmmdaaGreat.V
instance : Inhabited Cel:=⟨fO⟩
theorem dr (x:Cel):(ae.cells x).length=3:=rfl
theorem sj {α:Type} [Inhabited α] {f:α->List Value}{k:Nat}(hf:∀ x,(f x).length=k) (hk:0<k) (L:List α):(flatK f k L.toArray).toList=L.flatMap f:=by
 apply List.ext_getElem?
 intro j
 have hsz:L.toArray.size=L.length:=List.size_toArray
 by_cases hj:j<L.length*k
 ·have hd:j=(j / k)*k+j % k:=by rw [Nat.mul_comm];exact (Nat.div_add_mod j k).symm
  have hm:j % k<k:=Nat.mod_lt _ hk
  have hq:j / k<L.length:=Nat.div_lt_of_lt_mul (by rw [Nat.mul_comm];exact hj)
  have h1:=gV f k hf L (j / k) L[j / k] (List.getElem?_eq_getElem hq) (j % k) hm
  rw [← hd] at h1
  rw [h1]
  have hj2:j<(flatK f k L.toArray).size:=by rw [size_flatK,hsz];exact hj
  have h2:=get_flatK f k L.toArray j (by rw [hsz];exact hj)
  rw [getElem!_pos _ j hj2] at h2
  rw [Array.getElem?_toList,Array.getElem?_eq_getElem hj2,h2,getElem!_pos L.toArray (j / k) (by rw [hsz];exact hq)]
  simp only [List.getElem_toArray]
  rw [getElem!_pos (f L[j / k]) (j % k) (by rw [hf];exact hm),List.getElem?_eq_getElem]
 ·rw [List.getElem?_eq_none (by rw [Array.length_toList,size_flatK,hsz];omega),List.getElem?_eq_none (by rw [cq f k hf];omega)]
theorem wa {w:World}{g:Nat}{c:Array Value}{e:TypeId}{vs:List Value}{F:Array Value}(hF:F.toList=vs) (hb:w.heap[g]?=some (.cells c e (0,0))) (ht:c.toList.take vs.length=vs):Holds id w g 0 F:=fun j hj=>by
 have hj2:j<vs.length:=by rw [← hF,Array.length_toList];exact hj
 refine ⟨?_,by simp [World.frozen?,hb]⟩
 have h1:(c.toList.take vs.length)[j]?=F.toList[j]?:=by rw [ht,hF]
 rw [List.getElem?_take_of_lt hj2,Array.getElem?_toList,Array.getElem?_toList,Array.getElem?_eq_getElem hj] at h1
 rw [getElem!_pos F j hj]
 simp only [World.cell?,hb,Nat.zero_add,Option.isSome_none,Bool.false_eq_true,if_false,id]
 exact h1
theorem yu {w:World}{g n:Nat}{os:Array Obj}{cur:Array Value}{e:TypeId}{fr:Nat×Nat}(F:Array Value) (hb:w.heap[g]?=some (.cells cur e fr)) :
  (grow (putRow id (Sort.ahead w n) g 0 F) os).heap[g]?=some (.cells (putCells id 0 F cur) e fr):=by
 have hg:g<w.heap.size:=(Array.getElem?_eq_some_iff.1 hb).1
 rw [heap_grow_old _ _ (by simpa using hg)]
 simp [putRow,mapBlock,Sort.ahead,Array.getElem?_modify,hb,onCells]
theorem tI {w:World}{g n:Nat}{os:Array Obj}(F:Array Value):w.grownBy (grow (putRow id (Sort.ahead w n) g 0 F) os) (some g):=by
 refine ⟨rfl,rfl,rfl,by simp,fun k hk hne=>?_⟩
 rw [heap_grow_old _ _ (by simpa using hk)]
 have:g≠k:=fun e=>hne (by rw [e])
 simp [putRow,mapBlock,Sort.ahead,Array.getElem?_modify,this]
theorem yV (cur F:Array Value) (h:F.size<=cur.size):(putCells id 0 F cur).toList.take F.toList.length=F.toList:=by
 apply List.ext_getElem?
 intro j
 rw [Array.length_toList]
 by_cases hj:j<F.size
 ·rw [List.getElem?_take_of_lt hj,Array.getElem?_toList]
  simp [putCells,hj,show j<cur.size by omega]
 ·rw [List.getElem?_take_eq_none (by omega),List.getElem?_eq_none (by simp;omega)]
theorem zY {w w':World}(hl:eJ w w') (e:Ext w.heap w'.heap):∃ q os',w'=grow (w.drewN q) os':=by
 refine ⟨w'.drawn-w.drawn,w'.heap.extract w.heap.size w'.heap.size,?_⟩
 have hd:=hl.drawn
 have hh:w'.heap=w.heap ++ w'.heap.extract w.heap.size w'.heap.size:=by
  have hs:=e.size
  apply Array.ext_getElem?
  intro j
  by_cases hj:j<w.heap.size
  ·rw [e.same j hj (fun f=>f),Array.getElem?_append_left hj]
  ·rw [Array.getElem?_append_right (by omega)]
   by_cases hj2:j<w'.heap.size
   ·rw [Array.getElem?_eq_getElem hj2,Array.getElem?_eq_getElem (by simp;omega),Array.getElem_extract]
    congr 2;omega
   ·rw [Array.getElem?_eq_none (by omega),Array.getElem?_eq_none (by simp;omega)]
 obtain ⟨h',t',d',o',u'⟩:=w'
 obtain ⟨h0,t0,d0,o0,u0⟩:=w
 obtain ⟨p1,p2,p3,p4⟩:=hl
 simp only at p1 p2 p3 hd hh
 subst p1;subst p2;subst p3
 unfold grow World.drewN
 simp only
 congr 1
 omega
theorem zH (blk off size:Nat) (w:World):CmpLays Tryz.prog eV #[] ae.cells 3 bZ blk off size w:=fun m os dk _ x y=>by
 have hf:Fn PP eV [.agg x.cells.toArray,.agg y.cells.toArray].toArray (sortWorldK ae.cells 3 w blk off m dk os).heap fun r h'=>r=.int .i64 (bZ x y)∧Ext (sortWorldK ae.cells 3 w blk off m dk os).heap h':=
  (F.xdi_ok (i9 (Q:=fun r h'=>r=bZ x y∧Ext (sortWorldK ae.cells 3 w blk off m dk os).heap h') fun h' e'=>⟨rfl,e'⟩)).mono fun r h' ⟨r0,e,hk⟩=>⟨by rw [e,hk.1],hk.2⟩
 exact Calls.mono (callsIn_wide.1 (hf _ rfl)) fun e w' ⟨r,he,hl,hr,hx⟩=>⟨by rw [he,hr],zY hl hx⟩
theorem CQ:SWO (ltOf bZ) where
 irrefl x:=by unfold ltOf;rw [eC];rfl
 trans x y z h1 h2:=by
  unfold ltOf at *
  have h1:=of_decide_eq_true h1
  have h2:=of_decide_eq_true h2
  have r1:=cZ x y
  have r2:=cZ y z
  rw [gN (by omega:bZ x y=-1) (by omega:bZ y z=-1)];rfl
 ntrans x y z h1 h2:=by
  unfold ltOf at *
  have h1:=of_decide_eq_false h1
  have h2:=of_decide_eq_false h2
  have a1:=dR x y
  have a2:=dR y z
  have a3:=dR x z
  have r1:=cZ x y
  have r2:=cZ y z
  have r3:=cZ x z
  have:=DO (a:=z) (b:=y) (c:=x) (by omega) (by omega)
  exact decide_eq_false (by omega)
theorem uc {h:H}{s:Sl}{L:List Cel}{f:Nat}{K:Value->H->Prop}(hf:ud.f 6=f) (ow:aU h s aJ 3 (L.flatMap ae.cells)) (hl:L.length<4611686018427387904)
  (k:∀ h' L',L'.Perm L->Asc L'->aU h' s aJ 3 (L'.flatMap ae.cells)->bI (fun b=>s.blk=some b) h h'->K (.tuple #[]) h'):Fn Tryz.prog f [s.enc,(.func (.func eV) #[] #[])].toArray h K:=fun w hw=>by
 subst hw
 subst hf
 obtain ⟨hlen,⟨h1,h2,h3⟩ | ⟨g,c,h1,h2,h3,h4,h5,h6⟩⟩:=id ow
 ·obtain ⟨sp,sl,sc⟩:=s
  simp only at h1 h2 h3
  subst h1;subst h2;subst h3
  have hs:L=[]:=by
   have:=hlen
   rw [cq _ 3 dr] at this
   simp only at this
   exact List.eq_nil_of_length_eq_zero (by omega)
  subst hs
  have hc:=AnyF.slices_SortFunc_none srf none 0 (.func (.func eV) #[] #[]) w
  refine callsIn_wide.2 (hc.mono fun e w' ⟨he,hn⟩=>?_)
  subst he
  subst hn
  exact ⟨_,rfl,eJ.refl _,k _ [] (.refl _) List.Pairwise.nil ow (.refl _)⟩
 ·obtain ⟨sp,sl,sc⟩:=s
  simp only at h1 h3 h4 h5
  subst h1
  have hsl:sl=L.length:=by
   have:=hlen
   rw [cq _ 3 dr] at this
   simp only at this
   omega
  subst hsl
  have hH:HoldsK ae.cells 3 w g 0 L.toArray:=wa (sj dr (by omega) L) h2 h6
  have hc:=AnyQ.slices_SortFunc srf 3 BY AI ae.cells dr (fun x=>bz x) bZ CQ eV #[] g 0 sc L.toArray w ln (zH g 0 L.toArray.size w) hH (Array.getElem?_eq_some_iff.1 h2).1 (by rw [List.size_toArray];exact hl)
  rw [List.size_toArray] at hc
  refine callsIn_wide.2 (hc.mono fun e w' ⟨he,d',n,os,hp,hsd,hn⟩=>?_)
  subst he
  have hd:d'.size=L.length:=by rw [hp.1,List.size_toArray]
  have hpm:d'.toList.Perm L:=by
   have:=hp.2.2
   rw [Array.extract_eq_self_of_le (by omega),Array.extract_eq_self_of_le (by simp)] at this
   simpa using this
  have hasc:Asc d'.toList:=by
   refine List.pairwise_iff_getElem.2 fun i j hi hj hij=>?_
   rw [Array.length_toList] at hi hj
   have:=hsd i j (Nat.zero_le _) hij (by omega)
   rw [getElem!_pos d' i hi,getElem!_pos d' j hj] at this
   unfold ltOf at this
   have:=of_decide_eq_false this
   have a1:=dR d'[i] d'[j]
   simp only [Array.getElem_toList]
   omega
  have hfl:(flatK ae.cells 3 d').toList=d'.toList.flatMap ae.cells:=by
   have:=sj (f:=ae.cells) (k:=3) dr (by omega) d'.toList
   simpa using this
  have hg:w.grownBy w' (some g):=by rw [hn];exact tI _
  have hso:=yu (n:=n) (os:=os) (flatK ae.cells 3 d') h2
  have hso':w'.heap[g]?=some (Obj.cells (putCells id 0 (flatK ae.cells 3 d') c) aJ (0,0)):=by rw [hn];exact hso
  have hdl:d'.toList.length=L.length:=by rw [Array.length_toList,hd]
  refine ⟨_,rfl,⟨hg.os,hg.tape,hg.output,by rw [hn];exact Nat.le_add_right _ _⟩,k _ d'.toList hpm hasc ⟨?_,.inr ⟨g,_,rfl,hso',?_,h4,h5,?_⟩⟩ ((kn hg).mono fun b _ e=>by simpa [Sl.blk] using e)⟩
  ·rw [cq _ 3 dr,hdl]
  ·simp only [putCells];simpa using h3
  ·rw [← hfl]
   exact yV c _ (by rw [size_flatK,hd,h3];exact Nat.mul_le_mul_right _ h4)
end Go.Proofs.YtjjchpaomgmmdaaGreat.V.S
namespace Go.Proofs.YtjjchpaomgmmdaaGreat.V
open Go
set_option linter.unusedVariables false
set_option linter.unusedSimpArgs false
theorem jV (b:Nat):∀ (vs:List Value) (o i:Nat) (w:World),(w.setCells b (o+i) vs).heap=mv w.heap ⟨b,o,none⟩ vs i
 | [],_,_,_=>rfl
 | v :: r,o,i,w=>by
  show ((w.setCell ⟨b,o+i,none⟩ v).setCells b (o+(i+1)) r).heap=mv (oR w.heap ((⟨b,o,none⟩:Addr).add i) v) ⟨b,o,none⟩ r (i+1)
  rw [aC,jV b r o (i+1)]
  rfl
theorem mu (b:Nat):∀ (vs:List Value) (o:Nat) (w:World),eJ w (w.setCells b o vs)
 | [],_,w=>eJ.refl w
 | v :: r,o,w=>eJ.trans (b:=w.setCell ⟨b,o,none⟩ v) ⟨rfl,rfl,rfl,Nat.le_refl _⟩ (mu b r (o+1) _)
theorem oE {α:Type}(f:α->List Value) (k:Nat) (hf:∀ x,(f x).length=k):∀ (L:List α) (i:Nat),i<=L.length->(L.flatMap f).take (i*k)=(L.take i).flatMap f
 | L,0,_=>by simp
 | [],i+1,h=>by simp at h
 | x :: r,i+1,h=>by
  have ih:=oE f k hf r i (by simpa using h)
  rw [List.flatMap_cons,List.take_succ_cons,List.flatMap_cons,← ih,Nat.add_mul,Nat.one_mul,Nat.add_comm,← hf x,List.take_length_add_append]
section
variable {P:Program}{α:Type}{f:α->List Value}{kk:Nat}{e t ty:TypeId}{bytes:Nat}{z:Value}{h:H}{s:Sl}{D:List α}
theorem oN (hf:∀ x,(f x).length=kk) (hk:0<kk) (w:aU h s e kk (D.flatMap f)){i:Nat}(hi:i<=D.length):aU h (cS s 0 i kk) e kk ((D.take i).flatMap f):=by
 have hsl:=bH hf hk w
 have hll:((D.take i).flatMap f).length=i*kk:=by rw [cq f kk hf,List.length_take,Nat.min_eq_left hi]
 obtain ⟨hl,⟨h1,h2,h3⟩ | ⟨b,c,h1,h2,h3,h4,h5,h6⟩⟩:=w
 ·refine ⟨by rw [hll];rfl,.inl ⟨by simp only [cS];rw [h1];split <;> rfl,by simp only [cS];omega,by simp only [cS];omega⟩⟩
 ·refine ⟨by rw [hll];rfl,.inr ⟨b,c,by simp only [cS];rw [h1];split <;> simp [aC],h2,by simp only [cS];simpa using h3,by simp only [cS];omega,by simp only [cS];omega,?_⟩⟩
  rw [hll,← oE f kk hf D i hi,← h6,List.take_take,Nat.min_eq_left]
  rw [cq f kk hf]
  exact Nat.mul_le_mul_right _ hi
theorem yf {K:H->Prop}(el:El P t e kk bytes z) (hf:∀ x,(f x).length=kk) (hk:0<kk) (one:∀ v∈z.cells.toList,v.oneCell'=true) (w:aU h s e kk (D.flatMap f)){i:Nat}(hi:i<=D.length)
  (k:∀ h',bI (fun b=>s.blk=some b) h h'->aU h' (cS s 0 i kk) e kk ((D.take i).flatMap f)->K h'):cY P (Builtin.clear_ #[t] ty #[(cS s i s.len kk).enc]) h fun u h'=>u=(.tuple #[])∧K h':=by
 have hsl:=bH hf hk w
 intro w0 hw
 subst hw
 obtain ⟨inf,hinf,hz,hsz,hby⟩:=el.info
 have hzv:(zeroValue e).run P w0=.ok z w0:=by
  simp [zeroValue,typeInfo,hinf,hz,go_sem]
 by_cases hn:i=D.length
 ·refine ⟨.tuple #[],w0,?_,eJ.refl _,rfl,k _ (.refl _) (oN hf hk w hi)⟩
  rw [hsl,hn]
  simp only [cS,Sl.enc,Nat.sub_self]
  generalize (if s.cap=D.length then s.ptr else s.ptr.map fun x=>x.add (D.length*kk))=p
  cases p with
  | none=>simp [Builtin.clear_,run_underlying el.slice]
  | some a=>simp [Builtin.clear_,run_underlying el.slice]
 ·have own1:=oN hf hk w hi
  obtain ⟨hl,⟨h1,h2,h3⟩ | ⟨b,c,h1,h2,h3,h4,h5,h6⟩⟩:=w
  ·omega
  obtain ⟨sp,sl,sc⟩:=s
  simp only at h1 h3 h4 h5 hsl hl
  subst h1
  have hvl:(Builtin.zeroCells z.cells (sl-i)).toList.length=(sl-i)*kk:=by simp [Builtin.zeroCells,el.zero]
  have hbound:i*kk+(sl-i)*kk<=c.size:=by
   rw [← Nat.add_mul,h3];exact Nat.mul_le_mul_right _ (by omega)
  have hst:=run_storeCells_cells (P:=P) b (i*kk) (Builtin.zeroCells z.cells (sl-i)).toList 0 w0 (fun j hj=>by
    rw [hvl] at hj
    have:aA w0.heap ⟨b,i*kk+0+j,none⟩=some c[i*kk+0+j]:=Blk.cell (h:=w0.heap) h2 (Array.getElem?_eq_getElem (by omega))
    show (aA w0.heap ⟨b,i*kk+0+j,none⟩).isSome=true
    rw [this];rfl) (fun j hj=>Blk.frozen (h:=w0.heap) h2) (fun v hv=>by
    simp only [Builtin.zeroCells,Array.toList_map,List.mem_map,Array.toList_range] at hv
    obtain ⟨j,_,rfl⟩:=hv
    have hm:j % z.cells.size<z.cells.size:=Nat.mod_lt _ (by rw [el.zero];exact hk)
    rw [getElem!_pos z.cells _ hm]
    exact one _ (by rw [Array.mem_toList_iff];exact Array.getElem_mem hm))
  have hr:(Builtin.clear_ #[t] ty #[(cS ⟨some ⟨b,0,none⟩,sl,sc⟩ i sl kk).enc]).run P w0=.ok (.tuple #[]) (w0.setCells b (i*kk+0) (Builtin.zeroCells z.cells (sl-i)).toList):=by
   obtain ⟨m,hm⟩:∃ m,sl-i=m+1:=⟨sl-i-1,by omega⟩
   simp only [cS,Sl.enc]
   rw [if_neg (show ¬ sc=i by omega)]
   rw [hm] at hst ⊢
   simp only [Option.map_some,aC,Nat.zero_add]
   simp [Builtin.clear_,run_underlying el.slice,hzv,hst]
  obtain ⟨a1,a2,a3⟩:=sS (h:=w0.heap) h2 (i*kk) (Builtin.zeroCells z.cells (sl-i)).toList 0
  refine ⟨_,_,hr,mu b _ _ w0,rfl,k _ ?_ ?_⟩
  ·rw [jV]
   exact a2.mono fun n _ e=>by subst e;simp [Sl.blk]
  ·rw [jV]
   obtain ⟨q1,q2⟩:=own1
   refine ⟨q1,.inr ⟨b,_,by simp only [cS];split <;> simp [aC],a1,by rw [lV];simp only [cS];simpa using h3,by simp only [cS];omega,by simp only [cS];omega,?_⟩⟩
   have hll:((D.take i).flatMap f).length=i*kk:=by rw [cq f kk hf,List.length_take,Nat.min_eq_left hi]
   rw [hll,← oE f kk hf D i hi,← h6]
   apply List.ext_getElem?
   intro j
   by_cases hj:j<i*kk
   ·have hb2:i*kk<=(D.flatMap f).length:=by rw [cq f kk hf];exact Nat.mul_le_mul_right _ hi
    rw [List.getElem?_take_of_lt hj,List.getElem?_take_of_lt hj,List.getElem?_take_of_lt (by omega),Array.getElem?_toList,Array.getElem?_toList,Nat.add_zero,mV (by rw [hvl];exact hbound),if_pos hj]
   ·rw [List.getElem?_take_eq_none (by omega),List.getElem?_take_eq_none (by omega)]
end
end Go.Proofs.YtjjchpaomgmmdaaGreat.V
namespace Go.Proofs.YtjjchpaomgmmdaaGreat.V.S
open Go Go.Proofs.YtjjchpaomgmmdaaGreat.V
set_option linter.unusedVariables false
set_option linter.unusedSimpArgs false
set_option maxRecDepth 20000
theorem DP {α:Type}{f:α->List Value}{kk:Nat}{t e:TypeId}{bytes:Nat}{z:Value}{h0 h:H}{s:Sl}{D:List α}{K:Sl->H->Prop}(el:El PP t e kk bytes z) (hf:∀ x,(f x).length=kk) (hk:0<kk) (one:∀ x,∀ v∈f x,v.oneCell'=true)
  (e0:Ext h0 h) (w:bS h s kk (D.flatMap f)) (hl:(0+D.length+(0+D.length) / 4+256)*bytes<=281474976710656)
  (k:∀ s' h',aU h' s' e kk (D.flatMap f)->dL h s'->Ext h h'->K s' h') :
  fv h #[] e 0 fun s7 h6=>dA PP (Builtin.append_ #[t,t] t #[s7.enc,s.enc]) h6 fun s9 h8=>K s9 h8:=by
 refine dT fun n6 h6 hn6 b6 e6 sz6=>?_
 have w6:aU h6 ⟨some ⟨n6,0,none⟩,0,0⟩ e kk (([]:List α).flatMap f):=uy (cs:=[]) b6 (by simp) (by simp [maxLen])
 refine fI (L:=[]) (M:=D) hf hk el w6 (w.only e6 fun _ _ f=>f) one (by simpa using hl) fun r7 h7 q1 q2 q3=>?_
 refine k r7 h7 (by simpa using q1) (fun b hb=>?_) (e6.mine (fun b hb=>by simp [Sl.blk] at hb;omega) q2)
 rcases q3 with q3 | ⟨b',q3,q4⟩
 ·rw [q3] at hb;simp [Sl.blk] at hb;omega
 ·rw [q3] at hb;cases hb;have:=e6.size;omega
theorem gP {h:H}{s:Sl}{A:List Cel}(rd:bS h s 3 (A.flatMap ae.cells)){i:Nat}{x:Cel}(hx:A[i]?=some x){K:Addr->Prop}(k:∀ a,Cells h a x.cells->K a):bD s (i:Int) 3 K:=by
 obtain ⟨p,p1,p2,p3⟩:=gw dr (by omega) rd hx
 have hl:=cz dr (by omega) rd
 exact dK (i:=i) p1 (by have:=(List.getElem?_eq_some_iff.1 hx).1;omega) rfl (k _ p3)
theorem kI {x y:Cel}:((x.View == y.View) && ((x.Key.toList == y.Key.toList) && ((x.Start == y.Start) && true)))=true↔x=y:=by
 obtain ⟨a1,⟨⟨a2⟩⟩,a3⟩:=x
 obtain ⟨b1,⟨⟨b2⟩⟩,b3⟩:=y
 simp [dF,and_assoc]
theorem vU {h:H}{s:Sl}{L:List Cel}{Q:Sl->H->Prop}(rd:bS h s 3 (L.flatMap ae.cells)) (hL:L.length<=1000000) (k:∀ r h',aU h' r aJ 3 (L.flatMap ae.cells)->dL h r->Ext h h'->Q r h'):F.xfc s h Q:=by
 unfold F.xfc
 refine ⟨fun g=>?_,fun _=>DP ef dr (by omega) (fun x=>bz x) (.refl h) rd (by omega) k⟩
 have hp:s.ptr=none:=by simpa using g
 have:=cz dr (by omega) rd
 have h0:=(rd.2.1 hp).1
 have hL:L=[]:=List.eq_nil_of_length_eq_zero (by omega)
 subst hL
 exact k _ h (aU.nil _ _ _) (dL.nil _ _ _) (.refl _)
theorem tf {h:H}{s:Sl}{L:List Cel}{Q:Sl->H->Prop}(w:aU h s aJ 3 (L.flatMap ae.cells)) (hL:L.length<=1000000)
  (k:∀ r h',bS h' r 3 ((cpN L L.length).flatMap ae.cells)->bI (fun b=>s.blk=some b) h h'->Q r h'):F.xar s h Q:=by
 have hl:=bH dr (by omega) w
 unfold F.xar
 rw [hl]
 refine ⟨fun g=>?_,fun g=>⟨L.length+1,?_⟩⟩
 ·have g:=of_decide_eq_true g
  have:cpN L L.length=L:=by
   match L,g with
   | [],_=>rfl
   | [x],_=>simp [cpN]
   | x :: y :: r,g=>simp at g;omega
  refine k s h ?_ (.refl _)
  rw [this];exact w.reads
 have g:=of_decide_eq_false g
 -- the inner loop
 have inner:∀ (i0:Nat) (hi0:1<=i0) (hiL:i0<L.length) (C1:Sl->Int->H->Prop) (d j c:Nat) (D:List Cel) (hh:H),aU hh s aJ 3 (D.flatMap ae.cells)->bI (fun b=>s.blk=some b) h hh->D.length=L.length->1<=j->i0+j<=L.length->c+1<=i0+j->D.take c=cpN L (i0+j)->(∀ p,i0+j<=p+1->D[p]?=L[p]?)->L.length-(i0+j)<d ->
   F.xar.l2 Q C1 d s (c:Int) (cS s i0 L.length 3) (j:Int) hh:=by
  intro i0 hi0 hiL C1 d
  induction d with
  | zero=>intro j c D hh _ _ _ _ _ _ _ _ hm;omega
  | succ d ih =>
   intro j c D hh wD oD hDl hj hij hc htk hrest hm
   have hsl:=bH dr (by omega) wD
   unfold F.xar.l2
   have hlen:((cS s i0 L.length 3).len:Int)=((L.length-i0:Nat):Int):=rfl
   rw [hlen]
   have rd2:bS hh (cS s i0 L.length 3) 3 (((D.drop i0).take (L.length-i0)).flatMap ae.cells):=iq dr (by omega) wD.reads (by omega) (by omega) wD.le_cap
   have get2:∀ {q:Nat},q<L.length-i0->((D.drop i0).take (L.length-i0))[q]?=D[i0+q]?:=fun {q} hq=>by rw [List.getElem?_take_of_lt hq,List.getElem?_drop]
   refine ⟨fun g2=>?_,fun g2=>?_⟩
   ·have g2:=of_decide_eq_true g2
    obtain ⟨x,hx⟩:∃ x,L[i0+j]?=some x:=⟨_,List.getElem?_eq_getElem (by omega)⟩
    obtain ⟨y,hy⟩:∃ y,L[i0+j-1]?=some y:=⟨_,List.getElem?_eq_getElem (by omega)⟩
    have hx2:((D.drop i0).take (L.length-i0))[j]?=some x:=by rw [get2 (by omega),hrest _ (by omega)];exact hx
    have hy2:((D.drop i0).take (L.length-i0))[j-1]?=some y:=by rw [get2 (by omega),hrest _ (by omega),show i0+(j-1)=i0+j-1 by omega];exact hy
    rw [w64 (n:=(j:Int)-1) (by omega) (by omega),show ((j:Int)-1)=((j-1:Nat):Int) by omega]
    refine gP rd2 hx2 fun a ca=>⟨x,ca,gP rd2 hy2 fun a2 ca2=>⟨y,ca2,fun g3=>?_,fun g3=>?_⟩⟩
    ·have hne:x≠y:=fun e=>by rw [kI.2 e] at g3;cases g3
     refine gP rd2 hx2 fun a3 ca3=>⟨x,ca3,mN (D:=D) (i:=c) (x:=x) dr (by omega) wD (by omega) fun h30 w30 o30=>?_⟩
     unfold F.xar.j3
     rw [fM (by omega),fM (by omega)]
     refine ih (j+1) (c+1) (D.set c x) h30 w30 (oD.trans o30 fun _ _ e=>e) (by rw [List.length_set];exact hDl) (by omega) (by omega) (by omega) ?_ (fun p hp=>?_) (by omega)
     ·have:(D.set c x)[c]?=some x:=by rw [List.getElem?_set_self (by omega)]
      rw [ed this,List.take_set_of_le (by omega),htk,show i0+(j+1)=i0+j+1 by omega]
      exact (oy hx (.inr fun e=>hne (by rw [hy] at e;cases e;rfl))).symm
     ·rw [List.getElem?_set_ne (by omega)]
      exact hrest p (by omega)
    ·have he:x=y:=kI.1 (by simpa using g3)
     unfold F.xar.j3
     rw [fM (by omega)]
     refine ih (j+1) c D hh wD oD hDl (by omega) (by omega) (by omega) ?_ (fun p hp=>hrest p (by omega)) (by omega)
     rw [htk,show i0+(j+1)=i0+j+1 by omega]
     exact (nc hx (by omega) (by rw [he];exact hy)).symm
   ·have g2:=of_decide_eq_false g2
    have hall:i0+j=L.length:=by omega
    rw [hall] at htk
    refine fQ (lo:=c) (hi:=s.len) rfl rfl (by omega) wD.le_cap ?_
    refine cY.mono (yf (D:=D) (i:=c) (K:=fun h33=>ly s 0 (c:Int) 3 fun s36=>Q s36 h33) ef dr (by omega) (fun v hv=>bz fO v hv) wD (by omega) fun h33 o33 w33=>?_) fun u h' hu=>hu
    refine fQ (lo:=0) (hi:=c) rfl rfl (by omega) (by have:=wD.le_cap;omega) ?_
    rw [htk] at w33
    exact k _ h33 w33.reads (oD.trans o33 fun _ _ e=>e)
 have outer:∀ (d i:Nat),1<=i->i<=L.length->cpN L i=L.take i->L.length-i<d->F.xar.l1 Q d s (i:Int) h:=by
  intro d
  induction d with
  | zero=>intro i _ _ _ hm;omega
  | succ d ih =>
   intro i h1 hi hcp hm
   unfold F.xar.l1
   rw [hl]
   refine ⟨fun g2=>?_,fun g2=>?_⟩
   ·have g2:=of_decide_eq_true g2
    obtain ⟨x,hx⟩:∃ x,L[i]?=some x:=⟨_,List.getElem?_eq_getElem (by omega)⟩
    obtain ⟨y,hy⟩:∃ y,L[i-1]?=some y:=⟨_,List.getElem?_eq_getElem (by omega)⟩
    rw [w64 (n:=(i:Int)-1) (by omega) (by omega),show ((i:Int)-1)=((i-1:Nat):Int) by omega]
    refine gP w.reads hx fun a ca=>⟨x,ca,gP w.reads hy fun a2 ca2=>⟨y,ca2,fun g3=>?_,fun g3=>?_⟩⟩
    ·have he:x=y:=kI.1 g3
     refine fQ (lo:=i) (hi:=L.length) rfl rfl (by omega) (by have:=w.le_cap;omega) ⟨L.length,?_⟩
     refine inner i h1 (by omega) _ L.length 1 i L h w (.refl _) rfl (Nat.le_refl _) (by omega) (by omega) ?_ (fun p _=>rfl) (by omega)
     rw [nc hx (by omega) (by rw [he];exact hy),hcp]
    ·have hne:x≠y:=fun e=>by rw [kI.2 e] at g3;cases g3
     rw [fM (by omega)]
     refine ih (i+1) (by omega) (by omega) ?_ (by omega)
     rw [oy hx (.inr fun e=>hne (by rw [hy] at e;cases e;rfl)),hcp,ed hx]
   ·have g2:=of_decide_eq_false g2
    have hall:i=L.length:=by omega
    subst hall
    refine k s h ?_ (.refl _)
    rw [hcp,List.take_length];exact w.reads
 refine outer _ 1 (by omega) (by omega) ?_ (by omega)
 obtain ⟨x,hx⟩:∃ x,L[0]?=some x:=⟨_,List.getElem?_eq_getElem (by omega)⟩
 rw [oy hx (.inl rfl),ed hx];simp [cpN]
theorem yF {h:H}{n:Nat}{S:SL}{slots:Nat}{R:Nat->Prop}{ep:Int}{D:List Cel}{s:Sl}{Q:Int->H->Prop}(sh:SH h n S slots R) (rd:bS h s 3 (D.flatMap ae.cells)) (hD:D.length<=1000000) (k:∀ h',Ext h h'->Q (hT S ep D) h'):∃ m,F.xcr.l1 Q m (some ⟨n,0,none⟩) ep 0 s (s.len:Int) 0 h:=by
 have hl:=cz dr (by omega) rd
 rw [hl]
 refine ⟨D.length+1,?_⟩
 have loop:∀ (d i:Nat) (hh:H),i<=D.length->D.length-i<d->Ext h hh->F.xcr.l1 Q d (some ⟨n,0,none⟩) ep (hT S ep (D.take i)) s (D.length:Int) (i:Int) hh:=by
  intro d
  induction d with
  | zero=>intro i _ _ hm;omega
  | succ d ih =>
   intro i hh hi hm e
   unfold F.xcr.l1
   refine ⟨fun g=>?_,fun g=>?_⟩
   ·have g:=of_decide_eq_true g
    obtain ⟨c,hc⟩:∃ c,D[i]?=some c:=⟨_,List.getElem?_eq_getElem (by omega)⟩
    refine gP (rd.ext e) hc fun a ca=>⟨c,ca,aN fun m h1 hm b1 e1 s1=>?_⟩
    have b1':Blk h1 m fO.cells.toArray aJ:=b1
    refine ri b1' (d:=c) fun h3 b3 o3 s3=>⟨c,b3.cells,?_⟩
    have e3:Ext hh h3:=e1.step o3 fun x hx hb=>by omega
    obtain ⟨tn,rs,es,T,Z,hZ,z⟩:=sh
    refine sM (z.ext (e.trans e3)) fun h4 e4=>?_
    rw [hZ]
    have hr:=tR S ep c
    have hq:=iR S ep (D.take i)
    rw [List.length_take] at hq
    rw [w64 (n:=hT S ep (D.take i)+fc S ep c) (by omega) (by omega),fM (by omega)]
    have:=ih (i+1) h4 (by omega) (by omega) ((e.trans e3).trans e4)
    rw [ed hc,qN] at this
    exact this
   ·have g:=of_decide_eq_false g
    have hall:i=D.length:=by omega
    subst hall
    rw [List.take_length];exact k hh e
 have:=loop (D.length+1) 0 h (by omega) (by omega) (.refl _)
 simpa [hT] using this
theorem xS {h:H}{n:Nat}{S:SL}{slots:Nat}{R:Nat->Prop}{ep:Int}{L:List Cel}{s:Sl}{Q:Int->H->Prop}(sh:SH h n S slots R) (rd:bS h s 3 (L.flatMap ae.cells)) (hL:L.length<=1000000) (k:∀ h',Ext h h'->Q (fY S ep L) h'):F.xcr (some ⟨n,0,none⟩) ep s h Q:=by
 unfold F.xcr
 refine vU rd hL fun r h1 w1 m1 e1=>uc rfl w1 (by omega) fun h3 L' hp ha w3 o3=>⟨rfl,?_⟩
 have hll:=hp.length_eq
 refine tf w3 (by omega) fun r5 h4 rd4 o4=>?_
 have e3:=e1.mine m1 o3
 have e4:=e3.mine m1 o4
 refine yF (sh.ext e4) rd4 (by have:=zI L' L'.length;omega) fun h5 e5=>?_
 have:=k h5 (e4.trans e5)
 rw [← qO (D:=cpN L' L'.length) (uC ha _ (Nat.le_refl _)) fun c=>by rw [vV _ (Nat.le_refl _),List.take_length,hp.mem_iff]] at this
 exact this
theorem xN {h:H}{n:Nat}{S:SL}{slots:Nat}{R:Nat->Prop}{ep:Int}{L:List Cel}{s:Sl}{Q:Bool->H->Prop}(sh:SH h n S slots R) (rd:bS h s 3 (L.flatMap ae.cells)) (hL:L.length<=1000000) (k:∀ h',Ext h h'->Q (decide ((aR S:Int)+fY S ep L<=slots)) h'):F.xfh (some ⟨n,0,none⟩) ep s h Q:=by
 unfold F.xfh
 have us:=sh.us
 have sh':=sh
 obtain ⟨tn,rs,es,T,Z,rfl,z⟩:=sh'
 simp only [aZ,aC,Nat.zero_add,Nat.add_zero]
 rw [bA z.cs0,bA z.cs2]
 refine xS sh rd hL fun h9 e9=>⟨e9.cell z.cs2 fun f=>f,e9.cell z.cs0 fun f=>f,?_⟩
 have hq:=iR (toS Z) ep (ddL L)
 have hd:(ddL L).length<=L.length:=by
  have:∀ M:List Cel,(ddL M).length<=M.length:=fun M=>by
   induction M with
   | nil=>simp [ddL]
   | cons x r ih=>unfold ddL;split <;> simp <;> omega
  exact this L
 have hn:fY (toS Z) ep L=hT (toS Z) ep (ddL L):=rfl
 rw [w64 (by omega) (by omega)]
 exact k h9 e9
theorem DX {n:Nat}{h:H}{K:Sl->H->Prop}(hn:n<=1000000)
  (k:∀ b h',b=h.size->aU h' ⟨some ⟨b,0,none⟩,0,n⟩ eX 1 []->Ext h h'->K ⟨some ⟨b,0,none⟩,0,n⟩ h'):dA PP (Instr.makeSlice eW (.int .i64 0) (.int .i64 (n:Int))) h K:=by
 obtain ⟨i,hi,hz,hsz,hby⟩:=lz.info
 intro w hw
 subst hw
 have hr:=run_make (P:=PP) w eW 3 i (.int .i64 0) lz.slice hi hz .i64 .i64 0 n (by omega) (by omega) (by rw [hby];omega) (by omega)
 simp only [Int.toNat_natCast,Int.toNat_zero] at hr
 refine ⟨_,_,hr,⟨rfl,rfl,rfl,by first | exact Nat.le_refl _ | exact Nat.le_succ _ | exact Nat.le_add_right _ _⟩,⟨some ⟨w.heap.size,0,none⟩,0,n⟩,rfl,k _ _ rfl ⟨by simp,.inr ⟨_,_,rfl,Blk.new _ _ _,?_,by simp,by simp [maxLen];omega,by simp⟩⟩ (.push _ _)⟩
 rw [size_madeCells,hsz]
theorem C6 {n:Nat}{h:H}{K:Sl->H->Prop}(hn:n<=1000000)
  (k:∀ b h',b=h.size->aU h' ⟨some ⟨b,0,none⟩,0,n⟩ aJ 3 []->Ext h h'->K ⟨some ⟨b,0,none⟩,0,n⟩ h'):dA PP (Instr.makeSlice dw (.int .i64 0) (.int .i64 (n:Int))) h K:=by
 obtain ⟨i,hi,hz,hsz,hby⟩:=ef.info
 intro w hw
 subst hw
 have hr:=run_make (P:=PP) w dw aJ i _ ef.slice hi hz .i64 .i64 0 n (by omega) (by omega) (by rw [hby];omega) (by omega)
 simp only [Int.toNat_natCast,Int.toNat_zero] at hr
 refine ⟨_,_,hr,⟨rfl,rfl,rfl,by first | exact Nat.le_refl _ | exact Nat.le_succ _⟩,⟨some ⟨w.heap.size,0,none⟩,0,n⟩,rfl,k _ _ rfl ⟨by simp,.inr ⟨_,_,rfl,Blk.new _ _ _,?_,by simp,by simp [maxLen];omega,by simp⟩⟩ (.push _ _)⟩
 rw [size_madeCells,hsz]
section
variable {α:Type}{f:α->List Value}{k:Nat}{e:TypeId}{h:H}{s:Sl}{D:List α}
theorem xz (hf:∀ x,(f x).length=k) (hk:0<k) (w:aU h s e k (D.flatMap f)) (hD:D≠[]):∃ b,s=⟨some ⟨b,0,none⟩,D.length,s.cap⟩:=by
 have hl:=bH hf hk w
 have:=List.length_pos_iff.2 hD
 obtain ⟨_,⟨h1,h2,h3⟩ | ⟨b,c,h1,h2,h3,h4,h5,h6⟩⟩:=w
 ·omega
 ·refine ⟨b,?_⟩
  obtain ⟨sp,sl,sc⟩:=s
  simp only at h1 hl
  rw [h1,hl]
theorem pX {b n c:Nat}(hf:∀ x,(f x).length=k) (hk:0<k) (w:aU h ⟨some ⟨b,0,none⟩,D.length,c⟩ e k (D.flatMap f)) (hn:n<=D.length):aU h ⟨some ⟨b,0,none⟩,n,c⟩ e k ((D.take n).flatMap f):=by
 have:=oN hf hk w hn
 have he:cS ⟨some ⟨b,0,none⟩,D.length,c⟩ 0 n k=⟨some ⟨b,0,none⟩,n,c⟩:=by
  simp only [cS];split <;> simp [aC]
 rwa [he] at this
end
abbrev mkC:Cel:=⟨-77,⟨#[]⟩,0⟩
abbrev ovC:Cel:=⟨0,⟨#[111,118,101,114]⟩,0⟩
abbrev qf (h:H) (b c:Nat) (L:List Cel):Prop:=aU h ⟨some ⟨b,0,none⟩,(L ++ [mkC]).length,c⟩ aJ 3 ((L ++ [mkC]).flatMap ae.cells)
abbrev qg (h:H) (b c:Nat) (L:List Int):Prop:=aU h ⟨some ⟨b,0,none⟩,(L ++ [(-77:Int)]).length,c⟩ eX 1 ((L ++ [(-77:Int)]).flatMap cI)
theorem qf.reads {h:H}{b c:Nat}{L:List Cel}(w:qf h b c L):aU h ⟨some ⟨b,0,none⟩,L.length,c⟩ aJ 3 (L.flatMap ae.cells):=by
 have:=pX (n:=L.length) dr (by omega) w (by simp)
 rwa [List.take_left] at this
theorem qg.reads {h:H}{b c:Nat}{L:List Int}(w:qg h b c L):aU h ⟨some ⟨b,0,none⟩,L.length,c⟩ eX 1 (L.flatMap cI):=by
 have:=pX (n:=L.length) fZ (by omega) w (by simp)
 rwa [List.take_left] at this
theorem qe {h:H}{s:Sl}{L:List Cel}{Q:Sl->H->Prop}(rd:bS h s 3 (L.flatMap ae.cells)) (hl:L.length<=100000) (k:∀ b c h',qf h' b c L->h.size<=b->Ext h h'->Q ⟨some ⟨b,0,none⟩,L.length,c⟩ h'):F.xen s h Q:=by
 unfold F.xen
 have hlen:=cz dr (by omega) rd
 rw [hlen,show IntKind.wrap .i64 ((L.length:Int)+3)=((L.length+3:Nat):Int) by rw [w64 (by omega) (by omega)];omega]
 refine C6 (by omega) fun b h1 hb w1 e1=>?_
 refine fJ (h0:=h) (L:=[]) (M:=L) e1 (fun x hx=>by simp [Sl.blk] at hx;omega) dr (by omega) ef w1 (rd.ext e1) (fun x=>bz x) (by simp only [List.length_nil];omega) fun s4 h3 w4 e3 m4 _ _=>?_
 refine eA (x:=mkC) e3 m4 dr (by omega) ef w4 (fun x=>bz x) (by rw [List.length_append,List.length_nil];omega) fun s8 h7 w8 e7 m8 _ _=>?_
 rw [List.nil_append] at w8
 obtain ⟨b8,hb8⟩:=xz dr (by omega) w8 (by simp)
 have hc:=w8.le_cap
 have hl8:=bH dr (by omega) w8
 rw [List.length_append] at hl8
 refine fQ (lo:=0) (hi:=L.length) rfl rfl (Nat.zero_le _) (by simp at hl8;omega) ?_
 have he:cS s8 0 L.length 3=⟨some ⟨b8,0,none⟩,L.length,s8.cap⟩:=by
  rw [hb8];simp only [cS];split <;> simp [aC]
 rw [he]
 refine k b8 s8.cap h7 (by rw [hb8] at w8;exact w8) (m8 b8 (by rw [hb8];rfl)) e7
theorem vB {h:H}{s:Sl}{L:List Int}{Q:Sl->H->Prop}(rd:bS h s 1 (L.flatMap cI)) (hl:L.length<=100000) (k:∀ b c h',qg h' b c L->h.size<=b->Ext h h'->Q ⟨some ⟨b,0,none⟩,L.length,c⟩ h'):F.xep s h Q:=by
 unfold F.xep
 have hlen:=cz fZ (by omega) rd
 rw [hlen,show IntKind.wrap .i64 ((L.length:Int)+3)=((L.length+3:Nat):Int) by rw [w64 (by omega) (by omega)];omega]
 refine DX (by omega) fun b h1 hb w1 e1=>?_
 refine fJ (h0:=h) (L:=[]) (M:=L) e1 (fun x hx=>by simp [Sl.blk] at hx;omega) fZ (by omega) lz w1 (rd.ext e1) (fun x=>de rfl) (by simp only [List.length_nil];omega) fun s4 h3 w4 e3 m4 _ _=>?_
 refine eA (x:=(-77:Int)) e3 m4 fZ (by omega) lz w4 (fun x=>de rfl) (by rw [List.length_append,List.length_nil];omega) fun s8 h7 w8 e7 m8 _ _=>?_
 rw [List.nil_append] at w8
 obtain ⟨b8,hb8⟩:=xz fZ (by omega) w8 (by simp)
 have hc:=w8.le_cap
 have hl8:=bH fZ (by omega) w8
 rw [List.length_append] at hl8
 refine fQ (lo:=0) (hi:=L.length) rfl rfl (Nat.zero_le _) (by simp at hl8;omega) ?_
 have he:cS s8 0 L.length 1=⟨some ⟨b8,0,none⟩,L.length,s8.cap⟩:=by
  rw [hb8];simp only [cS];split <;> simp [aC]
 rw [he]
 refine k b8 s8.cap h7 (by rw [hb8] at w8;exact w8) (m8 b8 (by rw [hb8];rfl)) e7
theorem uM {h:H}{s:Sl}{A:List Int}(rd:bS h s 1 (A.flatMap cI)){i:Nat}{x:Int}(hx:A[i]?=some x){K:Int->Prop}(k:K x):bD s (i:Int) 1 fun a=>ldI .i64 h a K:=by
 obtain ⟨p,p1,p2,p3⟩:=gw fZ (by omega) rd hx
 have hl:=cz fZ (by omega) rd
 exact dK (i:=i) p1 (by have:=(List.getElem?_eq_some_iff.1 hx).1;omega) rfl ((bA p3.one).2 k)
theorem qd {h:H}{s:Sl}{b c:Nat}{L:List Cel}{Q:Bool->H->Prop}(w:qf h b c L) (rd:bS h s 3 (L.flatMap ae.cells)) (hs:L≠[]->s.blk≠some b) (hl:L.length<=100000) (k:∀ h',bI (·=b) h h'->Q true h'):F.xav ⟨some ⟨b,0,none⟩,L.length,c⟩ s h Q:=by
 unfold F.xav
 have hlen:=cz dr (by omega) rd
 have hcap:L.length+1<=c:=by have:=w.le_cap;simpa using this
 rw [hlen,show IntKind.wrap .i64 ((L.length:Int)+1)=((L.length+1:Nat):Int) by rw [w64 (by omega) (by omega)];omega]
 refine fQ (lo:=0) (hi:=L.length+1) rfl rfl (Nat.zero_le _) hcap ?_
 have he:cS ⟨some ⟨b,0,none⟩,L.length,c⟩ 0 (L.length+1) 3=⟨some ⟨b,0,none⟩,(L ++ [mkC]).length,c⟩:=by
  simp only [cS];split <;> simp [aC]
 rw [he]
 refine gP (aU.reads w) (i:=L.length) (x:=mkC) (by simp) fun a ca=>⟨mkC,ca,?_⟩
 suffices hsuf:∀ bb:Bool,bb=true->∃ m,F.xav.l1 Q m ⟨some ⟨b,0,none⟩,L.length,c⟩ s bb 0 h from hsuf _ (kI.2 rfl)
 intro bb hbb
 subst hbb
 refine ⟨L.length+1,?_⟩
 have loop:∀ (d i:Nat) (D:List Cel) (hh:H),i<=L.length->L.length-i<d->aU hh ⟨some ⟨b,0,none⟩,L.length,c⟩ aJ 3 (D.flatMap ae.cells)->D.length=L.length->D.drop i=L.drop i->bI (·=b) h hh->F.xav.l1 Q d ⟨some ⟨b,0,none⟩,L.length,c⟩ s true (i:Int) hh:=by
  intro d
  induction d with
  | zero=>intro i _ _ _ hm;omega
  | succ d ih =>
   intro i D hh hi hm wD hD hdr o
   unfold F.xav.l1
   rw [hlen]
   refine ⟨fun g=>⟨fun _=>?_,fun g2=>by cases g2⟩,fun _=>k hh o⟩
   have g:=of_decide_eq_true g
   obtain ⟨x,hx⟩:∃ x,L[i]?=some x:=⟨_,List.getElem?_eq_getElem (by omega)⟩
   have hxD:D[i]?=some x:=by
    have:=congrArg (fun l:List Cel=>l[0]?) hdr
    simp only [List.getElem?_drop,Nat.add_zero] at this
    rw [this];exact hx
   have hne:L≠[]:=fun e=>by rw [e] at hx;cases hx
   refine gP wD.reads hxD fun a1 c1=>⟨x,c1,gP (rd.keep o fun hn b' hb' e=>hs hn (by rw [hb',e])) hx fun a2 c2=>⟨x,c2,?_⟩⟩
   suffices hsuf:∀ bb:Bool,bb=true->F.xav.j3 Q (F.xav.l1 Q d) ⟨some ⟨b,0,none⟩,L.length,c⟩ s bb (i:Int) hh from hsuf _ (kI.2 rfl)
   intro bb hbb
   subst hbb
   unfold F.xav.j3 F.xav.j2
   refine mN (D:=D) (i:=i) (x:=ovC) dr (by omega) wD (by omega) fun h10 w10 o10=>?_
   rw [fM (by omega)]
   refine ih (i+1) _ h10 (by omega) (by omega) w10 (by rw [List.length_set];exact hD) ?_ (o.trans o10 fun n _ e=>by simp [Sl.blk] at e;exact e.symm)
   rw [List.drop_set_of_lt (by omega)]
   have:=congrArg (List.drop 1) hdr
   rw [List.drop_drop,List.drop_drop] at this
   exact this
 exact loop _ 0 L h (by omega) (by omega) (qf.reads w) rfl rfl (.refl _)
theorem rA {h:H}{s:Sl}{b c:Nat}{L:List Int}{Q:Bool->H->Prop}(w:qg h b c L) (rd:bS h s 1 (L.flatMap cI)) (hs:L≠[]->s.blk≠some b) (hl:L.length<=100000) (k:∀ h',bI (·=b) h h'->Q true h'):F.xba ⟨some ⟨b,0,none⟩,L.length,c⟩ s h Q:=by
 unfold F.xba
 have hlen:=cz fZ (by omega) rd
 have hcap:L.length+1<=c:=by have:=w.le_cap;simpa using this
 rw [hlen,show IntKind.wrap .i64 ((L.length:Int)+1)=((L.length+1:Nat):Int) by rw [w64 (by omega) (by omega)];omega]
 refine fQ (lo:=0) (hi:=L.length+1) rfl rfl (Nat.zero_le _) hcap ?_
 have he:cS ⟨some ⟨b,0,none⟩,L.length,c⟩ 0 (L.length+1) 1=⟨some ⟨b,0,none⟩,(L ++ [(-77:Int)]).length,c⟩:=by
  simp only [cS];split <;> simp [aC]
 rw [he]
 refine uM (aU.reads w) (i:=L.length) (x:=(-77:Int)) (by simp) ?_
 rw [show (((-77:Int) == (-77)))=true from rfl]
 refine ⟨L.length+1,?_⟩
 have loop:∀ (d i:Nat) (D:List Int) (hh:H),i<=L.length->L.length-i<d->aU hh ⟨some ⟨b,0,none⟩,L.length,c⟩ eX 1 (D.flatMap cI)->D.length=L.length->D.drop i=L.drop i->bI (·=b) h hh->F.xba.l1 Q d ⟨some ⟨b,0,none⟩,L.length,c⟩ s true (i:Int) hh:=by
  intro d
  induction d with
  | zero=>intro i _ _ _ hm;omega
  | succ d ih =>
   intro i D hh hi hm wD hD hdr o
   unfold F.xba.l1
   rw [hlen]
   refine ⟨fun g=>⟨fun _=>?_,fun g2=>by cases g2⟩,fun _=>k hh o⟩
   have g:=of_decide_eq_true g
   obtain ⟨x,hx⟩:∃ x,L[i]?=some x:=⟨_,List.getElem?_eq_getElem (by omega)⟩
   have hxD:D[i]?=some x:=by
    have:=congrArg (fun l:List Int=>l[0]?) hdr
    simp only [List.getElem?_drop,Nat.add_zero] at this
    rw [this];exact hx
   refine uM wD.reads hxD (uM (rd.keep o fun hn b' hb' e=>hs hn (by rw [hb',e])) hx ?_)
   rw [show ((x == x))=true from by simp]
   unfold F.xba.j3 F.xba.j2
   refine mN (D:=D) (i:=i) (x:=(31:Int)) (f:=cI) fZ (by omega) wD (by omega) fun h10 w10 o10=>?_
   rw [fM (by omega)]
   refine ih (i+1) _ h10 (by omega) (by omega) w10 (by rw [List.length_set];exact hD) ?_ (o.trans o10 fun n _ e=>by simp [Sl.blk] at e;exact e.symm)
   rw [List.drop_set_of_lt (by omega)]
   have:=congrArg (List.drop 1) hdr
   rw [List.drop_drop,List.drop_drop] at this
   exact this
 exact loop _ 0 L h (by omega) (by omega) (qg.reads w) rfl rfl (.refl _)
abbrev tS7:TypeId:=mQ
abbrev tH7:TypeId:=nS
abbrev tV7:TypeId:=lS
def rV (v:Ver):bL:=⟨v.epoch,v.value,v.dead⟩
abbrev fV (v:Ver):List Value:=(rV v).cells
theorem gc (v:Ver):(fV v).length=6:=rfl
theorem vX (v:Ver):∀ x∈fV v,x.oneCell'=true:=gv (rV v)
structure DR where
 c:Cel
 vs:List Ver
 s:Sl
abbrev hR (r:DR):List Value:=(⟨r.c,r.s⟩:ci).cells
theorem gE (r:DR):(hR r).length=4:=rfl
theorem tJ (r:DR):∀ x∈hR r,x.oneCell'=true:=lp ⟨r.c,r.s⟩
def toD (Z:List DR):SL:=Z.map fun r=>(r.c,r.vs)
theorem jS (Z:List DR):(toD Z).length=Z.length:=List.length_map _
structure DZ (h:H) (d:Nat) (Z:List DR) (slots:Nat) (x:Sl):Prop where
 sb:Blk h d #[.int .i64 (slots:Int),x.enc] tS7
 row:aU h x tH7 4 (Z.flatMap hR)
 vs:∀ r∈Z,aU h r.s tV7 6 (r.vs.flatMap fV)
def DH (h:H) (d:Nat) (S:SL) (slots:Nat):Prop:=∃ x Z,toD Z=S∧DZ h d Z slots x
def DTy (h:H) (b:Nat):Prop:=∃ e c,(e=tS7∨e=tH7∨e=tV7)∧Blk h b c e
theorem ie {h:H}{s:Sl}{e:TypeId}{k:Nat}{cs:List Value}(w:aU h s e k cs){b:Nat}(hb:s.blk=some b):∃ c,Blk h b c e:=by
 obtain ⟨_,⟨q1,_,_⟩ | ⟨b',c',q1,q2,_⟩⟩:=w
 ·simp [Sl.blk,q1] at hb
 ·simp [Sl.blk,q1] at hb
  subst hb;exact ⟨c',q2⟩
section
variable {h h':H}{d:Nat}{Z:List DR}{S:SL}{slots:Nat}{x:Sl}
theorem DZ.keep {P:Nat->Prop}(z:DZ h d Z slots x) (o:bI P h h') (hn:∀ b,DTy h b->¬ P b):DZ h' d Z slots x:=
 ⟨o.block z.sb (hn d ⟨_,_,.inl rfl,z.sb⟩),z.row.only o fun b hb=>by
  obtain ⟨c,q⟩:=ie z.row hb
  exact hn b ⟨_,c,.inr (.inl rfl),q⟩,fun r hr=>(z.vs r hr).only o fun b hb=>by
  obtain ⟨c,q⟩:=ie (z.vs r hr) hb
  exact hn b ⟨_,c,.inr (.inr rfl),q⟩⟩
theorem DZ.ext (z:DZ h d Z slots x) (e:Ext h h'):DZ h' d Z slots x:=z.keep e fun _ _ f=>f
theorem DH.keep {P:Nat->Prop}(z:DH h d S slots) (o:bI P h h') (hn:∀ b,DTy h b->¬ P b):DH h' d S slots:=by
 obtain ⟨x,Z,h1,z⟩:=z
 exact ⟨x,Z,h1,z.keep o hn⟩
theorem DH.ext (z:DH h d S slots) (e:Ext h h'):DH h' d S slots:=z.keep e fun _ _ f=>f
theorem Ds {b:Nat}(t:DTy h b):¬ lw h b:=by
 obtain ⟨e,c,he,hb⟩:=t
 refine iw hb ?_
 rcases he with rfl | rfl | rfl <;> (unfold ShE;decide)
theorem DH.oth (z:DH h d S slots){t:Sl}{e:TypeId}{k:Nat}{cs:List Value}(o:bI (fun b=>t.blk=some b) h h') (w:aU h t e k cs) (he:e≠tS7∧e≠tH7∧e≠tV7):DH h' d S slots:=z.keep o fun b hb hh=>by
 obtain ⟨e',c',he',hb'⟩:=hb
 obtain ⟨c,hc⟩:=ie w hh
 have:=hc.symm.trans hb'
 simp at this
 rcases he' with rfl | rfl | rfl
 ·exact he.1 this.2
 ·exact he.2.1 this.2
 ·exact he.2.2 this.2
theorem DH.lt (z:DH h d S slots):d<h.size:=by
 obtain ⟨x,Z,h1,z⟩:=z
 exact dx z.sb
theorem DH.typ (z:DH h d S slots):∃ c,Blk h d c tS7:=by
 obtain ⟨x,Z,h1,z⟩:=z
 exact ⟨_,z.sb⟩
theorem DZ.cs0 (z:DZ h d Z slots x):aA h ⟨d,0,none⟩=some (.int .i64 (slots:Int)):=z.sb.cell rfl
theorem DZ.cs1 (z:DZ h d Z slots x):aA h ⟨d,1,none⟩=some x.enc:=z.sb.cell rfl
theorem i5 {s:Sl}(w:bS h s 4 (Z.flatMap hR)){i:Nat}{r:DR}(hr:Z[i]?=some r){K:Addr->Prop}(k:∀ a,Cells h (a.add 0) r.c.cells->aA h (a.add 3)=some r.s.enc->K a):bD s (i:Int) 4 K:=by
 obtain ⟨p,p1,p2,p3⟩:=gw gE (by omega) w hr
 have hl:=cz gE (by omega) w
 refine dK (i:=i) p1 (by have:=(List.getElem?_eq_some_iff.1 hr).1;omega) rfl (k _ (fun j v hv=>?_) (p3 3 _ rfl))
 have hj:j<3:=(List.getElem?_eq_some_iff.1 hv).1
 have e:((p.add (i*4)).add 0).add j=(p.add (i*4)).add j:=by simp [Addr.add]
 rw [e]
 exact p3 j v (by
  match j,hj,hv with
  | 0,_,hv=>exact hv
  | 1,_,hv=>exact hv
  | 2,_,hv=>exact hv)
theorem lg {s:Sl}{vs:List Ver}(w:bS h s 6 (vs.flatMap fV)){i:Nat}{v:Ver}(hv:vs[i]?=some v){K:Addr->Prop}(k:∀ a,aA h (a.add 0)=some (.int .i64 v.epoch)->Cells h (a.add 1) v.value.cells->aA h (a.add 5)=some (.bool v.dead)->Cells h a (fV v)->K a):bD s (i:Int) 6 K:=by
 obtain ⟨p,p1,p2,p3⟩:=gw gc (by omega) w hv
 have hl:=cz gc (by omega) w
 refine dK (i:=i) p1 (by have:=(List.getElem?_eq_some_iff.1 hv).1;omega) rfl (k _ (p3 0 _ rfl) (fun j u hu=>?_) (p3 5 _ rfl) p3)
 have hj:j<4:=(List.getElem?_eq_some_iff.1 hu).1
 have e:((p.add (i*6)).add 1).add j=(p.add (i*6)).add (1+j):=by simp [Addr.add,Nat.add_assoc]
 rw [e]
 exact p3 (1+j) u (by
  match j,hj,hu with
  | 0,_,hu=>exact hu
  | 1,_,hu=>exact hu
  | 2,_,hu=>exact hu
  | 3,_,hu=>exact hu)
end
theorem qJ:∀ (a b:List UInt8),Op.bytesLess a b=decide (Lib.compareBytes a b=-1)
 | [],[]=>by simp [Op.bytesLess,Lib.compareBytes]
 | _ :: _,[]=>by simp [Op.bytesLess,Lib.compareBytes]
 | [],_ :: _=>by simp [Op.bytesLess,Lib.compareBytes]
 | a :: x,b :: y=>by
  have ih:=qJ x y
  rw [Op.bytesLess,ih,Lib.compareBytes]
  by_cases h1:a<b
  ·simp [h1]
  ·by_cases h2:b<a
   ·have:¬ a=b:=fun e=>by subst e;exact h1 h2
    simp [h1,h2,this]
   ·have:a=b:=UInt8.le_antisymm (UInt8.not_lt.1 h2) (UInt8.not_lt.1 h1)
    simp [this]
theorem io {a b:Cel}{h:H}{Q:Bool->H->Prop}(k:∀ h',Ext h h'->Q (decide (bZ a b=-1)) h'):F.xdd a b h Q:=by
 unfold F.xdd
 refine aN fun m h1 hm b1 e1 s1=>aN fun n h3 hn b3 e3 s3=>?_
 have a0:aA h3 ⟨m,0,none⟩=some (.int .i64 a.View):=e3.cell (Blk.cells b1 0 _ rfl) fun f=>f
 have a1:aA h3 ⟨m,1,none⟩=some (.string a.Key):=e3.cell (Blk.cells b1 1 _ rfl) fun f=>f
 have a2:aA h3 ⟨m,2,none⟩=some (.int .i64 a.Start):=e3.cell (Blk.cells b1 2 _ rfl) fun f=>f
 have b0:aA h3 ⟨n,0,none⟩=some (.int .i64 b.View):=Blk.cells b3 0 _ rfl
 have b1':aA h3 ⟨n,1,none⟩=some (.string b.Key):=Blk.cells b3 1 _ rfl
 have b2:aA h3 ⟨n,2,none⟩=some (.int .i64 b.Start):=Blk.cells b3 2 _ rfl
 have k:=k h3 (e1.trans e3)
 have hlt:=Cc (a:=a) (b:=b)
 have hI:=pf (x:=a.View) (y:=b.View)
 simp only [aC,Nat.zero_add,Nat.add_zero]
 refine aW a0 (aW b0 ⟨fun g=>aW a0 (aW b0 ?_),fun g=>jU a1 (jU b1' ⟨fun g2=>jU a1 (jU b1' ?_),fun g2=>aW a2 (aW b2 ?_)⟩)⟩)
 ·have g:a.View≠b.View:=by simpa using g
  rw [show decide (bZ a b=-1)=decide (a.View<b.View) by
   rw [decide_eq_decide,hlt,hI]
   exact ⟨fun h=>h.elim id fun h=>absurd h.1 g,.inl⟩] at k
  exact k
 ·have g:a.View=b.View:=by simpa using g
  have g2:¬ a.Key.data.toList=b.Key.data.toList:=by rw [dF,dF] at g2;simpa using g2
  rw [dF,dF,qJ]
  rw [show decide (bZ a b=-1)=decide (Lib.compareBytes a.Key.data.toList b.Key.data.toList=-1) by
   rw [decide_eq_decide,hlt,hI]
   refine ⟨fun h=>?_,fun h=>.inr ⟨g,.inl h⟩⟩
   rcases h with h | ⟨_,h | ⟨h,_⟩⟩
   ·omega
   ·exact h
   ·exact absurd h g2] at k
  exact k
 ·have g:a.View=b.View:=by simpa using g
  have g2:a.Key.data.toList=b.Key.data.toList:=by rw [dF,dF] at g2;simpa using g2
  have hz:Lib.compareBytes a.Key.data.toList b.Key.data.toList≠-1:=by
   have:=(tw (x:=a.Key.data.toList) (y:=b.Key.data.toList)).2 g2
   omega
  rw [show decide (bZ a b=-1)=decide (a.Start<b.Start) by
   rw [decide_eq_decide,hlt,hI]
   refine ⟨fun h=>?_,fun h=>.inr ⟨g,.inr ⟨g2,h⟩⟩⟩
   rcases h with h | ⟨_,h | ⟨_,h⟩⟩
   ·omega
   ·exact absurd h hz
   ·exact h] at k
  exact k
section
variable {h:H}{d:Nat}{Z:List DR}{slots:Nat}{x:Sl}
theorem iz {c:Cel}{Q:Int->Bool->H->Prop}(z:DZ h d Z slots x) (hs:fA DR.c Z) (hZ:Z.length<=1048576)
  (k1:∀ (i:Nat) (r:DR),Z[i]?=some r->r.c=c->∀ h',Ext h h'->Q (i:Int) true h')
  (k0:∀ i,i<=Z.length->(∀ r∈Z.take i,bZ r.c c=-1)->(∀ r∈Z.drop i,bZ c r.c=-1)->∀ h',Ext h h'->Q (i:Int) false h'):F.xcg (some ⟨d,0,none⟩) c h Q:=by
 have hl:=bH gE (by omega) z.row
 unfold F.xcg
 refine aN fun m h1 hm b1 e1 s1=>⟨Z.length+1,?_⟩
 have loop:∀ (n i:Nat) (hh:H),i<=Z.length->Z.length-i<n->Ext h1 hh->(∀ r∈Z.take i,bZ r.c c=-1)->F.xcg.l1 Q n (some ⟨d,0,none⟩) ⟨m,0,none⟩ (i:Int) hh:=by
  intro n
  induction n with
  | zero=>intro i _ _ hm;omega
  | succ n ih =>
   intro i hh hi hm e hlt
   have eh:=e1.trans e
   have z':=z.ext eh
   unfold F.xcg.l1
   simp only [aZ,aC,Nat.zero_add,Nat.add_zero]
   rw [bj z'.cs1,hl]
   refine ⟨fun g=>?_,fun g=>?_⟩
   ·have g:=of_decide_eq_true g
    obtain ⟨r,hr⟩:∃ r,Z[i]?=some r:=⟨_,List.getElem?_eq_getElem (by omega)⟩
    rw [bj z'.cs1]
    have bm:=e.block b1 fun f=>f
    refine i5 z'.row.reads hr fun a ca _=>⟨r.c,ca,c,Blk.cells bm,fun g2=>?_,fun g2=>⟨c,Blk.cells bm,?_⟩⟩
    ·exact k1 i r hr (kI.1 g2) hh eh
    ·have hne:r.c≠c:=fun e=>by rw [kI.2 e] at g2;cases g2
     refine dJ z'.cs1 (i5 z'.row.reads hr fun a2 ca2 _=>⟨r.c,ca2,io fun h29 e29=>⟨fun g3=>?_,fun g3=>?_⟩⟩)
     ·have g3:=of_decide_eq_true g3
      refine k0 i (by omega) hlt (fun q hq=>?_) h29 (eh.trans e29)
      obtain ⟨j,hj⟩:=List.mem_iff_getElem?.1 hq
      rw [List.getElem?_drop] at hj
      rcases Nat.eq_zero_or_pos j with hj0 | hj0
      ·rw [hj0,Nat.add_zero,hr] at hj;cases hj;exact g3
      ·obtain ⟨q1,q2⟩:=List.getElem?_eq_some_iff.1 hj
       obtain ⟨q3,q4⟩:=List.getElem?_eq_some_iff.1 hr
       have:=List.pairwise_iff_getElem.1 hs i (i+j) q3 q1 (by omega)
       rw [q2,q4] at this
       exact gN g3 this
     ·have g3:=of_decide_eq_false g3
      have hrc:bZ r.c c=-1:=by
       have h1:=dR r.c c
       have h2:=cZ c r.c
       have h3:bZ c r.c≠0:=fun e=>hne (dq.1 e).symm
       omega
      rw [fM (by omega)]
      refine ih (i+1) h29 (by omega) (by omega) (e.trans e29) fun q hq=>?_
      rw [ed hr,List.mem_append] at hq
      rcases hq with hq | hq
      ·exact hlt q hq
      ·rw [List.mem_singleton.1 hq];exact hrc
   ·have g:=of_decide_eq_false g
    have hi':i=Z.length:=by omega
    subst hi'
    rw [bj z'.cs1,hl]
    exact k0 _ (Nat.le_refl _) hlt (fun q hq=>by rw [List.drop_length] at hq;cases hq) hh eh
 exact loop _ 0 h1 (by omega) (by omega) (.refl _) fun r hr=>by simp at hr
theorem xn {c:Cel}:cx (toD Z) c=(dI DR.c Z c).map (·.vs):=by
 show (dI _ (Z.map _) c).map _=_
 rw [tO (key:=DR.c) (key':=fun x:Cel×List Ver=>x.1) (fun r:DR=>(r.c,r.vs)) (fun _=>rfl),Option.map_map]
 rfl
theorem kB (h:gI (toD Z)):fA DR.c Z:=by
 unfold gI fA toD at h
 rw [List.pairwise_map] at h
 exact h
theorem zV {i:Nat}{r:DR}(hs:fA DR.c Z) (hr:Z[i]?=some r):cx (toD Z) r.c=some r.vs:=by
 rw [xn,gm hs (List.mem_of_getElem? hr)];rfl
theorem zX {i:Nat}{c:Cel}(h1:∀ r∈Z.take i,bZ r.c c=-1) (h2:∀ r∈Z.drop i,bZ c r.c=-1):cx (toD Z) c=none:=by
 rw [xn]
 have:dI DR.c Z c=none:=by
  unfold dI
  rw [List.find?_eq_none]
  intro r hr
  rw [← List.take_append_drop i Z,List.mem_append] at hr
  rcases hr with hr | hr
  ·have:=h1 r hr;simp;omega
  ·have:=h2 r hr
   have h3:=dR r.c c
   simp;omega
 rw [this];rfl
theorem jW {c:Cel}{Q:Sl->H->Prop}(z:DZ h d Z slots x) (hs:fA DR.c Z) (hZ:Z.length<=1048576) (k:∀ s h',aU h' s tV7 6 (((cx (toD Z) c).getD []).flatMap fV)->Ext h h'->Q s h'):F.xdn (some ⟨d,0,none⟩) c h Q:=by
 unfold F.xdn
 refine aN fun m h1 hm b1 e1 s1=>⟨c,Blk.cells b1,iz (z.ext e1) hs hZ (fun i r hr hc h5 e5=>⟨fun g=>(by cases g),fun _=>?_⟩) fun i hi q1 q2 h5 e5=>⟨fun _=>?_,fun g=>by cases g⟩⟩
 ·have z5:=(z.ext e1).ext e5
  simp only [aZ,aC,Nat.zero_add,Nat.add_zero]
  rw [bj z5.cs1]
  refine i5 z5.row.reads hr fun a _ c3=>dJ c3 (k r.s h5 ?_ (e1.trans e5))
  rw [← hc,zV hs hr]
  exact z5.vs r (List.mem_of_getElem? hr)
 ·refine k _ h5 ?_ (e1.trans e5)
  rw [zX q1 q2]
  exact aU.nil _ _ _
end
section
variable {h:H}{s:Sl}{vs:List Ver}
theorem lL {Q:Int->H->Prop}(w:aU h s tV7 6 (vs.flatMap fV)) (hv:vs.length<=1048577) (k:Q (C.bT vs).2.1 h):F.xdo s h Q:=by
 have hl:=bH gc (by omega) w
 unfold F.xdo
 rw [hl]
 refine ⟨fun g=>?_,fun g=>?_⟩
 ·have g:vs.length=0:=by
   have:((vs.length:Nat):Int)=0:=eq_of_beq g
   omega
  have:vs=[]:=List.eq_nil_of_length_eq_zero g
  rw [this] at k;exact k
 ·have g:((vs.length:Nat):Int)≠0:=by simpa using g
  have hne:vs≠[]:=fun e=>g (by rw [e];rfl)
  have hg:=C.fp hne
  rw [w64 (by omega) (by omega),show (vs.length:Int)-1=((vs.length-1:Nat):Int) by omega]
  refine lg w.reads hg fun a c0 _ _ _=>aW c0 ?_
  unfold C.bT at k
  rw [List.getLast?_eq_some_getLast hne] at k
  exact k
theorem iZ {Q:Int->H->Prop}(w:aU h s tV7 6 (vs.flatMap fV)) (hv:vs.length<=1048577) (k:Q ((dl vs:Nat):Int) h):F.xay s h Q:=by
 have hl:=bH gc (by omega) w
 unfold F.xay
 rw [hl]
 refine ⟨fun g=>?_,fun g=>?_⟩
 ·have g:=of_decide_eq_true g
  have hne:vs≠[]:=fun e=>by rw [e] at g;simp at g
  have hg:=C.fp hne
  rw [w64 (n:=(vs.length:Int)-1) (by omega) (by omega),show (vs.length:Int)-1=((vs.length-1:Nat):Int) by omega]
  refine lg w.reads hg fun a _ _ c5 _=>hQ c5 ?_
  have hu:dl vs=vs.length+if (vs.getLast hne).dead then 0 else 1:=by
   unfold dl eS C.bT
   rw [List.getLast?_eq_some_getLast hne]
   show vs.length+(if (!(vs.getLast hne).dead)=true then 1 else 0)=_
   cases (vs.getLast hne).dead <;> rfl
  unfold F.xay.j2 F.xay.j1
  rw [hu] at k
  cases hd:(vs.getLast hne).dead with
  | true =>
   rw [hd] at k
   exact ⟨fun g=>(by cases g),fun _=>k⟩
  | false =>
   rw [hd] at k
   refine ⟨fun _=>?_,fun g=>by cases g⟩
   rw [fM (by omega)];exact k
 ·have g:=of_decide_eq_false g
  have:vs=[]:=List.eq_nil_of_length_eq_zero (by omega)
  subst this
  unfold F.xay.j2 F.xay.j1
  exact ⟨fun g=>(by cases g),fun _=>k⟩
theorem Ac {vs:List Ver}(hne:vs≠[]) (x:Ver):vs.set (vs.length-1) x=vs.dropLast ++ [x]:=by
 have hp:=List.length_pos_iff.2 hne
 rw [List.set_eq_take_append_cons_drop,if_pos (by omega),List.dropLast_eq_take,List.drop_eq_nil_of_le (by omega)]
theorem oZ {v:Ver}{Q:Sl->H->Prop}(w:aU h s tV7 6 (vs.flatMap fV)) (hv:vs.length<=1048576) (k:∀ r h',aU h' r tV7 6 ((C.fH vs v).flatMap fV)->dL h r->Ext h h'->Q r h'):F.xbe s (rV v) h Q:=by
 unfold F.xbe
 refine aN fun m h1 hm b1 e1 s1=>?_
 have c0:aA h1 ⟨m,0,none⟩=some (.int .i64 v.epoch):=Blk.cells b1 0 _ rfl
 refine fJ (h0:=h) (L:=([]:List Ver)) (M:=vs) e1 (dL.nil _ _ _) gc (by omega) fh (aU.nil _ _ _) (w.ext e1).reads vX (by simp only [List.length_nil];omega) fun r h3 w3 e3 m3 o3 q3=>?_
 rw [List.nil_append] at w3
 have hl:=bH gc (by omega) w3
 rw [hl]
 have e13:Ext h1 h3:=o3.mono fun b _ hb=>by simp [Sl.blk] at hb
 have b3:Blk h3 m (rV v).cells.toArray tV7:=e13.block b1 fun f=>f
 have c03:aA h3 ⟨m,0,none⟩=some (.int .i64 v.epoch):=Blk.cells b3 0 _ rfl
 have app:¬ (vs≠[]∧C.fE vs=v.epoch)->F.xbe.j2 Q ⟨m,0,none⟩ r (vs.length:Int) false h3:=fun hno=>by
  unfold F.xbe.j2 F.xbe.j1
  refine ⟨fun g=>(by cases g),fun _=>⟨rV v,Blk.cells b3,?_⟩⟩
  refine eA (x:=v) (h0:=h) e3 m3 gc (by omega) fh w3 vX (by omega) fun r9 h9 w9 e9 m9 _ _=>?_
  refine k r9 h9 ?_ m9 e9
  rw [show C.fH vs v=vs ++ [v] from if_neg hno]
  exact w9
 refine ⟨fun g=>?_,fun g=>?_⟩
 ·have g:=of_decide_eq_true g
  have hne:vs≠[]:=fun e=>by rw [e] at g;simp at g
  have hg:=C.fp hne
  rw [w64 (n:=(vs.length:Int)-1) (by omega) (by omega),show (vs.length:Int)-1=((vs.length-1:Nat):Int) by omega]
  simp only [aC,Nat.add_zero]
  refine lg w3.reads hg fun a q0 _ _ _=>aW q0 (aW c03 ?_)
  by_cases he:(vs.getLast hne).epoch=v.epoch
  ·rw [show ((vs.getLast hne).epoch == v.epoch)=true from by simpa using he]
   unfold F.xbe.j2
   refine ⟨fun _=>⟨rV v,Blk.cells b3,?_⟩,fun g=>by cases g⟩
   rw [w64 (n:=(vs.length:Int)-1) (by omega) (by omega),show (vs.length:Int)-1=((vs.length-1:Nat):Int) by omega]
   refine mN (f:=fV) (D:=vs) (i:=vs.length-1) (x:=v) gc (by omega) w3 (by omega) fun h16 w16 o16=>?_
   refine k r h16 ?_ m3 (e3.mine m3 o16)
   rw [show C.fH vs v=vs.dropLast ++ [v] from if_pos ⟨hne,by rw [oG hne];exact he⟩,← Ac hne]
   exact w16
  ·rw [show ((vs.getLast hne).epoch == v.epoch)=false from by simpa using he]
   exact app fun hh=>he (by rw [← oG hne];exact hh.2)
 ·have g:=of_decide_eq_false g
  have:vs=[]:=List.eq_nil_of_length_eq_zero (by omega)
  exact app fun hh=>hh.1 this
end
theorem rK (a:Nat):Int.fdiv (a:Int) (2 ^ (min (32:Int).toNat (IntKind.bits .u64)):Int)=((a / 4294967296:Nat):Int):=by
 have:(2 ^ (min (32:Int).toNat (IntKind.bits .u64)):Int)=((4294967296:Nat):Int):=by decide
 rw [this,Int.fdiv_eq_ediv_of_nonneg _ (by omega)];rfl
theorem rT {a:Nat}(h:a<18446744073709551616):cj .and .u64 (a:Int) 4294967295=((a % 4294967296:Nat):Int):=by
 unfold cj
 simp only
 have h1:(BitVec.ofInt (IntKind.bits .u64) (a:Int)).toNat=a:=by
  show (BitVec.ofInt 64 (a:Int)).toNat=a
  rw [BitVec.toNat_ofInt];omega
 have h2:(BitVec.ofInt (IntKind.bits .u64) (4294967295:Int)).toNat=4294967295:=by decide
 rw [BitVec.toNat_and,h1,h2,show (4294967295:Nat)=2 ^ 32-1 from rfl,Nat.and_two_pow_sub_one_eq_mod,cg]
 omega
theorem wU {n:Nat}(h:n<18446744073709551616):IntKind.wrap .u64 (n:Int)=(n:Int):=by rw [cg];omega
theorem Am {a b x1 x0 y1 y0:Nat}(ha:a=x1*4294967296+x0) (hb:b=y1*4294967296+y0) (h1:x1<4294967296) (h2:x0<4294967296) (h3:y1<4294967296) (h4:y0<4294967296) :
  x1*y1<=18446744065119617025∧x1*y0<=18446744065119617025∧x0*y1<=18446744065119617025∧x0*y0<=18446744065119617025∧a*b=(x1*y1)*18446744073709551616+(x1*y0+x0*y1)*4294967296+x0*y0:=by
 have m:∀ {p q:Nat},p<4294967296->q<4294967296->p*q<=18446744065119617025:=fun {p q} hp hq=>Nat.mul_le_mul (show p<=4294967295 by omega) (show q<=4294967295 by omega)
 refine ⟨m h1 h3,m h1 h4,m h2 h3,m h2 h4,?_⟩
 subst ha;subst hb
 grind
theorem vC {a b:Nat}{h:H}{Q:Int->Int->H->Prop}(ha:a<18446744073709551616) (hb:b<18446744073709551616) (k:Q ((a*b / 18446744073709551616:Nat):Int) ((a*b % 18446744073709551616:Nat):Int) h):F.xew (a:Int) (b:Int) h Q:=by
 unfold F.xew
 refine ⟨by omega,by omega,by omega,by omega,by omega,?_⟩
 rw [rT ha,rT hb,rK,rK]
 obtain ⟨p1,p2,p3,p4,p5⟩:=Am (a:=a) (b:=b) (x1:=a / 4294967296) (x0:=a % 4294967296) (y1:=b / 4294967296) (y0:=b % 4294967296) (by omega) (by omega) (by omega) (by omega) (by omega) (by omega)
 have c:∀ p q:Nat,(p:Int)*(q:Int)=((p*q:Nat):Int):=fun p q=>(Int.natCast_mul p q).symm
 rw [c,c,c,c,c]
 generalize a / 4294967296*(b / 4294967296)=P11 at *
 generalize a / 4294967296*(b % 4294967296)=P10 at *
 generalize a % 4294967296*(b / 4294967296)=P01 at *
 generalize a % 4294967296*(b % 4294967296)=P00 at *
 generalize a*b=M at *
 rw [wU (n:=P11) (by omega),wU (n:=P10) (by omega),wU (n:=P01) (by omega),wU (n:=P00) (by omega),rK]
 have d:∀ p q:Nat,(p:Int)+(q:Int)=((p+q:Nat):Int):=fun p q=>(Int.natCast_add p q).symm
 rw [d,wU (n:=P10+P00 / 4294967296) (by omega),rT (by omega),rK,d,d,wU (n:=(P10+P00 / 4294967296) % 4294967296+P01) (by omega),wU (n:=P11+(P10+P00 / 4294967296) / 4294967296) (by omega),rK,d,wU (by omega)]
 have e1:P11+(P10+P00 / 4294967296) / 4294967296+((P10+P00 / 4294967296) % 4294967296+P01) / 4294967296=M / 18446744073709551616:=by omega
 have e2:IntKind.wrap .u64 (M:Int)=((M % 18446744073709551616:Nat):Int):=by rw [cg];omega
 rw [e1,e2]
 exact k
def WD (x:Int):aP:=⟨x / 18446744073709551616,x % 18446744073709551616⟩
theorem yY {x:Int}(h0:-9223372036854775808<=x) (h1:x<9223372036854775808):IntKind.wrap .i64 (IntKind.wrap .u64 x)=x:=by
 rw [cg]
 have:IntKind.wrap .i64 (x % 18446744073709551616)=x:=by
  unfold IntKind.wrap
  simp [IntKind.bits,IntKind.signed]
  split <;> omega
 exact this
theorem tX {n:Nat}{v:Int}{h:H}{Q:aP->H->Prop}(hn:n<9223372036854775808) (h0:-9223372036854775808<=v) (h1:v<9223372036854775808) (k:∀ h',Ext h h'->Q (WD ((n:Int)*v)) h'):F.xaz (n:Int) v h Q:=by
 unfold F.xaz
 refine aN fun m h1' hm b1 e1 s1=>?_
 have b1':Blk h1' m (⟨0,0⟩:aP).cells.toArray eG:=b1
 obtain ⟨w,hw,hw2⟩:∃ w:Nat,IntKind.wrap .u64 v=(w:Int)∧w<18446744073709551616:=⟨(IntKind.wrap .u64 v).toNat,by rw [cg];omega,by rw [cg];omega⟩
 have hwv:(w:Int)=if v<0 then v+18446744073709551616 else v:=by
  rw [← hw,cg];split <;> omega
 rw [hw,wU (n:=n) (by omega)]
 refine vC (by omega) hw2 ?_
 have hj:∀ hi lo:Int,IntKind.wrap .i64 hi=(WD ((n:Int)*v)).hi->lo=(WD ((n:Int)*v)).lo->F.xaz.j1 Q ⟨m,0,none⟩ hi lo h1':=fun hi lo e2 e3=>by
  unfold F.xaz.j1
  rw [e2,e3]
  refine cC b1' (by simp [aP.cells]) fun h2 b2 o2 s2=>⟨WD ((n:Int)*v),Blk.cells b2,k h2 (e1.step o2 fun x hx hb=>by omega)⟩
 have hprod:((n*w:Nat):Int)=if v<0 then (n:Int)*v+(n:Int)*18446744073709551616 else (n:Int)*v:=by
  rw [Int.natCast_mul,hwv]
  split
  ·rw [Int.mul_add]
  ·rfl
 have hb1:(n:Int)*v<=9223372036854775808*9223372036854775808:=by
  rcases Int.lt_or_le v 0 with g | g
  ·have:=Int.mul_nonneg_of_nonpos_of_nonpos (a:=-(n:Int)) (b:=v) (by omega) (by omega)
   rw [Int.neg_mul] at this;omega
  ·exact Int.mul_le_mul (by omega) (by omega) g (by omega)
 have hb2:-(9223372036854775808*9223372036854775808)<=(n:Int)*v:=by
  rcases Int.lt_or_le v 0 with g | g
  ·have h9:(n:Int)*(-v)<=9223372036854775808*9223372036854775808:=Int.mul_le_mul (by omega) (by omega) (by omega) (by omega)
   rw [Int.mul_neg] at h9;omega
  ·have:=Int.mul_nonneg (a:=(n:Int)) (b:=v) (by omega) g
   omega
 generalize hP:(n:Int)*v=P at *
 refine ⟨fun g=>?_,fun g=>?_⟩
 ·have g:=of_decide_eq_true g
  rw [if_pos g] at hprod
  refine hj _ _ ?_ ?_
  ·show _=P / 18446744073709551616
   have e4:((n*w / 18446744073709551616:Nat):Int)-(n:Int)=P / 18446744073709551616:=by omega
   rw [e4]
   exact yY (by omega) (by omega)
  ·show _=P % 18446744073709551616
   omega
 ·have g:=of_decide_eq_false g
  rw [if_neg g] at hprod
  refine hj _ _ ?_ ?_
  ·show _=P / 18446744073709551616
   have e4:((n*w / 18446744073709551616:Nat):Int)=P / 18446744073709551616:=by omega
   rw [e4]
   exact w64 (by omega) (by omega)
  ·show _=P % 18446744073709551616
   omega
theorem AN {h:H}{n:Nat}{c d:aP}{e:TypeId}{K:H->Prop}(b:Blk h n c.cells.toArray e) (k:∀ h',Blk h' n d.cells.toArray e->bI (·=n) h h'->h'.size=h.size->K h'):stH h ⟨n,0,none⟩ d.cells K:=
 cC b (by simp [aP.cells]) fun h' b' o s=>k h' b' o s
abbrev zc (x:Int):Prop:=-(85070591730234615865843651857942052864+36893488147419103232)<=x∧x<=85070591730234615865843651857942052864+36893488147419103232
theorem jr {x y:Int}{h:H}{Q:aP->H->Prop}(hx:-36893488147419103232<=x∧x<=36893488147419103232) (hy:zc y) (k:∀ h',Ext h h'->Q (WD (x+y)) h'):F.xci (WD x) (WD y) h Q:=by
 unfold F.xci
 refine aN fun n1 h1 hn1 b1 e1 s1=>aN fun n3 h3 hn3 b3 e3 s3=>aN fun n5 h5 hn5 b5 e5 s5=>?_
 have b1':Blk h5 n1 (WD x).cells.toArray eG:=e5.block (e3.block b1 fun f=>f) fun f=>f
 have b3':Blk h5 n3 (WD y).cells.toArray eG:=e5.block b3 fun f=>f
 have b5':Blk h5 n5 (⟨0,0⟩:aP).cells.toArray eG:=b5
 have x0:aA h5 ⟨n1,0,none⟩=some (.int .i64 (x / 18446744073709551616)):=Blk.cells b1' 0 _ rfl
 have x1:aA h5 ⟨n1,1,none⟩=some (.int .u64 (x % 18446744073709551616)):=Blk.cells b1' 1 _ rfl
 have y0:aA h5 ⟨n3,0,none⟩=some (.int .i64 (y / 18446744073709551616)):=Blk.cells b3' 0 _ rfl
 have y1:aA h5 ⟨n3,1,none⟩=some (.int .u64 (y % 18446744073709551616)):=Blk.cells b3' 1 _ rfl
 simp only [aC,Nat.zero_add,Nat.add_zero]
 refine aW x1 (aW y1 (aW x0 (aW y0 ?_)))
 have hs:vI (x % 18446744073709551616) (y % 18446744073709551616)=(x+y) % 18446744073709551616:=by unfold vI;omega
 have hc:vH (x % 18446744073709551616) (y % 18446744073709551616)=(x % 18446744073709551616+y % 18446744073709551616) / 18446744073709551616:=by unfold vH;omega
 rw [hs,hc]
 have bx:=hx
 obtain ⟨bx1,bx2⟩:=bx
 obtain ⟨by1,by2⟩:=hy
 rw [w64 (n:=x / 18446744073709551616+y / 18446744073709551616) (by omega) (by omega),w64 (n:=(x % 18446744073709551616+y % 18446744073709551616) / 18446744073709551616) (by omega) (by omega),w64 (by omega) (by omega)]
 have he:x / 18446744073709551616+y / 18446744073709551616+(x % 18446744073709551616+y % 18446744073709551616) / 18446744073709551616=(x+y) / 18446744073709551616:=by omega
 rw [he]
 refine AN (d:=WD (x+y)) b5' fun h6 b6 o6 s6=>⟨WD (x+y),b6.cells,k h6 (((e1.trans e3).trans e5).step o6 fun z hz hb=>by have:=e1.size;have:=e3.size;omega)⟩
theorem sZ {x y:Int}{h:H}{Q:Bool->H->Prop}(k:∀ h',Ext h h'->Q (decide (x<=y)) h'):F.xdw (WD x) (WD y) h Q:=by
 unfold F.xdw
 refine aN fun n1 h1 hn1 b1 e1 s1=>aN fun n3 h3 hn3 b3 e3 s3=>?_
 have b1':Blk h3 n1 (WD x).cells.toArray eG:=e3.block b1 fun f=>f
 have b3':Blk h3 n3 (WD y).cells.toArray eG:=b3
 have x0:aA h3 ⟨n1,0,none⟩=some (.int .i64 (x / 18446744073709551616)):=Blk.cells b1' 0 _ rfl
 have x1:aA h3 ⟨n1,1,none⟩=some (.int .u64 (x % 18446744073709551616)):=Blk.cells b1' 1 _ rfl
 have y0:aA h3 ⟨n3,0,none⟩=some (.int .i64 (y / 18446744073709551616)):=Blk.cells b3' 0 _ rfl
 have y1:aA h3 ⟨n3,1,none⟩=some (.int .u64 (y % 18446744073709551616)):=Blk.cells b3' 1 _ rfl
 have k:=k h3 (e1.trans e3)
 simp only [aC,Nat.zero_add,Nat.add_zero]
 refine aW x0 (aW y0 ⟨fun g=>?_,fun g=>aW x0 (aW y0 ⟨fun g2=>aW x1 (aW y1 ?_),fun g2=>?_⟩)⟩)
 ·have g:=of_decide_eq_true g
  rw [decide_eq_true (show x<=y by omega)] at k;exact k
 ·have g2:x / 18446744073709551616=y / 18446744073709551616:=by simpa using g2
  have:decide (x<=y)=decide (x % 18446744073709551616<=y % 18446744073709551616):=by
   rw [decide_eq_decide];omega
  rw [this] at k;exact k
 ·have g:=of_decide_eq_false g
  have g2:¬ x / 18446744073709551616=y / 18446744073709551616:=by simpa using g2
  rw [decide_eq_false (show ¬ x<=y by omega)] at k;exact k
def iB (a:ag):Bool:=
 if a.Count<=0 then ((a.Count == zA.Count) && ((a.Sum == zA.Sum) && ((a.Min == zA.Min) && ((a.Max == zA.Max) && true))))
 else if a.Count=1 then decide (a.Min=a.Sum∧a.Max=a.Sum)
 else if a.Min > a.Max then false
 else decide (a.Min+a.Max+(a.Count-2)*a.Min<=a.Sum) && decide (a.Sum<=a.Min+a.Max+(a.Count-2)*a.Max)
abbrev iK (n:Int):Prop:=-9223372036854775808<=n∧n<9223372036854775808
theorem pW {n v:Int}(h0:0<=n) (h1:n<9223372036854775808) (hv:iK v):zc (n*v):=by
 obtain ⟨v0,v1⟩:=hv
 constructor
 ·rcases Int.lt_or_le v 0 with g | g
  ·have h9:n*(-v)<=9223372036854775808*9223372036854775808:=Int.mul_le_mul (by omega) (by omega) (by omega) (by omega)
   rw [Int.mul_neg] at h9;omega
  ·have:=Int.mul_nonneg (a:=n) (b:=v) (by omega) g
   omega
 ·rcases Int.lt_or_le v 0 with g | g
  ·have h9:=Int.mul_nonneg (a:=n) (b:=-v) (by omega) (by omega)
   rw [Int.mul_neg] at h9;omega
  ·have h9:n*v<=9223372036854775808*9223372036854775808:=Int.mul_le_mul (by omega) (by omega) g (by omega)
   omega
theorem fe {n v:Int}{h:H}{Q:aP->H->Prop}(h0:0<=n) (hn:n<9223372036854775808) (hv:iK v) (k:∀ h',Ext h h'->Q (WD (n*v)) h'):F.xaz n v h Q:=by
 obtain ⟨m,rfl⟩:∃ m:Nat,n=(m:Int):=⟨n.toNat,by omega⟩
 exact tX (by omega) hv.1 hv.2 k
theorem yK {a:ag}(hc:iK a.Count) (hs:iK a.Sum) (h0:iK a.Min) (h1:iK a.Max):lW a (iB a):=fun h Q k=>by
 unfold F.xca
 refine aN fun m h1' hm b1 e1 s1=>?_
 have c0:∀ {hh:H},Ext h1' hh->aA hh ⟨m,0,none⟩=some (.int .i64 a.Count):=fun e=>e.cell (Blk.cells b1 0 _ rfl) fun f=>f
 have c1:∀ {hh:H},Ext h1' hh->aA hh ⟨m,1,none⟩=some (.int .i64 a.Sum):=fun e=>e.cell (Blk.cells b1 1 _ rfl) fun f=>f
 have c2:∀ {hh:H},Ext h1' hh->aA hh ⟨m,2,none⟩=some (.int .i64 a.Min):=fun e=>e.cell (Blk.cells b1 2 _ rfl) fun f=>f
 have c3:∀ {hh:H},Ext h1' hh->aA hh ⟨m,3,none⟩=some (.int .i64 a.Max):=fun e=>e.cell (Blk.cells b1 3 _ rfl) fun f=>f
 have r0:Ext h1' h1':=.refl _
 simp only [aC,Nat.zero_add,Nat.add_zero]
 unfold iB at k
 refine aW (c0 r0) ⟨fun g=>?_,fun g=>aW (c0 r0) ⟨fun g2=>?_,fun g2=>aW (c2 r0) (aW (c3 r0) ⟨fun g3=>?_,fun g3=>?_⟩)⟩⟩
 ·have g:=of_decide_eq_true g
  rw [if_pos g] at k
  exact ⟨a,Blk.cells b1,k h1' e1⟩
 ·have g:=of_decide_eq_false g
  have g2:a.Count=1:=by simpa using g2
  rw [if_neg g,if_pos g2] at k
  have k:=k h1' e1
  refine aW (c2 r0) (aW (c1 r0) ⟨fun g3=>aW (c3 r0) (aW (c1 r0) ?_),fun g3=>?_⟩)
  ·have g3:a.Min=a.Sum:=by simpa using g3
   have:decide (a.Min=a.Sum∧a.Max=a.Sum)=(a.Max == a.Sum):=by
    by_cases h:a.Max=a.Sum <;> simp [g3,h]
   rw [this] at k;exact k
  ·have g3:¬ a.Min=a.Sum:=by simpa using g3
   rw [decide_eq_false (fun h=>g3 h.1)] at k;exact k
 ·have g:=of_decide_eq_false g
  have g2:¬ a.Count=1:=by simpa using g2
  have g3:=of_decide_eq_true g3
  rw [if_neg g,if_neg g2,if_pos g3] at k
  exact k h1' e1
 ·have g:=of_decide_eq_false g
  have g2:¬ a.Count=1:=by simpa using g2
  have g3:=of_decide_eq_false g3
  rw [if_neg g,if_neg g2,if_neg g3] at k
  have hc2:0<=a.Count-2∧a.Count-2<9223372036854775808:=by have:=hc.2;omega
  have wc:IntKind.wrap .i64 (a.Count-2)=a.Count-2:=w64 (by omega) (by omega)
  have bmin:=pW hc2.1 hc2.2 h0
  have bmax:=pW hc2.1 hc2.2 h1
  have be:-36893488147419103232<=a.Min+a.Max∧a.Min+a.Max<=36893488147419103232:=by
   obtain ⟨q1,q2⟩:=h0;obtain ⟨q3,q4⟩:=h1;omega
  have be':zc (a.Min+a.Max):=⟨by omega,by omega⟩
  have i126:∀ {x:Int},iK x->zc x:=fun h=>⟨by have:=h.1;omega,by have:=h.2;omega⟩
  have i65:∀ {x:Int},iK x->-36893488147419103232<=x∧x<=36893488147419103232:=fun h=>⟨by have:=h.1;omega,by have:=h.2;omega⟩
  have j1:∀ (hh:H) (e:Nat),Ext h1' hh->Blk hh e (WD (a.Min+a.Max)).cells.toArray eG->F.xca.j1 Q ⟨m,0,none⟩ ⟨e,0,none⟩ hh:=fun hh e ex be2=>by
   unfold F.xca.j1
   simp only [aC,Nat.zero_add,Nat.add_zero]
   refine aW (c1 ex) (fe (by omega) (by omega) hs fun h27 e27=>?_)
   rw [Int.one_mul]
   refine aN fun n h29 hn b29 e29 s29=>?_
   have b29':Blk h29 n (⟨0,0⟩:aP).cells.toArray eG:=b29
   refine AN (d:=WD a.Sum) b29' fun h31 b31 o31 s31=>?_
   have e31:Ext hh h31:=(e27.trans e29).step o31 fun z hz hb=>by have:=e27.size;omega
   have x31:=ex.trans e31
   have be31:=e31.block be2 fun f=>f
   refine ⟨_,Blk.cells be31,aW (c0 x31) (aW (c2 x31) ⟨_,Blk.cells b31,?_⟩)⟩
   rw [wc]
   refine fe hc2.1 hc2.2 h0 fun h40 e40=>⟨(Blk.cells b31).ext e40,(Blk.cells be31).ext e40,jr be bmin fun h44 e44=>⟨(Blk.cells b31).ext (e40.trans e44),sZ fun h47 e47=>?_⟩⟩
   have e47':=(e40.trans e44).trans e47
   have x47:=x31.trans e47'
   refine ⟨fun gt=>?_,fun gf=>?_⟩
   ·have gt:=of_decide_eq_true gt
    refine ⟨_,(Blk.cells b31).ext e47',_,(Blk.cells be31).ext e47',aW (c0 x47) (aW (c3 x47) ?_)⟩
    rw [wc]
    refine fe hc2.1 hc2.2 h1 fun h58 e58=>⟨(Blk.cells be31).ext (e47'.trans e58),(Blk.cells b31).ext (e47'.trans e58),jr be bmax fun h62 e62=>⟨(Blk.cells b31).ext ((e47'.trans e58).trans e62),sZ fun h65 e65=>?_⟩⟩
    have kk:=k h65 (e1.trans (x47.trans ((e58.trans e62).trans e65)))
    rw [decide_eq_true gt,Bool.true_and] at kk
    exact kk
   ·have gf:=of_decide_eq_false gf
    have kk:=k h47 (e1.trans x47)
    rw [decide_eq_false gf,Bool.false_and] at kk
    exact kk
  -- the ends' block,whichever order it was made in
  have fin:∀ (hh:H) (n:Nat),Ext h1' hh->h1'.size<=n->Blk hh n (⟨0,0⟩:aP).cells.toArray eG->stH hh ⟨n,0,none⟩ (WD (a.Min+a.Max)).cells fun h80=>F.xca.j1 Q ⟨m,0,none⟩ ⟨n,0,none⟩ h80:=fun hh n ex hn b=>by
   refine AN (d:=WD (a.Min+a.Max)) b fun h80 b80 o80 s80=>j1 h80 n (ex.step o80 fun z hz hb=>by omega) b80
  have o1:(0:Int)<=1:=by omega
  have o2:(1:Int)<9223372036854775808:=by omega
  refine aW (c2 r0) (aW (c3 r0) ⟨fe o1 o2 h0 fun h71 e71=>⟨c3 e71,fe o1 o2 h1 fun h74 e74=>?_,aN fun n h86 hn b86 e86 s86=>⟨c3 (e71.trans e86),fe o1 o2 h1 fun h89 e89=>?_⟩⟩,aN fun n h94 hn b94 e94 s94=>⟨c3 e94,c2 e94,fe o1 o2 h0 fun h98 e98=>⟨c3 (e94.trans e98),fe o1 o2 h1 fun h101 e101=>?_⟩⟩⟩)
  ·rw [Int.one_mul,Int.one_mul]
   have x74:=e71.trans e74
   have z74:=x74.size
   refine ⟨jr (i65 h0) (i126 h1) fun h76 e76=>aN fun n h78 hn b78 e78 s78=>fin h78 n ((x74.trans e76).trans e78) (by have:=e76.size;omega) b78,aN fun n h81 hn b81 e81 s81=>jr (i65 h0) (i126 h1) fun h83 e83=>fin h83 n ((x74.trans e81).trans e83) (by omega) (e83.block b81 fun f=>f)⟩
  ·rw [Int.one_mul,Int.one_mul]
   have z71:=e71.size
   refine jr (i65 h0) (i126 h1) fun h91 e91=>fin h91 n ((e71.trans e86).trans (e89.trans e91)) (by omega) ((e89.trans e91).block b86 fun f=>f)
  ·rw [Int.one_mul,Int.one_mul]
   refine jr (i65 h0) (i126 h1) fun h103 e103=>fin h103 n (e94.trans ((e98.trans e101).trans e103)) (by omega) (((e98.trans e101).trans e103).block b94 fun f=>f)
def RW (x:Int):ad:=⟨decide (x<0),((x.natAbs / 18446744073709551616:Nat):Int),((x.natAbs % 18446744073709551616:Nat):Int)⟩
theorem vi {h:H}{n:Nat}{c d:ad}{e:TypeId}{K:H->Prop}(b:Blk h n c.cells.toArray e) (k:∀ h',Blk h' n d.cells.toArray e->bI (·=n) h h'->h'.size=h.size->K h'):stH h ⟨n,0,none⟩ d.cells K:=
 cC b (by simp [ad.cells]) fun h' b' o s=>k h' b' o s
theorem sU {a:Int}{h:H}{Q:Int->H->Prop}(ha:iK a) (k:Q ((a.natAbs:Nat):Int) h):F.xdu a h Q:=by
 obtain ⟨h0,h1⟩:=ha
 unfold F.xdu
 refine ⟨fun g=>?_,fun g=>?_⟩
 ·have g:=of_decide_eq_true g
  rw [show IntKind.wrap .u64 (0-IntKind.wrap .u64 a)=((a.natAbs:Nat):Int) by rw [cg,cg];omega]
  exact k
 ·have g:=of_decide_eq_false g
  rw [show IntKind.wrap .u64 a=((a.natAbs:Nat):Int) by rw [cg];omega]
  exact k
theorem An {a b:Int}:decide (a*b<0)=(!(decide (a<0) == decide (b<0)) && decide (a*b≠0)):=by
 by_cases ha:a<0 <;> by_cases hb:b<0
 ·have:=Int.mul_pos_of_neg_of_neg ha hb
  rw [decide_eq_false (show ¬ a*b<0 by omega)];simp [ha,hb]
 ·by_cases hz:b=0
  ·subst hz;simp
  ·have:=Int.mul_neg_of_neg_of_pos ha (show 0<b by omega)
   rw [decide_eq_true this,decide_eq_true (show a*b≠0 by omega)];simp [ha,hb]
 ·by_cases hz:a=0
  ·subst hz;simp
  ·have:=Int.mul_neg_of_pos_of_neg (show 0<a by omega) hb
   rw [decide_eq_true this,decide_eq_true (show a*b≠0 by omega)];simp [ha,hb]
 ·have:=Int.mul_nonneg (show 0<=a by omega) (show 0<=b by omega)
  rw [decide_eq_false (show ¬ a*b<0 by omega)];simp [ha,hb]
theorem jC {a b:Int}{h:H}{Q:ad->H->Prop}(ha:iK a) (hb:iK b) (k:∀ h',Ext h h'->Q (RW (a*b)) h'):F.xax a b h Q:=by
 unfold F.xax
 refine aN fun m h1 hm b1 e1 s1=>sU ha (sU hb ⟨by omega,by omega,by omega,by omega,by omega,aN fun n h2 hn b2 e2 s2=>?_⟩)
 have hA:a.natAbs<18446744073709551616:=by obtain ⟨q1,q2⟩:=ha;omega
 have hB:b.natAbs<18446744073709551616:=by obtain ⟨q1,q2⟩:=hb;omega
 have hab:(a*b).natAbs=a.natAbs*b.natAbs:=Int.natAbs_mul a b
 have hsg:=An (a:=a) (b:=b)
 have hz:a*b≠0↔a.natAbs*b.natAbs≠0:=by rw [← hab];omega
 generalize hx:a.natAbs=x at hA hab hz ⊢
 generalize hy:b.natAbs=y at hB hab hz ⊢
 obtain ⟨p1,p2,p3,p4,p5⟩:=Am (a:=x) (b:=y) (x1:=x / 4294967296) (x0:=x % 4294967296) (y1:=y / 4294967296) (y0:=y % 4294967296) (by omega) (by omega) (by omega) (by omega) (by omega) (by omega)
 rw [rT hA,rT hB,rK,rK]
 have c:∀ p q:Nat,(p:Int)*(q:Int)=((p*q:Nat):Int):=fun p q=>(Int.natCast_mul p q).symm
 rw [c,c,c,c,c]
 have k':∀ h',Ext h h'->Q ⟨decide (a*b<0),((x*y / 18446744073709551616:Nat):Int),((x*y % 18446744073709551616:Nat):Int)⟩ h':=fun h' e'=>by
  have:=k h' e'
  unfold RW at this
  rw [hab] at this;exact this
 generalize x / 4294967296*(y / 4294967296)=P11 at *
 generalize x / 4294967296*(y % 4294967296)=P10 at *
 generalize x % 4294967296*(y / 4294967296)=P01 at *
 generalize x % 4294967296*(y % 4294967296)=P00 at *
 generalize x*y=M at *
 rw [wU (n:=P11) (by omega),wU (n:=P10) (by omega),wU (n:=P01) (by omega),wU (n:=P00) (by omega),rK]
 have d:∀ p q:Nat,(p:Int)+(q:Int)=((p+q:Nat):Int):=fun p q=>(Int.natCast_add p q).symm
 rw [d,wU (n:=P10+P00 / 4294967296) (by omega),rT (by omega),rK,d,d,wU (n:=P01+(P10+P00 / 4294967296) % 4294967296) (by omega),wU (n:=P11+(P10+P00 / 4294967296) / 4294967296) (by omega),rK,d,wU (by omega)]
 have e1':P11+(P10+P00 / 4294967296) / 4294967296+(P01+(P10+P00 / 4294967296) % 4294967296) / 4294967296=M / 18446744073709551616:=by omega
 have e2':IntKind.wrap .u64 (M:Int)=((M % 18446744073709551616:Nat):Int):=by rw [cg];omega
 rw [e1',e2']
 generalize hsn:(!(decide (a<0) == decide (b<0)))=sg at *
 have b2':Blk h2 n (⟨false,0,0⟩:ad).cells.toArray bk:=b2
 refine vi (d:=⟨sg,((M / 18446744073709551616:Nat):Int),((M % 18446744073709551616:Nat):Int)⟩) b2' fun h3 b3 o3 s3=>?_
 have e3:Ext h1 h3:=e2.step o3 fun z hz hb=>by omega
 have b13:Blk h3 m (⟨false,0,0⟩:ad).cells.toArray bk:=e3.block b1 fun f=>f
 have c1:aA h3 ⟨n,1,none⟩=some (.int .u64 ((M / 18446744073709551616:Nat):Int)):=Blk.cells b3 1 _ rfl
 have c2:aA h3 ⟨n,2,none⟩=some (.int .u64 ((M % 18446744073709551616:Nat):Int)):=Blk.cells b3 2 _ rfl
 have fin:∀ (hh:H) (s:Bool),Ext h1 hh->Blk hh n (⟨s,((M / 18446744073709551616:Nat):Int),((M % 18446744073709551616:Nat):Int)⟩:ad).cells.toArray bk->s=decide (a*b<0)->F.xax.j1 Q ⟨m,0,none⟩ ⟨n,0,none⟩ hh:=fun hh s ex bn hs=>by
  unfold F.xax.j1
  have bm:Blk hh m (⟨false,0,0⟩:ad).cells.toArray bk:=ex.block b1 fun f=>f
  refine ⟨_,Blk.cells bn,vi (d:=⟨s,((M / 18446744073709551616:Nat):Int),((M % 18446744073709551616:Nat):Int)⟩) bm fun h4 b4 o4 s4=>⟨_,Blk.cells b4,?_⟩⟩
  rw [hs]
  exact k' h4 ((e1.trans ex).step o4 fun z hz hb=>by omega)
 have j2f:M≠0->F.xax.j2 Q ⟨m,0,none⟩ ⟨n,0,none⟩ false h3:=fun hM=>by
  unfold F.xax.j2
  refine ⟨fun g=>(by cases g),fun _=>fin h3 sg e3 b3 ?_⟩
  rw [hsg,decide_eq_true (hz.2 hM),Bool.and_true]
 simp only [aC,Nat.zero_add]
 rw [bA c1]
 refine ⟨fun g=>?_,fun g=>?_⟩
 ·rw [bA c2]
  have g0:((M / 18446744073709551616:Nat):Int)=0:=eq_of_beq g
  have g:M / 18446744073709551616=0:=by omega
  by_cases g2:M % 18446744073709551616=0
  ·have hM:M=0:=by omega
   have hb0:((((M % 18446744073709551616:Nat):Int)) == 0)=true:=by rw [g2];rfl
   rw [hb0]
   unfold F.xax.j2
   refine ⟨fun _=>?_,fun g=>by cases g⟩
   simp only [aC,Nat.zero_add]
   refine cC b3 (by simp [ad.cells]) fun h5 b5 o5 s5=>?_
   refine fin h5 false (e3.step o5 fun z hz hb=>by omega) b5 ?_
   rw [hsg,decide_eq_false (fun h=>hz.1 h hM),Bool.and_false]
  ·have hb0:((((M % 18446744073709551616:Nat):Int)) == 0)=false:=by rw [beq_eq_false_iff_ne];omega
   rw [hb0]
   exact j2f (by omega)
 ·have g:¬ ((M / 18446744073709551616:Nat):Int)=0:=by simpa using g
  exact j2f (by intro e;subst e;omega)
theorem mL {a:Int}{h:H}{Q:ad->H->Prop}(ha:iK a) (k:∀ h',Ext h h'->Q (RW a) h'):F.xbx a h Q:=by
 unfold F.xbx
 refine aN fun m h1 hm b1 e1 s1=>jC ha ⟨by omega,by omega⟩ fun h3 e3=>?_
 rw [Int.mul_one]
 have b3:Blk h3 m (⟨false,0,0⟩:ad).cells.toArray bk:=e3.block b1 fun f=>f
 exact vi (d:=RW a) b3 fun h4 b4 o4 s4=>⟨_,Blk.cells b4,k h4 ((e1.trans e3).step o4 fun z hz hb=>by omega)⟩
theorem mA {x y:Int}{h:H}{Q:Bool->H->Prop}(k:∀ h',Ext h h'->Q (decide (x.natAbs > y.natAbs)) h'):F.xds (RW x) (RW y) h Q:=by
 unfold F.xds
 refine aN fun m h1 hm b1 e1 s1=>aN fun n h3 hn b3 e3 s3=>?_
 have b1':Blk h3 m (RW x).cells.toArray bk:=e3.block b1 fun f=>f
 have b3':Blk h3 n (RW y).cells.toArray bk:=b3
 have x1:aA h3 ⟨m,1,none⟩=some (.int .u64 ((x.natAbs / 18446744073709551616:Nat):Int)):=Blk.cells b1' 1 _ rfl
 have x2:aA h3 ⟨m,2,none⟩=some (.int .u64 ((x.natAbs % 18446744073709551616:Nat):Int)):=Blk.cells b1' 2 _ rfl
 have y1:aA h3 ⟨n,1,none⟩=some (.int .u64 ((y.natAbs / 18446744073709551616:Nat):Int)):=Blk.cells b3' 1 _ rfl
 have y2:aA h3 ⟨n,2,none⟩=some (.int .u64 ((y.natAbs % 18446744073709551616:Nat):Int)):=Blk.cells b3' 2 _ rfl
 have k:=k h3 (e1.trans e3)
 simp only [aC,Nat.zero_add]
 refine aW x1 (aW y1 ⟨fun g=>?_,fun g=>aW x1 (aW y1 ⟨fun g2=>aW x2 (aW y2 ?_),fun g2=>?_⟩)⟩)
 ·have g:=of_decide_eq_true g
  rw [decide_eq_true (show x.natAbs > y.natAbs by omega)] at k;exact k
 ·have g2:((x.natAbs / 18446744073709551616:Nat):Int)=((y.natAbs / 18446744073709551616:Nat):Int):=by simpa using g2
  have:decide (x.natAbs > y.natAbs)=decide (((x.natAbs % 18446744073709551616:Nat):Int) > ((y.natAbs % 18446744073709551616:Nat):Int)):=by
   rw [decide_eq_decide];omega
  rw [this] at k;exact k
 ·have g:=of_decide_eq_false g
  have g2:¬ ((x.natAbs / 18446744073709551616:Nat):Int)=((y.natAbs / 18446744073709551616:Nat):Int):=by simpa using g2
  rw [decide_eq_false (show ¬ x.natAbs > y.natAbs by omega)] at k;exact k
theorem xr {x y:Int}{h:H}{Q:Bool->H->Prop}(k:∀ h',Ext h h'->Q (decide (x<=y)) h'):F.xec (RW x) (RW y) h Q:=by
 unfold F.xec
 refine aN fun m h1 hm b1 e1 s1=>aN fun n h3 hn b3 e3 s3=>?_
 have b1':Blk h3 m (RW x).cells.toArray bk:=e3.block b1 fun f=>f
 have b3':Blk h3 n (RW y).cells.toArray bk:=b3
 have x0:aA h3 ⟨m,0,none⟩=some (.bool (decide (x<0))):=Blk.cells b1' 0 _ rfl
 have y0:aA h3 ⟨n,0,none⟩=some (.bool (decide (y<0))):=Blk.cells b3' 0 _ rfl
 have e13:=e1.trans e3
 simp only [aC,Nat.zero_add,Nat.add_zero]
 refine hQ x0 (hQ y0 ⟨fun g=>hQ x0 ?_,fun g=>hQ x0 ⟨fun g2=>⟨_,Blk.cells b3',_,Blk.cells b1',mA fun h5 e5=>?_⟩,fun g2=>⟨_,Blk.cells b1',_,Blk.cells b3',mA fun h5 e5=>?_⟩⟩⟩)
 ·have:=k h3 e13
  rw [show decide (x<=y)=decide (x<0) by
   rw [decide_eq_decide]
   by_cases hx:x<0 <;> by_cases hy:y<0 <;> simp [hx,hy] at g <;> omega] at this
  exact this
 ·have:=k h5 (e13.trans e5)
  have g2:=of_decide_eq_true g2
  have hy:y<0:=by
   rw [decide_eq_true g2] at g
   simpa using g
  rw [show decide (x<=y)=!decide (y.natAbs > x.natAbs) by
   rw [← decide_not,decide_eq_decide];omega] at this
  exact this
 ·have:=k h5 (e13.trans e5)
  have g2:=of_decide_eq_false g2
  have hy:¬ y<0:=by
   rw [decide_eq_false g2] at g
   simpa using g
  rw [show decide (x<=y)=!decide (x.natAbs > y.natAbs) by
   rw [← decide_not,decide_eq_decide];omega] at this
  exact this
abbrev vt (x:Int):Prop:=-170141183460469231731687303715884105728<x∧x<170141183460469231731687303715884105728
theorem xA {m0:Nat}{x y:Int}{h:H}{Q:ad->H->Prop}(hx:vt x) (hy:vt y) (hrec:x.natAbs<y.natAbs->∀ (hh:H) (K:ad->H->Prop),(∀ h',Ext hh h'->K (RW (x+y)) h')->F.xaf.fu m0 (RW y) (RW x) hh K)
  (k:∀ h',Ext h h'->Q (RW (x+y)) h'):F.xaf.fu (m0+1) (RW x) (RW y) h Q:=by
 unfold F.xaf.fu
 refine aN fun m h1 hm b1 e1 s1=>aN fun n h3 hn b3 e3 s3=>aN fun p h5 hp b5 e5 s5=>?_
 have e35:=e3.trans e5
 have b1':∀ {hh:H},Ext h5 hh->Blk hh m (RW x).cells.toArray bk:=fun e=>(e35.trans e).block b1 fun f=>f
 have b3':∀ {hh:H},Ext h5 hh->Blk hh n (RW y).cells.toArray bk:=fun e=>(e5.trans e).block b3 fun f=>f
 have b5':∀ {hh:H},Ext h5 hh->Blk hh p (⟨false,0,0⟩:ad).cells.toArray bk:=fun e=>e.block b5 fun f=>f
 have x0:∀ {hh:H},Ext h5 hh->aA hh ⟨m,0,none⟩=some (.bool (decide (x<0))):=fun e=>Blk.cells (b1' e) 0 _ rfl
 have x1:∀ {hh:H},Ext h5 hh->aA hh ⟨m,1,none⟩=some (.int .u64 ((x.natAbs / 18446744073709551616:Nat):Int)):=fun e=>Blk.cells (b1' e) 1 _ rfl
 have x2:∀ {hh:H},Ext h5 hh->aA hh ⟨m,2,none⟩=some (.int .u64 ((x.natAbs % 18446744073709551616:Nat):Int)):=fun e=>Blk.cells (b1' e) 2 _ rfl
 have y0:∀ {hh:H},Ext h5 hh->aA hh ⟨n,0,none⟩=some (.bool (decide (y<0))):=fun e=>Blk.cells (b3' e) 0 _ rfl
 have y1:∀ {hh:H},Ext h5 hh->aA hh ⟨n,1,none⟩=some (.int .u64 ((y.natAbs / 18446744073709551616:Nat):Int)):=fun e=>Blk.cells (b3' e) 1 _ rfl
 have y2:∀ {hh:H},Ext h5 hh->aA hh ⟨n,2,none⟩=some (.int .u64 ((y.natAbs % 18446744073709551616:Nat):Int)):=fun e=>Blk.cells (b3' e) 2 _ rfl
 have e15:=e1.trans e35
 have r5:Ext h5 h5:=.refl _
 have hmp:p=h3.size:=hp
 have hs13:h.size<=p:=by have:=(e1.trans e3).size;omega
 have fin:∀ (hh:H),Ext h5 hh->∀ d:ad,d=RW (x+y)->stH hh ⟨p,0,none⟩ d.cells fun h24=>aX h24 ⟨p,0,none⟩ fun y25=>Q y25 h24:=fun hh ex d hd=>by
  refine vi (d:=d) (b5' ex) fun h24 b24 o24 s24=>⟨d,Blk.cells b24,?_⟩
  rw [hd]
  exact k h24 ((e15.trans ex).step o24 fun z hz hb=>by omega)
 obtain ⟨bx1,bx2⟩:=hx
 obtain ⟨by1,by2⟩:=hy
 have sgn:∀ (hi lo:Int),hi=(((x+y).natAbs / 18446744073709551616:Nat):Int)->lo=(((x+y).natAbs % 18446744073709551616:Nat):Int)->∀ b:Bool,b=decide (x+y<0)->(⟨b,hi,lo⟩:ad)=RW (x+y):=fun hi lo q1 q2 b q3=>by
  subst q1;subst q2;subst q3;rfl
 have j1:∀ (R:ad->ad->H->(ad->H->Prop)->Prop) (hh:H),Ext h5 hh->∀ (hi lo:Int),hi=(((x+y).natAbs / 18446744073709551616:Nat):Int)->lo=(((x+y).natAbs % 18446744073709551616:Nat):Int)->(x<0->x+y<=0)->(¬ x<0->0<=x+y)->F.xaf.j1 R Q ⟨m,0,none⟩ ⟨p,0,none⟩ lo hi hh:=fun R hh ex hi lo q1 q2 q3 q4=>by
  unfold F.xaf.j1
  simp only [aC,Nat.add_zero]
  refine hQ (x0 ex) ⟨fun g=>⟨fun g2=>fin hh ex _ (sgn hi lo q1 q2 _ ?_),fun g2=>fin hh ex _ (sgn hi lo q1 q2 _ ?_)⟩,fun g=>fin hh ex _ (sgn hi lo q1 q2 _ ?_)⟩
  ·have g:=of_decide_eq_true g
   have g2:hi≠0:=by simpa using g2
   have:=q3 g
   rw [decide_eq_true (show x+y<0 by omega)]
  ·have g:=of_decide_eq_true g
   have g2:hi=0:=by simpa using g2
   have:=q3 g
   by_cases hz:x+y=0
   ·have:lo=0:=by rw [q2,hz];rfl
    rw [this,decide_eq_false (show ¬ x+y<0 by omega)];rfl
   ·have:lo≠0:=by omega
    rw [decide_eq_true (show x+y<0 by omega)];simpa using this
  ·have g:=of_decide_eq_false g
   have:=q4 g
   rw [decide_eq_false (show ¬ x+y<0 by omega)]
 have j2:∀ (R:ad->ad->H->(ad->H->Prop)->Prop) (hh:H),Ext h5 hh->∀ (hi lo:Int),hi=(((x+y).natAbs / 18446744073709551616:Nat):Int)->lo=(((x+y).natAbs % 18446744073709551616:Nat):Int)->(x<0->x+y<=0)->(¬ x<0->0<=x+y)->F.xaf.j2 R Q ⟨m,0,none⟩ ⟨p,0,none⟩ lo hi hh:=fun R hh ex hi lo q1 q2 q3 q4=>by
  have:=j1 R hh ex hi lo q1 q2 q3 q4
  unfold F.xaf.j1 at this
  unfold F.xaf.j2
  exact this
 simp only [aC,Nat.zero_add,Nat.add_zero] at j1 j2 ⊢
 refine hQ (x0 r5) (hQ (y0 r5) ⟨fun g=>?_,fun g=>?_⟩)
 ·-- of one sign
  have hs:(x<0∧y<0)∨(¬ x<0∧¬ y<0):=by
   by_cases h1:x<0 <;> by_cases h2:y<0 <;> simp [h1,h2] at g ⊢
  have hab:(x+y).natAbs=x.natAbs+y.natAbs:=by omega
  refine aW (x2 r5) (aW (y2 r5) (aW (x1 r5) (aW (y1 r5) (aW (x2 r5) ⟨fun g2=>?_,fun g2=>?_⟩))))
  ·have g2:=of_decide_eq_true g2
   rw [cg] at g2
   refine j1 _ h5 r5 _ _ ?_ ?_ (fun _=>by omega) (fun _=>by omega)
   ·rw [cg,cg,hab];omega
   ·rw [cg,hab];omega
  ·have g2:=of_decide_eq_false g2
   rw [cg] at g2
   refine j1 _ h5 r5 _ _ ?_ ?_ (fun _=>by omega) (fun _=>by omega)
   ·rw [cg,hab];omega
   ·rw [cg,hab];omega
 ·have hs:(x<0∧¬ y<0)∨(¬ x<0∧y<0):=by
   by_cases h1:x<0 <;> by_cases h2:y<0 <;> simp [h1,h2] at g ⊢
  refine ⟨_,Blk.cells (b3' r5),_,Blk.cells (b1' r5),mA fun h40 e40=>⟨fun g2=>?_,fun g2=>?_⟩⟩
  ·have g2:=of_decide_eq_true g2
   refine ⟨_,Blk.cells (b3' e40),_,Blk.cells (b1' e40),hrec (by omega) h40 _ fun h47 e47=>?_⟩
   exact fin h47 (e40.trans e47) _ rfl
  ·have g2:=of_decide_eq_false g2
   have hab:(x+y).natAbs=x.natAbs-y.natAbs:=by omega
   refine aW (x2 e40) (aW (y2 e40) (aW (x1 e40) (aW (y1 e40) (aW (x2 e40) (aW (y2 e40) ⟨fun g3=>?_,fun g3=>?_⟩)))))
   ·have g3:=of_decide_eq_true g3
    refine j2 _ h40 e40 _ _ ?_ ?_ (fun _=>by omega) (fun _=>by omega)
    ·rw [cg,cg,hab];omega
    ·rw [cg,hab];omega
   ·have g3:=of_decide_eq_false g3
    refine j2 _ h40 e40 _ _ ?_ ?_ (fun _=>by omega) (fun _=>by omega)
    ·rw [cg,hab];omega
    ·rw [cg,hab];omega
theorem iJ {x y:Int}{h:H}{Q:ad->H->Prop}(hx:vt x) (hy:vt y) (k:∀ h',Ext h h'->Q (RW (x+y)) h'):F.xaf (RW x) (RW y) h Q:=by
 unfold F.xaf
 refine ⟨2,xA hx hy (fun hlt hh K kk=>xA hy hx (fun h2=>by omega) fun h' e'=>?_) k⟩
 rw [Int.add_comm];exact kk h' e'
theorem yM {a:ag}{h:H}{Q:Bool->H->Prop}(hc:iK a.Count) (hs:iK a.Sum) (h0:iK a.Min) (h1:iK a.Max) (k:∀ h',Ext h h'->Q (iB a) h'):F.xaq a h Q:=by
 unfold F.xaq
 refine aN fun m h1' hm b1 e1 s1=>?_
 have c0:∀ {hh:H},Ext h1' hh->aA hh ⟨m,0,none⟩=some (.int .i64 a.Count):=fun e=>e.cell (Blk.cells b1 0 _ rfl) fun f=>f
 have c1:∀ {hh:H},Ext h1' hh->aA hh ⟨m,1,none⟩=some (.int .i64 a.Sum):=fun e=>e.cell (Blk.cells b1 1 _ rfl) fun f=>f
 have c2:∀ {hh:H},Ext h1' hh->aA hh ⟨m,2,none⟩=some (.int .i64 a.Min):=fun e=>e.cell (Blk.cells b1 2 _ rfl) fun f=>f
 have c3:∀ {hh:H},Ext h1' hh->aA hh ⟨m,3,none⟩=some (.int .i64 a.Max):=fun e=>e.cell (Blk.cells b1 3 _ rfl) fun f=>f
 have r0:Ext h1' h1':=.refl _
 simp only [aC,Nat.zero_add,Nat.add_zero]
 unfold iB at k
 refine aW (c0 r0) ⟨fun g=>?_,fun g=>aW (c0 r0) ⟨fun g2=>?_,fun g2=>aW (c2 r0) (aW (c3 r0) ⟨fun g3=>?_,fun g3=>?_⟩)⟩⟩
 ·have g:=of_decide_eq_true g
  rw [if_pos g] at k
  exact ⟨a,Blk.cells b1,k h1' e1⟩
 ·have g:=of_decide_eq_false g
  have g2:a.Count=1:=by simpa using g2
  rw [if_neg g,if_pos g2] at k
  have k:=k h1' e1
  refine aW (c1 r0) (aW (c2 r0) ⟨fun g3=>aW (c1 r0) (aW (c3 r0) ?_),fun g3=>?_⟩)
  ·have g3:a.Sum=a.Min:=by simpa using g3
   have:decide (a.Min=a.Sum∧a.Max=a.Sum)=(a.Sum == a.Max):=by
    by_cases h:a.Sum=a.Max
    ·simp [← g3,h]
    ·have h':¬ a.Max=a.Sum:=fun e=>h e.symm
     simp [h,h']
   rw [this] at k;exact k
  ·have g3:¬ a.Sum=a.Min:=by simpa using g3
   rw [decide_eq_false (fun h=>g3 h.1.symm)] at k;exact k
 ·have g:=of_decide_eq_false g
  have g2:¬ a.Count=1:=by simpa using g2
  have g3:=of_decide_eq_true g3
  rw [if_neg g,if_neg g2,if_pos g3] at k
  exact k h1' e1
 ·have g:=of_decide_eq_false g
  have g2:¬ a.Count=1:=by simpa using g2
  have g3:=of_decide_eq_false g3
  rw [if_neg g,if_neg g2,if_neg g3] at k
  have hc2:iK (a.Count-2):=⟨by omega,by have:=hc.2;omega⟩
  have wc:IntKind.wrap .i64 (a.Count-2)=a.Count-2:=w64 hc2.1 hc2.2
  have b127:∀ {x:Int},zc x->vt x:=fun h=>⟨by have:=h.1;omega,by have:=h.2;omega⟩
  have hn0:0<=a.Count-2∧a.Count-2<9223372036854775808:=⟨by omega,hc2.2⟩
  have bmin:=b127 (pW hn0.1 hn0.2 h0)
  have bmax:=b127 (pW hn0.1 hn0.2 h1)
  have i127:∀ {x:Int},iK x->vt x:=fun h=>⟨by have:=h.1;omega,by have:=h.2;omega⟩
  have be:vt (a.Min+a.Max):=⟨by have:=h0.1;have:=h1.1;omega,by have:=h0.2;have:=h1.2;omega⟩
  have z3:∀ {hh:H}{e:Nat}{d:ad}{K:H->Prop},Ext h1' hh->h1'.size<=e->Blk hh e (⟨false,0,0⟩:ad).cells.toArray bk->(∀ h',Ext h1' h'->bI (·=e) hh h'->Blk h' e d.cells.toArray bk->K h')->stH hh ⟨e,0,none⟩ d.cells K:=fun {hh e d K} ex he b kk =>
   vi (d:=d) b fun h' b' o' s'=>kk h' (ex.step o' fun z hz hb=>by omega) o' b'
  have j3:∀ (hh:H) (l u:Nat),Ext h1' hh->Blk hh l (RW (a.Min+a.Max+(a.Count-2)*a.Min)).cells.toArray bk->Blk hh u (RW (a.Min+a.Max+(a.Count-2)*a.Max)).cells.toArray bk->F.xaq.j3 Q ⟨m,0,none⟩ ⟨l,0,none⟩ ⟨u,0,none⟩ hh:=fun hh l u ex bl bu=>by
   unfold F.xaq.j3
   simp only [aC,Nat.zero_add,Nat.add_zero]
   refine ⟨_,Blk.cells bl,aW (c1 ex) (mL hs fun h29 e29=>⟨(Blk.cells bl).ext e29,xr fun h32 e32=>⟨fun g5=>?_,fun g5=>?_⟩⟩)⟩
   ·have g5:=of_decide_eq_true g5
    have ex32:=(ex.trans e29).trans e32
    have bu32:Blk h32 u (RW (a.Min+a.Max+(a.Count-2)*a.Max)).cells.toArray bk:=(e29.trans e32).block bu fun f=>f
    refine aW (c1 ex32) ⟨_,Blk.cells bu32,mL hs fun h39 e39=>⟨(Blk.cells bu32).ext e39,xr fun h42 e42=>?_⟩⟩
    have:=k h42 (e1.trans ((ex32.trans e39).trans e42))
    rw [decide_eq_true g5,Bool.true_and] at this
    exact this
   ·have g5:=of_decide_eq_false g5
    have:=k h32 (e1.trans ((ex.trans e29).trans e32))
    rw [decide_eq_false g5,Bool.false_and] at this
    exact this
  have j2:∀ (hh:H) (b l:Nat),Ext h1' hh->Blk hh b (RW (a.Min+a.Max)).cells.toArray bk->Blk hh l (RW (a.Min+a.Max+(a.Count-2)*a.Min)).cells.toArray bk->F.xaq.j2 Q ⟨m,0,none⟩ ⟨b,0,none⟩ ⟨l,0,none⟩ hh:=fun hh b l ex bb bl=>by
   unfold F.xaq.j2
   simp only [aC,Nat.zero_add,Nat.add_zero]
   have last:∀ (h57 h57':H) (e:Nat),Ext hh h57->hh.size<=e->Blk h57 e (⟨false,0,0⟩:ad).cells.toArray bk->stH h57 ⟨e,0,none⟩ (RW (a.Min+a.Max+(a.Count-2)*a.Max)).cells fun h=>F.xaq.j3 Q ⟨m,0,none⟩ ⟨l,0,none⟩ ⟨e,0,none⟩ h:=fun h57 _ e ex2 he be2=>by
    have hle:=ex.size
    refine z3 (d:=RW (a.Min+a.Max+(a.Count-2)*a.Max)) (ex.trans ex2) (by omega) be2 fun h' ex' o' b'=>j3 h' l e ex' (o'.block (ex2.block bl fun f=>f) ?_) b'
    have:=dx bl
    omega
   refine ⟨_,Blk.cells bb,aW (c0 ex) (aW (c3 ex) ?_)⟩
   rw [wc]
   refine ⟨jC hc2 h1 fun h50 e50=>⟨(Blk.cells bb).ext e50,iJ be bmax fun h53 e53=>aN fun n h55 hn bn en sn=>?_,aN fun n h58 hn bn en sn=>⟨(Blk.cells bb).ext (e50.trans en),iJ be bmax fun h61 e61=>?_⟩⟩,aN fun n h64 hn bn en sn=>⟨c3 (ex.trans en),c0 (ex.trans en),(Blk.cells bb).ext en,jC hc2 h1 fun h69 e69=>⟨(Blk.cells bb).ext (en.trans e69),iJ be bmax fun h72 e72=>?_⟩⟩⟩
   ·have q:=(e50.trans e53).size
    exact last h55 h55 n ((e50.trans e53).trans en) (by omega) bn
   ·have q:=e50.size
    exact last h61 h61 n ((e50.trans en).trans e61) (by omega) (e61.block bn fun f=>f)
   ·exact last h72 h72 n (en.trans (e69.trans e72)) (by omega) ((e69.trans e72).block bn fun f=>f)
  have j1:∀ (hh:H) (b:Nat),Ext h1' hh->Blk hh b (RW (a.Min+a.Max)).cells.toArray bk->F.xaq.j1 Q ⟨m,0,none⟩ ⟨b,0,none⟩ hh:=fun hh b ex bb=>by
   unfold F.xaq.j1
   simp only [aC,Nat.zero_add,Nat.add_zero]
   have last:∀ (h57:H) (e:Nat),Ext hh h57->hh.size<=e->Blk h57 e (⟨false,0,0⟩:ad).cells.toArray bk->stH h57 ⟨e,0,none⟩ (RW (a.Min+a.Max+(a.Count-2)*a.Min)).cells fun h=>F.xaq.j2 Q ⟨m,0,none⟩ ⟨b,0,none⟩ ⟨e,0,none⟩ h:=fun h57 e ex2 he be2=>by
    have hle:=ex.size
    refine z3 (d:=RW (a.Min+a.Max+(a.Count-2)*a.Min)) (ex.trans ex2) (by omega) be2 fun h' ex' o' b'=>j2 h' b e ex' (o'.block (ex2.block bb fun f=>f) ?_) b'
    have:=dx bb
    omega
   refine ⟨_,Blk.cells bb,aW (c0 ex) (aW (c2 ex) ?_)⟩
   rw [wc]
   refine ⟨jC hc2 h0 fun h50 e50=>⟨(Blk.cells bb).ext e50,iJ be bmin fun h53 e53=>aN fun n h55 hn bn en sn=>?_,aN fun n h58 hn bn en sn=>⟨(Blk.cells bb).ext (e50.trans en),iJ be bmin fun h61 e61=>?_⟩⟩,aN fun n h64 hn bn en sn=>⟨c2 (ex.trans en),c0 (ex.trans en),(Blk.cells bb).ext en,jC hc2 h0 fun h69 e69=>⟨(Blk.cells bb).ext (en.trans e69),iJ be bmin fun h72 e72=>?_⟩⟩⟩
   ·have q:=(e50.trans e53).size
    exact last h55 n ((e50.trans e53).trans en) (by omega) bn
   ·have q:=e50.size
    exact last h61 n ((e50.trans en).trans e61) (by omega) (e61.block bn fun f=>f)
   ·exact last h72 n (en.trans (e69.trans e72)) (by omega) ((e69.trans e72).block bn fun f=>f)
  have first:∀ (h57:H) (e:Nat),Ext h1' h57->h1'.size<=e->Blk h57 e (⟨false,0,0⟩:ad).cells.toArray bk->stH h57 ⟨e,0,none⟩ (RW (a.Min+a.Max)).cells fun h=>F.xaq.j1 Q ⟨m,0,none⟩ ⟨e,0,none⟩ h:=fun h57 e ex2 he be2 =>
   z3 (d:=RW (a.Min+a.Max)) ex2 he be2 fun h' ex' o' b'=>j1 h' e ex' b'
  refine aW (c2 r0) (aW (c3 r0) ⟨mL h0 fun h110 e110=>⟨c3 e110,mL h1 fun h113 e113=>⟨iJ (i127 h0) (i127 h1) fun h115 e115=>aN fun n h117 hn bn en sn=>?_,aN fun n h120 hn bn en sn=>iJ (i127 h0) (i127 h1) fun h122 e122=>?_⟩,aN fun n h125 hn bn en sn=>⟨c3 (e110.trans en),mL h1 fun h128 e128=>iJ (i127 h0) (i127 h1) fun h130 e130=>?_⟩⟩,aN fun n h133 hn bn en sn=>⟨c3 en,c2 en,mL h0 fun h137 e137=>⟨c3 (en.trans e137),mL h1 fun h140 e140=>iJ (i127 h0) (i127 h1) fun h142 e142=>?_⟩⟩⟩)
  ·have q:=((e110.trans e113).trans e115).size
   exact first h117 n (((e110.trans e113).trans e115).trans en) (by omega) bn
  ·have q:=(e110.trans e113).size
   exact first h122 n (((e110.trans e113).trans en).trans e122) (by omega) (e122.block bn fun f=>f)
  ·have q:=e110.size
   exact first h130 n ((e110.trans en).trans (e128.trans e130)) (by omega) ((e128.trans e130).block bn fun f=>f)
  ·exact first h142 n (en.trans ((e137.trans e140).trans e142)) (by omega) (((e137.trans e140).trans e142).block bn fun f=>f)
section
variable {α:Type}{key:α->Cel}
theorem rf {x:α}:∀ {A B:List α},(∀ y∈A,bZ (key y) (key x)=-1)->(∀ y∈B,bZ (key x) (key y)=-1)->eu key (A ++ B) x=A ++ x :: B
 | [],[],_,_=>rfl
 | [],y :: B,_,hB=>by
  show (if bZ (key x) (key y)=-1 then x :: y :: B else if bZ (key x) (key y)=0 then x :: B else y :: eu key B x)=_
  rw [if_pos (hB y (by simp))];rfl
 | y :: A,B,hA,hB=>by
  have h1:=hA y (by simp)
  have h2:=dR (key x) (key y)
  show (if bZ (key x) (key y)=-1 then x :: y :: (A ++ B) else if bZ (key x) (key y)=0 then x :: (A ++ B) else y :: eu key (A ++ B) x)=_
  rw [if_neg (by omega),if_neg (by omega),rf (fun z hz=>hA z (by simp [hz])) hB];rfl
theorem xF {x y:α}(hy:key y=key x):∀ {A B:List α},(∀ z∈A,bZ (key z) (key x)=-1)->eu key (A ++ y :: B) x=A ++ x :: B
 | [],B,_=>by
  show (if bZ (key x) (key y)=-1 then x :: y :: B else if bZ (key x) (key y)=0 then x :: B else y :: eu key B x)=_
  have:bZ (key x) (key y)=0:=dq.2 hy.symm
  rw [if_neg (by omega),if_pos this];rfl
 | z :: A,B,hA=>by
  have h1:=hA z (by simp)
  have h2:=dR (key x) (key z)
  show (if bZ (key x) (key z)=-1 then x :: z :: (A ++ y :: B) else if bZ (key x) (key z)=0 then x :: (A ++ y :: B) else z :: eu key (A ++ y :: B) x)=_
  rw [if_neg (by omega),if_neg (by omega),xF hy (fun z hz=>hA z (by simp [hz]))];rfl
end
theorem BV {Z:List DR}(x:DR):toD (eu DR.c Z x)=oS (toD Z) x.c x.vs:=tP (key:=DR.c) (key':=fun x:Cel×List Ver=>x.1) (fun r:DR=>(r.c,r.vs)) (fun _=>rfl) Z
theorem BA {Z:List DR}(hs:fA DR.c Z){i:Nat}{r:DR}(hr:Z[i]?=some r):∀ z∈Z.take i,bZ z.c r.c=-1:=fun z hz=>by
 obtain ⟨j,hj⟩:=List.mem_iff_getElem?.1 hz
 have hji:j<i:=by
  have:=(List.getElem?_eq_some_iff.1 hj).1
  rw [List.length_take] at this;omega
 rw [List.getElem?_take_of_lt hji] at hj
 obtain ⟨q1,q2⟩:=List.getElem?_eq_some_iff.1 hj
 obtain ⟨q3,q4⟩:=List.getElem?_eq_some_iff.1 hr
 have:=List.pairwise_iff_getElem.1 hs j i q1 q3 hji
 rw [q2,q4] at this;exact this
section
variable {h:H}{d:Nat}{Z:List DR}{slots:Nat}{x:Sl}
theorem sC {c:Cel}{s:Sl}{vs:List Ver}{Q:H->Prop}(z:DZ h d Z slots x) (hs:fA DR.c Z) (hZ:Z.length<=1048576) (w:aU h s tV7 6 (vs.flatMap fV))
  (k:∀ h',DH h' d (oS (toD Z) c vs) slots->bI (·=d) h h'->Q h'):F.xch (some ⟨d,0,none⟩) c s h Q:=by
 have hd:d<h.size:=dx z.sb
 have hl:=bH gE (by omega) z.row
 unfold F.xch
 refine aN fun m h1 hm b1 e1 s1=>⟨c,Blk.cells b1,?_⟩
 -- behind the place
 have go:∀ (i hi2:Nat) (f:Bool) (h5:H),i<=Z.length->hi2<=Z.length->(f=true->hi2=i+1)->(f=false->hi2=i)->Ext h1 h5->Z.take i ++ (⟨c,vs,s⟩:DR) :: Z.drop hi2=eu DR.c Z ⟨c,vs,s⟩ ->
   ly x 0 (i:Int) 4 fun s13=>dA PP (Builtin.append_ #[137,137] 137 #[(⟨none,0,0⟩:Sl).enc,s13.enc]) h5 fun s15 h14=>ak h14 ⟨m,0,none⟩ fun y16 =>
    fv h14 (((⟨y16,s⟩:ci).cells).toArray) tH7 1 fun s19 h18=>dA PP (Builtin.append_ #[137,137] 137 #[s15.enc,s19.enc]) h18 fun s21 h20 =>
    (f=true->F.xch.j1 Q (some ⟨d,0,none⟩) (IntKind.wrap .i64 ((i:Int)+1)) s21 h20)∧(f=false->F.xch.j1 Q (some ⟨d,0,none⟩) (i:Int) s21 h20):=fun i hi2 f h5 hi hi2' ft ff e5 hset=>by
  have e05:=e1.trans e5
  have z5:=z.ext e05
  refine fQ (lo:=0) (hi:=i) rfl rfl (Nat.zero_le _) (by have:=z5.row.le_cap;omega) ?_
  have rd5:bS h5 (cS x 0 i 4) 4 ((Z.take i).flatMap hR):=by
   have:=iq (lo:=0) (hi:=i) gE (by omega) z5.row.reads (Nat.zero_le _) hi z5.row.le_cap
   simpa using this
  have hti:(Z.take i).length<=1048576:=by rw [List.length_take];omega
  refine fJ (h0:=h) (L:=([]:List DR)) (M:=Z.take i) e05 (dL.nil _ _ _) gE (by omega) eN (aU.nil _ _ _) rd5 tJ (by simp only [List.length_nil];omega) fun r h14 w14 e14 m14 o14 _=>?_
  rw [List.nil_append] at w14
  have x14:Ext h5 h14:=o14.mono fun b _ hb=>by simp [Sl.blk] at hb
  have b14:Blk h14 m c.cells.toArray aJ:=(e5.trans x14).block b1 fun f=>f
  refine ⟨c,Blk.cells b14,?_⟩
  refine eA (x:=(⟨c,vs,s⟩:DR)) (h0:=h) e14 m14 gE (by omega) eN w14 tJ (by omega) fun r2 h20 w20 e20 m20 o20 _=>?_
  have j1:F.xch.j1 Q (some ⟨d,0,none⟩) (hi2:Int) r2 h20:=by
   unfold F.xch.j1
   have z20:=z.ext e20
   simp only [aZ,aC,Nat.zero_add]
   rw [bj z20.cs1]
   refine fQ (lo:=hi2) (hi:=x.len) rfl rfl (by omega) z20.row.le_cap ?_
   have rd20:bS h20 (cS x hi2 x.len 4) 4 ((Z.drop hi2).flatMap hR):=by
    have:=iq (lo:=hi2) (hi:=x.len) gE (by omega) z20.row.reads (by omega) (by omega) z20.row.le_cap
    rwa [List.take_of_length_le (by rw [List.length_drop];omega)] at this
   have hdl:(Z.drop hi2).length<=1048576:=by rw [List.length_drop];omega
   refine fJ (h0:=h) (M:=Z.drop hi2) e20 m20 gE (by omega) eN w20 rd20 tJ (by rw [List.length_append];simp only [List.length_singleton];omega) fun r3 h28 w28 e28 m28 o28 _=>?_
   have z28:=z.ext e28
   have hne:r3.blk≠some d:=fun e=>by have:=m28 d e;omega
   refine cC z28.sb (by simp) fun h' b' o' s'=>k h' ?_ ?_
   ·refine ⟨r3,eu DR.c Z ⟨c,vs,s⟩,BV _,⟨?_,?_,fun q hq=>?_⟩⟩
    ·exact b'
    ·rw [← hset]
     have:Z.take i ++ [(⟨c,vs,s⟩:DR)] ++ Z.drop hi2=Z.take i ++ (⟨c,vs,s⟩:DR) :: Z.drop hi2:=by simp
     rw [this] at w28
     exact w28.only o' fun b hb e=>hne (by rw [hb,e])
    ·have ow:aU h28 q.s tV7 6 (q.vs.flatMap fV):=by
      rcases (jQ hs).1 hq with e | ⟨e,_⟩
      ·subst e;exact w.ext e28
      ·exact z28.vs q e
     exact ow.only o' fun b hb e=>by
      subst e
      exact nK ow z28.sb (by decide) hb
   ·exact (e28.only (S:=(·=d))).trans o' fun _ _ e=>e
  refine ⟨fun g=>?_,fun g=>?_⟩
  ·rw [show IntKind.wrap .i64 ((i:Int)+1)=(hi2:Int) by rw [fM (by omega),ft g]]
   exact j1
  ·rw [show (i:Int)=(hi2:Int) by rw [ff g]]
   exact j1
 refine iz (z.ext e1) hs hZ (fun i r hr hc h5 e5=>?_) fun i hi q1 q2 h5 e5=>?_
 ·have z5:=(z.ext e1).ext e5
  have hil:i<Z.length:=(List.getElem?_eq_some_iff.1 hr).1
  rw [aZ,aC,Nat.zero_add,bj z5.cs1]
  refine go i (i+1) true h5 (by omega) (by omega) (fun _=>rfl) (fun g=>by cases g) e5 ?_
  have hsp:Z=Z.take i ++ r :: Z.drop (i+1):=by
   obtain ⟨q1,q2⟩:=List.getElem?_eq_some_iff.1 hr
   rw [← q2,← List.drop_eq_getElem_cons q1,List.take_append_drop]
  have:=xF (key:=DR.c) (x:=(⟨c,vs,s⟩:DR)) (y:=r) hc (A:=Z.take i) (B:=Z.drop (i+1)) fun z hz=>by rw [← hc];exact BA hs hr z hz
  rw [← hsp] at this
  exact this.symm
 ·have z5:=(z.ext e1).ext e5
  rw [aZ,aC,Nat.zero_add,bj z5.cs1]
  refine go i i false h5 hi hi (fun g=>by cases g) (fun _=>rfl) e5 ?_
  have:=rf (key:=DR.c) (x:=(⟨c,vs,s⟩:DR)) (A:=Z.take i) (B:=Z.drop i) q1 q2
  rw [List.take_append_drop] at this
  exact this.symm
theorem py {A:SL}{y:Cel×List Ver}:aR (A ++ [y])=aR A+dl y.2:=by
 unfold aR;rw [List.map_append,List.sum_append];simp
theorem pt {A:SL}{y:Cel×List Ver}:ck (A ++ [y])=ck A+dH y.2:=by
 unfold ck;rw [List.map_append,List.sum_append];simp
theorem kD {i:Nat}{r:DR}(hr:Z[i]?=some r):toD (Z.take (i+1))=toD (Z.take i) ++ [(r.c,r.vs)]:=by
 rw [ed hr];unfold toD;rw [List.map_append];rfl
theorem px (i:Nat):aR (toD (Z.take i))<=aR (toD Z):=by
 have:toD Z=toD (Z.take i) ++ toD (Z.drop i):=by unfold toD;rw [← List.map_append,List.take_append_drop]
 rw [this];unfold aR;rw [List.map_append,List.sum_append];omega
theorem DZ.vlen (hu:aR (toD Z)<=1048576){r:DR}(hr:r∈Z):r.vs.length<=1048576:=by
 have:=oY (S:=toD Z) (x:=(r.c,r.vs)) (List.mem_map.2 ⟨r,hr,rfl⟩)
 simp only at this;omega
theorem iL {Q:Int->H->Prop}(z:DZ h d Z slots x) (hZ:Z.length<=1048576) (hu:aR (toD Z)<=1048576) (k:Q ((aR (toD Z):Nat):Int) h):F.xbh (some ⟨d,0,none⟩) h Q:=by
 have hl:=bH gE (by omega) z.row
 unfold F.xbh
 refine ⟨Z.length+1,?_⟩
 have loop:∀ (n i:Nat),i<=Z.length->Z.length-i<n->F.xbh.l1 Q n (some ⟨d,0,none⟩) ((aR (toD (Z.take i)):Nat):Int) (i:Int) h:=by
  intro n
  induction n with
  | zero=>intro i _ hm;omega
  | succ n ih =>
   intro i hi hm
   unfold F.xbh.l1
   simp only [aZ,aC,Nat.zero_add]
   rw [bj z.cs1,hl]
   refine ⟨fun g=>?_,fun g=>?_⟩
   ·have g:=of_decide_eq_true g
    obtain ⟨r,hr⟩:∃ r,Z[i]?=some r:=⟨_,List.getElem?_eq_getElem (by omega)⟩
    have hrz:=List.mem_of_getElem? hr
    have hvl:=DZ.vlen hu hrz
    rw [bj z.cs1]
    refine i5 z.row.reads hr fun a _ c3=>dJ c3 (iZ (z.vs r hrz) (by omega) ?_)
    have h1:=px (Z:=Z) (i+1)
    rw [kD hr,py] at h1
    simp only at h1
    rw [w64 (by omega) (by omega),fM (by omega),show ((aR (toD (Z.take i)):Nat):Int)+((dl r.vs:Nat):Int)=((aR (toD (Z.take (i+1))):Nat):Int) by rw [kD hr,py];simp]
    exact ih (i+1) (by omega) (by omega)
   ·have g:=of_decide_eq_false g
    have:i=Z.length:=by omega
    subst this
    rw [List.take_length];exact k
 exact loop _ 0 (by omega) (by omega)
theorem up {Q:Int->H->Prop}(z:DZ h d Z slots x) (hok:SOk (toD Z)) (hZ:Z.length<=1048576) (hu:aR (toD Z)<=1048576) (k:Q ((ck (toD Z):Nat):Int) h):F.xbj (some ⟨d,0,none⟩) h Q:=by
 have hl:=bH gE (by omega) z.row
 unfold F.xbj
 refine ⟨Z.length+1,?_⟩
 have loop:∀ (n i:Nat),i<=Z.length->Z.length-i<n->F.xbj.l1 Q n (some ⟨d,0,none⟩) ((ck (toD (Z.take i)):Nat):Int) (i:Int) h:=by
  intro n
  induction n with
  | zero=>intro i _ hm;omega
  | succ n ih =>
   intro i hi hm
   unfold F.xbj.l1
   simp only [aZ,aC,Nat.zero_add]
   rw [bj z.cs1,hl]
   refine ⟨fun g=>?_,fun g=>?_⟩
   ·have g:=of_decide_eq_true g
    obtain ⟨r,hr⟩:∃ r,Z[i]?=some r:=⟨_,List.getElem?_eq_getElem (by omega)⟩
    have hrz:=List.mem_of_getElem? hr
    have hvl:=DZ.vlen hu hrz
    have hne:r.vs≠[]:=(hok.ok (r.c,r.vs) (List.mem_map.2 ⟨r,hrz,rfl⟩)).2.ne
    have hp:=List.length_pos_iff.2 hne
    have hsl:=bH gc (by omega) (z.vs r hrz)
    have hth:=lQ (S:=toD (Z.take i))
    have h1:=px (Z:=Z) i
    rw [bj z.cs1]
    refine i5 z.row.reads hr fun a _ c3=>dJ c3 ?_
    rw [hsl,w64 (by omega) (by omega),show (r.vs.length:Int)-1=((r.vs.length-1:Nat):Int) by omega]
    refine lg (z.vs r hrz).reads (C.fp hne) fun a2 _ _ c5 _=>hQ c5 ?_
    have hal:dH r.vs=if (r.vs.getLast hne).dead then 0 else 1:=by
     unfold dH eS C.bT
     rw [List.getLast?_eq_some_getLast hne]
     show (if (!(r.vs.getLast hne).dead)=true then 1 else 0)=_
     cases (r.vs.getLast hne).dead <;> rfl
    have hsn:=kD hr
    unfold F.xbj.j2
    cases hd:(r.vs.getLast hne).dead with
    | true =>
     rw [hd] at hal
     refine ⟨fun g=>(by cases g),fun _=>?_⟩
     rw [fM (by omega),show ((ck (toD (Z.take i)):Nat):Int)=((ck (toD (Z.take (i+1))):Nat):Int) by rw [hsn,pt];simp [hal]]
     exact ih (i+1) (by omega) (by omega)
    | false =>
     rw [hd] at hal
     refine ⟨fun _=>?_,fun g=>by cases g⟩
     rw [fM (by omega),fM (by omega),show ((ck (toD (Z.take i))+1:Nat):Int)=((ck (toD (Z.take (i+1))):Nat):Int) by rw [hsn,pt];simp [hal]]
     exact ih (i+1) (by omega) (by omega)
   ·have g:=of_decide_eq_false g
    have:i=Z.length:=by omega
    subst this
    rw [List.take_length];exact k
 exact loop _ 0 (by omega) (by omega)
end
theorem my {h:H}{c:Cel}{Q:Int->H->Prop}(k:∀ h',Ext h h'->Q (okC c) h'):F.xal c h Q:=by
 unfold F.xal
 refine aN fun n h1 hn b1 e1 s1=>?_
 have c0:aA h1 ⟨n,0,none⟩=some (.int .i64 c.View):=Blk.cells b1 0 _ rfl
 have c1:aA h1 ⟨n,1,none⟩=some (.string c.Key):=Blk.cells b1 1 _ rfl
 have c2:aA h1 ⟨n,2,none⟩=some (.int .i64 c.Start):=Blk.cells b1 2 _ rfl
 have k:=k h1 e1
 unfold F.xal.j5 F.xal.j1 F.xal.j4 F.xal.j2 F.xal.j3
 unfold okC at k
 simp only [aC,Nat.zero_add,Nat.add_zero]
 have j2:¬ (c.View<0∨c.View>=4)->¬ ((c.Key.size:Int)<1∨(c.Key.size:Int) > 32)->∀ b:Bool,b=true∧(c.Start < -2305843009213693952∨c.Start > 2305843009213693952)∨b=false∧¬ (c.Start < -2305843009213693952∨c.Start > 2305843009213693952)->(b=true->Q 22 h1)∧(b=false->Q 0 h1):=fun q1 q2 b q3=>by
  rw [if_neg q1,if_neg q2] at k
  rcases q3 with ⟨q3,q4⟩ | ⟨q3,q4⟩
  ·subst q3;rw [if_pos q4] at k;exact ⟨fun _=>k,fun g=>by cases g⟩
  ·subst q3;rw [if_neg q4] at k;exact ⟨fun g=>(by cases g),fun _=>k⟩
 have j1:¬ (c.View<0∨c.View>=4)->¬ ((c.Key.size:Int)<1∨(c.Key.size:Int) > 32)->ldI .i64 h1 ⟨n,2,none⟩ fun y4=>((decide (y4<(-2305843009213693952)))=true->(True->Q 22 h1)∧(true=false->Q 0 h1))∧((decide (y4<(-2305843009213693952)))=false->ldI .i64 h1 ⟨n,2,none⟩ fun y7=>((decide (y7 > 2305843009213693952))=true->Q 22 h1)∧((decide (y7 > 2305843009213693952))=false->Q 0 h1)):=fun q1 q2=>by
  refine aW c2 ⟨fun g=>⟨fun _=>(j2 q1 q2 true (.inl ⟨rfl,.inl (of_decide_eq_true g)⟩)).1 rfl,fun g=>(by cases g)⟩,fun g=>aW c2 (j2 q1 q2 _ ?_)⟩
  have g:=of_decide_eq_false g
  by_cases hg:c.Start > 2305843009213693952
  ·exact .inl ⟨decide_eq_true hg,.inr hg⟩
  ·exact .inr ⟨decide_eq_false hg,by omega⟩
 have v23:(c.View<0∨c.View>=4)->Q 23 h1:=fun g=>by rw [if_pos g] at k;exact k
 have v21:¬ (c.View<0∨c.View>=4)->((c.Key.size:Int)<1∨(c.Key.size:Int) > 32)->Q 21 h1:=fun g g2=>by rw [if_neg g,if_pos g2] at k;exact k
 refine aW c0 ⟨fun g=>⟨fun _=>v23 (.inl (of_decide_eq_true g)),fun h=>by cases h⟩,fun g=>aW c0 ⟨fun g2=>v23 (.inr (of_decide_eq_true g2)),fun g2=>?_⟩⟩
 have g:=of_decide_eq_false g
 have g2:=of_decide_eq_false g2
 have hv:¬ (c.View<0∨c.View>=4):=by omega
 refine jU c1 ⟨fun g3=>⟨fun _=>v21 hv (.inl (of_decide_eq_true g3)),fun h=>by cases h⟩,fun g3=>jU c1 ⟨fun g4=>v21 hv (.inr (of_decide_eq_true g4)),fun g4=>?_⟩⟩
 have g3:=of_decide_eq_false g3
 have g4:=of_decide_eq_false g4
 exact j1 hv (by omega)
theorem xT {h:H}{m:Int}{Q:Option Addr->Int->H->Prop}(k0:(m<2∨m > 1048576)->Q none 1 h) (k1:2<=m->m<=1048576->∀ h' d,DH h' d [] m.toNat->Ext h h'->h.size<=d->Q (some ⟨d,0,none⟩) 0 h'):F.xcf m h Q:=by
 unfold F.xcf F.xcf.j2 F.xcf.j1
 have go:2<=m->m<=1048576->new h ((⟨m,(⟨none,0,0⟩:Sl)⟩:dX).cells.toArray) tS7 fun a2 h1=>Q (some a2) 0 h1:=fun h1 h2 =>
  aN fun n h3 hn b3 e3 s3=>k1 h1 h2 h3 n ⟨⟨none,0,0⟩,[],rfl,⟨by
   have hm:((m.toNat:Nat):Int)=m:=by omega
   rw [hm];exact b3,aU.nil _ _ _,fun r hr=>by cases hr⟩⟩ e3 (by omega)
 refine ⟨fun g=>⟨fun _=>k0 (.inl (of_decide_eq_true g)),fun h=>by cases h⟩,fun g=>⟨fun g2=>k0 (.inr (of_decide_eq_true g2)),fun g2=>?_⟩⟩
 exact go (by have:=of_decide_eq_false g;omega) (by have:=of_decide_eq_false g2;omega)
theorem yp {vs:List Ver}{p:Ver->Bool}{i:Nat}{v:Ver}(hv:vs[i]?=some v) (hp:p v=true) (hr:∀ j u,i<j->vs[j]?=some u->p u=false):(vs.filter p).getLast?=some v:=by
 obtain ⟨q1,q2⟩:=List.getElem?_eq_some_iff.1 hv
 have hsp:vs=vs.take i ++ v :: vs.drop (i+1):=by rw [← q2,← List.drop_eq_getElem_cons q1,List.take_append_drop]
 have hd:(vs.drop (i+1)).filter p=[]:=by
  rw [List.filter_eq_nil_iff]
  intro u hu
  obtain ⟨j,hj⟩:=List.mem_iff_getElem?.1 hu
  rw [List.getElem?_drop] at hj
  rw [hr (i+1+j) u (by omega) hj];simp
 rw [hsp,List.filter_append,List.filter_cons,if_pos hp,hd]
 simp
theorem uu {h:H}{s:Sl}{vs:List Ver}{e:Int}{Q:ag->Bool->H->Prop}(w:aU h s tV7 6 (vs.flatMap fV)) (hv:vs.length<=1048576) (hd:∀ v∈vs,v.dead=true->v.value=zA) (k:∀ h',Ext h h'->Q (atV vs e).1 (atV vs e).2 h'):F.xas s e h Q:=by
 have hl:=bH gc (by omega) w
 unfold F.xas
 refine aN fun m h1 hm b1 e1 s1=>⟨vs.length+1,?_⟩
 have b1':Blk h1 m zA.cells.toArray cf:=b1
 have w1:=w.ext e1
 rw [hl]
 have loop:∀ (n i:Nat),i<=vs.length->i<n->(∀ j u,i<=j->vs[j]?=some u->¬ (e=0∨u.epoch<=e))->F.xas.l1 Q n s e ⟨m,0,none⟩ (IntKind.wrap .i64 ((i:Int)-1)) h1:=by
  intro n
  induction n with
  | zero=>intro i _ hm;omega
  | succ n ih =>
   intro i hi hm hno
   unfold F.xas.l1
   rw [w64 (n:=(i:Int)-1) (by omega) (by omega)]
   refine ⟨fun g=>?_,fun g=>?_⟩
   ·have g:=of_decide_eq_true g
    have hi1:(i:Int)-1=((i-1:Nat):Int):=by omega
    rw [hi1]
    obtain ⟨v,hv'⟩:∃ v,vs[i-1]?=some v:=⟨_,List.getElem?_eq_getElem (by omega)⟩
    have found:(e=0∨v.epoch<=e)->F.xas.j3 Q (F.xas.l1 Q n) s e ⟨m,0,none⟩ ((i-1:Nat):Int) true h1:=fun hc=>by
     have hat:(atV vs e).1=v.value∧(atV vs e).2=!v.dead:=by
      unfold atV eS C.bT C.atM
      by_cases h0:e=0
      ·rw [if_pos h0]
       have hlast:i=vs.length:=by
        rcases Nat.lt_or_ge i vs.length with g | g
        ·exact absurd (.inl h0) (hno i vs[i] (Nat.le_refl _) (List.getElem?_eq_getElem g))
        ·omega
       rw [hlast] at hv'
       rw [List.getLast?_eq_getElem?,hv']
       exact ⟨rfl,rfl⟩
      ·rw [if_neg h0]
       have hve:v.epoch<=e:=hc.resolve_left h0
       rw [yp hv' (decide_eq_true hve) fun j u hj hu=>decide_eq_false fun g=>hno j u (by omega) hu (.inr g)]
       simp only
       cases hdv:v.dead with
       | true=>rw [if_pos rfl];exact ⟨(hd v (List.mem_of_getElem? hv') hdv).symm,rfl⟩
       | false=>rw [if_neg (by decide)];exact ⟨rfl,rfl⟩
     unfold F.xas.j3
     refine ⟨fun _=>?_,fun g=>by cases g⟩
     refine lg w1.reads hv' fun a _ c1 _ _=>⟨v.value,c1,lg w.reads hv' fun a2 _ _ c5 call=>hQ (e1.cell c5 fun f=>f) (C.eK b1' fun h13 b13 o13 s13=>⟨?_,v.value,Blk.cells b13,?_⟩)⟩
     ·have e13:Ext h h13:=e1.step o13 fun x hx hb=>by omega
      exact e13.cell c5 fun f=>f
     ·have:=k h13 (e1.step o13 fun x hx hb=>by omega)
      rw [hat.1,hat.2] at this
      exact this
    refine ⟨fun g2=>found (.inl (eq_of_beq g2)),fun g2=>lg w1.reads hv' fun a c0 _ _ _=>aW c0 ?_⟩
    have g2:e≠0:=by simpa using g2
    by_cases hve:v.epoch<=e
    ·rw [decide_eq_true hve];exact found (.inr hve)
    ·rw [decide_eq_false hve]
     unfold F.xas.j3 F.xas.j2
     refine ⟨fun g=>(by cases g),fun _=>ih (i-1) (by omega) (by omega) fun j u hj hu=>?_⟩
     by_cases hji:j=i-1
     ·rw [hji,hv'] at hu;cases hu
      rintro (g | g)
      ·exact g2 g
      ·exact hve g
     ·exact hno j u (by omega) hu
   ·have g:=of_decide_eq_false g
    have hi0:i=0:=by omega
    subst hi0
    have hat:(atV vs e).1=zA∧(atV vs e).2=false:=by
     unfold atV eS C.bT C.atM
     by_cases h0:e=0
     ·rw [if_pos h0]
      have:vs=[]:=by
       cases vs with
       | nil=>rfl
       | cons a r=>exact absurd (.inl h0) (hno 0 a (Nat.le_refl _) rfl)
      rw [this];exact ⟨rfl,rfl⟩
     ·rw [if_neg h0]
      have:vs.filter (fun x=>decide (x.epoch<=e))=[]:=by
       rw [List.filter_eq_nil_iff]
       intro u hu
       obtain ⟨j,hj⟩:=List.mem_iff_getElem?.1 hu
       have:=hno j u (Nat.zero_le _) hj
       simp;omega
      rw [this];exact ⟨rfl,rfl⟩
    refine C.eK (d:=zA) b1' fun h13 b13 o13 s13=>⟨zA,Blk.cells b13,?_⟩
    have:=k h13 (e1.step o13 fun x hx hb=>by omega)
    rw [hat.1,hat.2] at this
    exact this
 exact loop _ vs.length (Nat.le_refl _) (by omega) fun j u hj hu=>by
  have:=(List.getElem?_eq_some_iff.1 hu).1
  omega
section
variable {h:H}{d:Nat}{Z:List DR}{slots:Nat}{x:Sl}
theorem CM {S:SL}(hok:SOk S){c:Cel}{e:Int}(h:cx S c=none):atS S c e=zA:=by
 unfold atS;rw [h];split <;> rfl
theorem zu {S:SL}(hok:SOk S){c:Cel}{e:Int}{vs:List Ver}(h:cx S c=some vs):atS S c e=(atV vs e).1:=by
 have:okC c=0:=by
  unfold cx at h
  obtain ⟨y,hy,_⟩:=Option.map_eq_some_iff.1 h
  obtain ⟨q1,q2⟩:=fW hy
  have:=(hok.ok y q1).1
  rw [q2] at this;exact this
 unfold atS
 rw [if_neg (fun g=>g this),h]
theorem zb {c:Cel}{e:Int}{Q:ag->H->Prop}(z:DZ h d Z slots x) (hok:SOk (toD Z)) (hZ:Z.length<=1048576) (hu:aR (toD Z)<=1048576) (k:∀ h',Ext h h'->Q (atS (toD Z) c e) h'):F.xff (some ⟨d,0,none⟩) c e h Q:=by
 have hs:=kB hok.sort
 unfold F.xff
 refine aN fun m h1 hm b1 e1 s1=>aN fun n h3 hn b3 e3 s3=>⟨c,(Blk.cells b1).ext e3,?_⟩
 have e13:=e1.trans e3
 have b3':Blk h3 n zA.cells.toArray cf:=b3
 refine iz (z.ext e13) hs hZ (fun i r hr hc h7 e7=>⟨fun g=>(by cases g),fun _=>?_⟩) fun i hi q1 q2 h7 e7=>⟨fun _=>?_,fun g=>by cases g⟩
 ·have hrz:=List.mem_of_getElem? hr
  have z7:=(z.ext e13).ext e7
  have hr2:=(hok.ok (r.c,r.vs) (List.mem_map.2 ⟨r,hrz,rfl⟩)).2
  rw [aZ,aC,Nat.zero_add,bj z7.cs1]
  refine i5 z7.row.reads hr fun a _ c3=>dJ c3 (uu (z7.vs r hrz) (DZ.vlen hu hrz) hr2.dead fun h22 e22=>aN fun p h25 hp b25 e25 s25=>?_)
  have b25':Blk h25 p zA.cells.toArray cf:=b25
  refine C.eK (d:=(atV r.vs e).1) b25' fun h27 b27 o27 s27=>?_
  have e322:=e7.trans e22
  have hs22:=e322.size
  have hnl:n<h3.size:=by omega
  have e27:Ext h3 h27:=(e322.trans e25).step o27 fun y hy hb=>by omega
  have bn:Blk h27 n zA.cells.toArray cf:=e27.block b3' fun f=>f
  have hat:=zu hok (c:=c) (e:=e) (by rw [← hc];exact zV hs hr)
  have fin:∀ (a:ag),a=(atV r.vs e).1->stH h27 ⟨n,0,none⟩ a.cells fun h34=>bh h34 ⟨n,0,none⟩ fun y35=>Q y35 h34:=fun a ha=>by
   refine C.eK (d:=a) bn fun h34 b34 o34 s34=>⟨a,Blk.cells b34,?_⟩
   have:=k h34 ((e13.trans e27).step o34 fun y hy hb=>by have:=e1.size;omega)
   rw [hat,← ha] at this;exact this
  refine ⟨fun g=>fin _ ?_,fun g=>⟨_,Blk.cells b27,fin _ rfl⟩⟩
  -- a dead one
  have g:(atV r.vs e).2=false:=by simpa using g
  unfold atV eS C.bT C.atM at g ⊢
  by_cases h0:e=0
  ·rw [if_pos h0] at g ⊢
   rw [List.getLast?_eq_some_getLast hr2.ne] at g ⊢
   have g:(!(r.vs.getLast hr2.ne).dead)=false:=g
   exact (hr2.dead _ (List.getLast_mem hr2.ne) (by simpa using g)).symm
  ·rw [if_neg h0] at g ⊢
   split at g
   ·rename_i v hv
    split at g
    ·rename_i hdv
     rw [if_pos hdv]
    ·cases g
   ·rfl
 ·refine C.eK (d:=zA) (e7.block b3' fun f=>f) fun h11 b11 o11 s11=>⟨zA,Blk.cells b11,?_⟩
  have:=k h11 ((e13.trans e7).step o11 fun y hy hb=>by have:=e1.size;omega)
  rw [CM hok (zX q1 q2)] at this
  exact this
theorem yC (L:List Nat) (n:Nat):kw (L ++ [n])=max (kw L) n:=by
 unfold kw;rw [List.foldl_append];rfl
theorem qh {Q:Int->H->Prop}(z:DZ h d Z slots x) (hZ:Z.length<=1048576) (hu:aR (toD Z)<=1048576) (k:Q ((gp (toD Z):Nat):Int) h):F.xbd (some ⟨d,0,none⟩) h Q:=by
 have hl:=bH gE (by omega) z.row
 unfold F.xbd
 refine ⟨Z.length+1,?_⟩
 have loop:∀ (n i:Nat),i<=Z.length->Z.length-i<n->F.xbd.l1 Q n (some ⟨d,0,none⟩) ((gp (toD (Z.take i)):Nat):Int) (i:Int) h:=by
  intro n
  induction n with
  | zero=>intro i _ hm;omega
  | succ n ih =>
   intro i hi hm
   unfold F.xbd.l1
   simp only [aZ,aC,Nat.zero_add]
   rw [bj z.cs1,hl]
   refine ⟨fun g=>?_,fun g=>?_⟩
   ·have g:=of_decide_eq_true g
    obtain ⟨r,hr⟩:∃ r,Z[i]?=some r:=⟨_,List.getElem?_eq_getElem (by omega)⟩
    have hrz:=List.mem_of_getElem? hr
    have hsl:=bH gc (by omega) (z.vs r hrz)
    have hsn:gp (toD (Z.take (i+1)))=max (gp (toD (Z.take i))) r.vs.length:=by
     unfold gp
     rw [kD hr,List.map_append,List.map_singleton,yC]
    have nx:=ih (i+1) (by omega) (by omega)
    rw [hsn] at nx
    rw [bj z.cs1]
    unfold F.xbd.j2
    refine i5 z.row.reads hr fun a _ c3=>dJ c3 ⟨fun g2=>dJ z.cs1 (i5 z.row.reads hr fun a2 _ c32=>dJ c32 ?_),fun g2=>?_⟩
    ·have g2:=of_decide_eq_true g2
     rw [hsl] at g2 ⊢
     rw [fM (by omega)]
     rw [Nat.max_eq_right (by omega)] at nx
     exact nx
    ·have g2:=of_decide_eq_false g2
     rw [hsl] at g2
     rw [fM (by omega)]
     rw [Nat.max_eq_left (by omega)] at nx
     exact nx
   ·have g:=of_decide_eq_false g
    have:i=Z.length:=by omega
    subst this
    rw [List.take_length];exact k
 exact loop _ 0 (by omega) (by omega)
theorem qP {S:SL}(hok:SOk S){e:Int}{c:Cel}{a:ag}(hc:okC c=0) (hn:¬ (C.bT ((cx S c).getD [])).2.1 > e) :
  fc S e c=((dl (C.fH ((cx S c).getD []) ⟨e,a,false⟩):Nat):Int)-((dl ((cx S c).getD []):Nat):Int):=by
 have h1:=(sQ hok (a:=a) hc hn).2.2
 have h2:=oI ((cx S c).getD []) ⟨e,a,false⟩
 have h3:=lT ((cx S c).getD [])
 rw [h1,h2,h3]
 simp
 omega
theorem pS {S:SL}(hu:aR S<=1048576) (c:Cel):((cx S c).getD []).length<=1048576∧dl ((cx S c).getD [])<=1048577:=by
 cases hg:cx S c with
 | none=>exact ⟨by simp,by decide⟩
 | some vs =>
  unfold cx at hg
  obtain ⟨y,hy,rfl⟩:=Option.map_eq_some_iff.1 hg
  have:=oY (fW hy).1
  show y.2.length<=_∧dl y.2<=_
  unfold dl
  split <;> omega
theorem xU {e:Int}{r:aO}{Q:Int->H->Prop}(z:DZ h d Z slots x) (hok:SOk (toD Z)) (hu:aR (toD Z)<=slots) (hsl:slots<=1048576) (hc:iK r.Agg.Count) (hs:iK r.Agg.Sum) (h0:iK r.Agg.Min) (h1:iK r.Agg.Max)
  (k0:nO (toD Z) slots e r.Cell r.Agg (iB r.Agg)≠0->∀ h',Ext h h'->Q (nO (toD Z) slots e r.Cell r.Agg (iB r.Agg)) h')
  (k1:nO (toD Z) slots e r.Cell r.Agg (iB r.Agg)=0->∀ h',DH h' d (jJ (toD Z) e r.Cell r.Agg) slots->bI (·=d) h h'->Q 0 h'):F.xbq (some ⟨d,0,none⟩) e r h Q:=by
 have hZ:Z.length<=1048576:=by have:=gM hok;rw [jS] at this;omega
 have hd:d<h.size:=dx z.sb
 unfold F.xbq
 refine aN fun m h1' hm b1 e1 s1=>⟨r.Cell,jB (Blk.cells b1),my fun h5 e5=>?_⟩
 unfold nO at k0 k1
 have e15:=e1.trans e5
 have b5:Blk h5 m (cW r).toArray bQ:=e5.block b1 fun f=>f
 refine ⟨fun g=>?_,fun g=>?_⟩
 ·have g:okC r.Cell≠0:=by simpa using g
  rw [if_pos g] at k0
  exact k0 g h5 e15
 have g:okC r.Cell=0:=by simpa using g
 rw [if_neg (fun h=>h g)] at k0 k1
 have bad:(e<1∨e > 1099511627776∨r.Agg.Count=0∨iB r.Agg=false)->∀ h',Ext h h'->Q 1 h':=fun hb h' e'=>by
  rw [if_pos hb] at k0
  exact k0 (by decide) h' e'
 have j1:¬ (e<1∨e > 1099511627776∨r.Agg.Count=0∨iB r.Agg=false)->∀ hh,Ext h5 hh->F.xbq.j1 Q (some ⟨d,0,none⟩) e ⟨m,0,none⟩ hh:=fun hb hh ex=>by
  rw [if_neg hb] at k0 k1
  unfold F.xbq.j1
  have exx:=e15.trans ex
  have zz:=z.ext exx
  have bm:Blk hh m (cW r).toArray bQ:=ex.block b5 fun f=>f
  refine ⟨r.Cell,jB (Blk.cells bm),jW zz (kB hok.sort) hZ fun s h10 w10 e10=>lL w10 (by have:=(pS (S:=toD Z) (by omega) r.Cell).1;omega) ?_⟩
  have e010:=exx.trans e10
  have bm10:Blk h10 m (cW r).toArray bQ:=e10.block bm fun f=>f
  refine ⟨fun g2=>?_,fun g2=>?_⟩
  ·have g2:=of_decide_eq_true g2
   rw [if_pos g2] at k0
   exact k0 (by decide) h10 e010
  ·have g2:=of_decide_eq_false g2
   rw [if_neg g2] at k0 k1
   have hgl:=pS (S:=toD Z) (by omega) r.Cell
   have hnu:=qP hok (a:=r.Agg) g g2
   have hn02:=tR (toD Z) e r.Cell
   have hll:=tL ((cx (toD Z) r.Cell).getD []) ⟨e,r.Agg,false⟩
   have hlr:=kT ((cx (toD Z) r.Cell).getD []) ⟨e,r.Agg,false⟩
   refine ⟨r.Agg,xD (Blk.cells bm10),oZ (v:=⟨e,r.Agg,false⟩) w10 hgl.1 fun r18 h17 w17 m17 e17=>?_⟩
   have e017:=e010.trans e17
   have z17:=z.ext e017
   have w10':=w10.ext e17
   simp only [aZ,aC,Nat.zero_add,Nat.add_zero]
   rw [bA z17.cs0]
   refine iL z17 hZ (by omega) ⟨z17.cs0,iZ w10' (by omega) ⟨z17.cs0,iZ w17 (by omega) ⟨z17.cs0,?_⟩⟩⟩
   have hunit:IntKind.wrap .i64 (IntKind.wrap .i64 (((aR (toD Z):Nat):Int)-((dl ((cx (toD Z) r.Cell).getD []):Nat):Int))+((dl (C.fH ((cx (toD Z) r.Cell).getD []) ⟨e,r.Agg,false⟩):Nat):Int))=(aR (toD Z):Int)+fc (toD Z) e r.Cell:=by
    rw [w64 (n:=((aR (toD Z):Nat):Int)-((dl ((cx (toD Z) r.Cell).getD []):Nat):Int)) (by omega) (by omega),w64 (by omega) (by omega)]
    omega
   rw [hunit]
   have bm17:Blk h17 m (cW r).toArray bQ:=e17.block bm10 fun f=>f
   refine ⟨fun g3=>?_,fun g3=>⟨r.Cell,?_,sC z17 (kB hok.sort) hZ w17 fun h' dh' o'=>?_⟩⟩
   ·have g3:=of_decide_eq_true g3
    rw [if_pos g3] at k0
    exact k0 (by decide) h17 e017
   ·have:=jB (Blk.cells bm17)
    rw [aC,Nat.add_zero] at this;exact this
   ·have g3:=of_decide_eq_false g3
    rw [if_neg g3] at k1
    exact k1 rfl h' dh' ((e017.only (S:=(·=d))).trans o' fun _ _ e=>e)
 unfold F.xbq.j2
 have c0:∀ {hh:H},Ext h5 hh->aA hh ⟨m,3,none⟩=some (.int .i64 r.Agg.Count):=fun e=>e.cell (Blk.cells b5 3 _ rfl) fun f=>f
 refine ⟨fun g2=>⟨fun _=>bad (.inl (of_decide_eq_true g2)) h5 e15,fun h=>by cases h⟩,fun g2=>⟨fun g3=>⟨fun _=>bad (.inr (.inl (of_decide_eq_true g3))) h5 e15,fun h=>by cases h⟩,fun g3=>⟨r.Agg,xD (Blk.cells b5),yM hc hs h0 h1 fun h41 e41=>⟨fun g4=>⟨fun _=>bad (.inr (.inr (.inr (by simpa using g4)))) h41 (e15.trans e41),fun h=>by cases h⟩,fun g4=>?_⟩⟩⟩⟩
 simp only [aC,Nat.zero_add,Nat.add_zero]
 refine aW (c0 e41) ⟨fun g5=>bad (.inr (.inr (.inl (by simpa using g5)))) h41 (e15.trans e41),fun g5=>j1 ?_ h41 e41⟩
 have g2:=of_decide_eq_false g2
 have g3:=of_decide_eq_false g3
 have g4:iB r.Agg=true:=by simpa using g4
 have g5:r.Agg.Count≠0:=by simpa using g5
 rintro (q | q | q | q)
 ·omega
 ·omega
 ·exact g5 q
 ·rw [g4] at q;cases q
theorem vA {e:Int}{c:Cel}{Q:Int->H->Prop}(z:DZ h d Z slots x) (hok:SOk (toD Z)) (hu:aR (toD Z)<=slots) (hsl:slots<=1048576)
  (k0:gn (toD Z) e c≠0->∀ h',Ext h h'->Q (gn (toD Z) e c) h')
  (k1:gn (toD Z) e c=0->∀ h',DH h' d (il (toD Z) e c) slots->bI (·=d) h h'->Q 0 h'):F.xau (some ⟨d,0,none⟩) e c h Q:=by
 have hZ:Z.length<=1048576:=by have:=gM hok;rw [jS] at this;omega
 unfold F.xau
 refine aN fun m h1' hm b1 e1 s1=>⟨c,Blk.cells b1,my fun h5 e5=>?_⟩
 unfold gn at k0 k1
 have e15:=e1.trans e5
 have b5:Blk h5 m c.cells.toArray aJ:=e5.block b1 fun f=>f
 refine ⟨fun g=>?_,fun g=>?_⟩
 ·have g:okC c≠0:=by simpa using g
  rw [if_pos g] at k0
  exact k0 g h5 e15
 have g:okC c=0:=by simpa using g
 rw [if_neg (fun h=>h g)] at k0 k1
 have bad:(e<1∨e > 1099511627776)->∀ h',Ext h h'->Q 1 h':=fun hb h' e'=>by
  rw [if_pos hb] at k0
  exact k0 (by decide) h' e'
 have j1:¬ (e<1∨e > 1099511627776)->F.xau.j1 Q (some ⟨d,0,none⟩) e ⟨m,0,none⟩ h5:=fun hb=>by
  rw [if_neg hb] at k0 k1
  unfold F.xau.j1
  have zz:=z.ext e15
  have hgl:=pS (S:=toD Z) (by omega) c
  refine ⟨c,Blk.cells b5,jW zz (kB hok.sort) hZ fun s h10 w10 e10=>lL w10 (by omega) ?_⟩
  have e010:=e15.trans e10
  have b10:Blk h10 m c.cells.toArray aJ:=e10.block b5 fun f=>f
  have hlen:=bH gc (by omega) w10
  have j2:∀ vs,cx (toD Z) c=some vs->¬ (C.bT vs).2.1 > e->¬ eS vs=false->F.xau.j2 Q (some ⟨d,0,none⟩) e ⟨m,0,none⟩ s h10:=fun vs hg hn ha=>by
   rw [hg] at w10 hgl k1
   simp only at k1
   rw [if_neg hn,if_neg ha] at k1
   unfold F.xau.j2
   refine ⟨c,Blk.cells b10,oZ (v:=⟨e,zA,true⟩) w10 hgl.1 fun r18 h17 w17 m17 e17=>⟨(Blk.cells b10).ext e17,?_⟩⟩
   have e017:=e010.trans e17
   refine sC (z.ext e017) (kB hok.sort) hZ w17 fun h' dh' o'=>k1 rfl h' ?_ ((e017.only (S:=(·=d))).trans o' fun _ _ e=>e)
   unfold il
   rw [hg];exact dh'
  refine ⟨fun g2=>?_,fun g2=>?_⟩
  ·have g2:=of_decide_eq_true g2
   cases hg:cx (toD Z) c with
   | none =>
    rw [hg] at g2
    have g2:(0:Int) > e:=g2
    omega
   | some vs =>
    rw [hg] at g2 k0
    have g2:(C.bT vs).2.1 > e:=g2
    simp only at k0
    rw [if_pos g2] at k0
    exact k0 (by decide) h10 e010
  ·have g2:=of_decide_eq_false g2
   unfold F.xau.j3
   rw [hlen]
   cases hg:cx (toD Z) c with
   | none =>
    rw [hg] at k0
    simp only at k0
    exact ⟨fun _=>⟨fun _=>k0 (by decide) h10 e010,fun h=>by cases h⟩,fun g3=>by simp at g3⟩
   | some vs =>
    have j2':=j2 vs hg
    rw [hg] at g2 k0 w10 hgl
    have g2:¬ (C.bT vs).2.1 > e:=g2
    simp only at k0
    rw [if_neg g2] at k0
    have hne:vs≠[]:=by
     unfold cx at hg
     obtain ⟨y,hy,rfl⟩:=Option.map_eq_some_iff.1 hg
     exact (hok.ok y (fW hy).1).2.ne
    have hp:=List.length_pos_iff.2 hne
    have hgl1:vs.length<=1048576:=hgl.1
    rw [show (some vs).getD []=vs from rfl]
    refine ⟨fun g3=>?_,fun g3=>?_⟩
    ·have:((vs.length:Nat):Int)=0:=eq_of_beq g3
     omega
    ·rw [w64 (n:=(vs.length:Int)-1) (by omega) (by omega),show (vs.length:Int)-1=((vs.length-1:Nat):Int) by omega]
     have hal:eS vs=!(vs.getLast hne).dead:=by
      unfold eS C.bT
      rw [List.getLast?_eq_some_getLast hne]
     refine lg (vs:=vs) w10.reads (C.fp hne) fun a _ _ c5 _=>hQ c5 ?_
     cases hd:(vs.getLast hne).dead with
     | true =>
      rw [hd] at hal
      rw [if_pos (show eS vs=false from hal)] at k0
      exact ⟨fun _=>k0 (by decide) h10 e010,fun h=>by cases h⟩
     | false =>
      rw [hd] at hal
      exact ⟨fun h=>(by cases h),fun _=>j2' g2 (by rw [hal];decide)⟩
 unfold F.xau.j4
 refine ⟨fun g2=>⟨fun _=>bad (.inl (of_decide_eq_true g2)) h5 e15,fun h=>by cases h⟩,fun g2=>⟨fun g3=>bad (.inr (of_decide_eq_true g3)) h5 e15,fun g3=>j1 ?_⟩⟩
 have g2:=of_decide_eq_false g2
 have g3:=of_decide_eq_false g3
 omega
end
theorem uS (L:List Ver){i:Nat}(hi:i<L.length):∀ (E:List Int) (S:List Bool),S.length=L.length->((E.foldl (C.jP L) S)[i]?=some true↔S[i]?=some true∨∃ e∈E,C.jd L e=i+1)
 | [],S,_=>by simp
 | e :: r,S,h=>by
  rw [List.foldl_cons,uS L hi r _ (by rw [C.oK];exact h)]
  have h1:(C.jP L S e)[i]?=some true↔S[i]?=some true∨C.jd L e=i+1:=by
   unfold C.jP
   split
   ·rename_i h0
    constructor
    ·exact fun h=>.inl h
    ·rintro (h | h);exact h;omega
   ·rename_i h0
    rw [List.getElem?_set]
    by_cases he:C.jd L e-1=i
    ·rw [if_pos he,if_pos (by omega)]
     exact ⟨fun _=>.inr (by omega),fun _=>rfl⟩
    ·rw [if_neg he]
     constructor
     ·exact fun h=>.inl h
     ·rintro (h | h);exact h;omega
  rw [h1]
  constructor
  ·rintro ((h | h) | ⟨e',h2,h3⟩)
   ·exact .inl h
   ·exact .inr ⟨e,by simp,h⟩
   ·exact .inr ⟨e',by simp [h2],h3⟩
  ·rintro (h | ⟨e',h2,h3⟩)
   ·exact .inl (.inl h)
   ·rcases List.mem_cons.1 h2 with h2 | h2
    ·subst h2;exact .inl (.inr h3)
    ·exact .inr ⟨e',h2,h3⟩
theorem AO (L:List Ver){i:Nat}(hi:i<L.length) (E:List Int):(C.im L E)[i]?=some true↔i+1=L.length∨∃ e∈E,C.jd L e=i+1:=by
 unfold C.im
 rw [uS L hi E _ (by simp)]
 have:((List.replicate L.length false).set (L.length-1) true)[i]?=some true↔i+1=L.length:=by
  rw [List.getElem?_set]
  by_cases h:L.length-1=i
  ·rw [if_pos h,if_pos (by simp;omega)]
   exact ⟨fun _=>by omega,fun _=>rfl⟩
  ·rw [if_neg h,List.getElem?_replicate,if_pos hi]
   simp;omega
 rw [this]
theorem xa {vs:List Ver}(hr:C.jH vs){i:Nat}{v:Ver}(hv:vs[i]?=some v) (e:Int):C.jd vs e=i+1↔v.epoch<=e∧(i+1=vs.length∨∃ u,vs[i+1]?=some u∧u.epoch > e):=by
 have hi:=(List.getElem?_eq_some_iff.1 hv).1
 have hcnt:C.jd vs e=vs.countP (fun x=>decide (x.epoch<=e)):=rfl
 constructor
 ·intro hc
  rw [hcnt] at hc
  refine ⟨?_,?_⟩
  ·refine Classical.byContradiction fun hn=>?_
   have hle:vs.countP (fun x=>decide (x.epoch<=e))<=i:=by
    have h1:vs.countP (fun x=>decide (x.epoch<=e))=(vs.take i).countP (fun x=>decide (x.epoch<=e))+(vs.drop i).countP (fun x=>decide (x.epoch<=e)):=by
     rw [← List.countP_append,List.take_append_drop]
    have h2:(vs.drop i).countP (fun x=>decide (x.epoch<=e))=0:=by
     rw [List.countP_eq_zero]
     intro u hu
     obtain ⟨j,hj⟩:=List.mem_iff_getElem?.1 hu
     rw [List.getElem?_drop] at hj
     rcases Nat.eq_zero_or_pos j with h0 | h0
     ·rw [h0,Nat.add_zero,hv] at hj;cases hj;simpa using hn
     ·have:=hr.lt (show i<i+j by omega) hv hj
      simp;omega
    have h3:=List.countP_le_length (p:=fun x:Ver=>decide (x.epoch<=e)) (l:=vs.take i)
    rw [List.length_take] at h3
    omega
   omega
  ·by_cases hl:i+1=vs.length
   ·exact .inl hl
   ·obtain ⟨u,hu⟩:∃ u,vs[i+1]?=some u:=⟨_,List.getElem?_eq_getElem (by omega)⟩
    refine .inr ⟨u,hu,Classical.byContradiction fun hn=>?_⟩
    have hge:i+2<=vs.countP (fun x=>decide (x.epoch<=e)):=by
     have h1:vs.countP (fun x=>decide (x.epoch<=e))=(vs.take (i+2)).countP (fun x=>decide (x.epoch<=e))+(vs.drop (i+2)).countP (fun x=>decide (x.epoch<=e)):=by
      rw [← List.countP_append,List.take_append_drop]
     have h2:(vs.take (i+2)).countP (fun x=>decide (x.epoch<=e))=(vs.take (i+2)).length:=by
      rw [List.countP_eq_length]
      intro w hw
      obtain ⟨j,hj⟩:=List.mem_iff_getElem?.1 hw
      have hji:j<i+2:=by
       have:=(List.getElem?_eq_some_iff.1 hj).1
       rw [List.length_take] at this;omega
      rw [List.getElem?_take_of_lt hji] at hj
      by_cases hj1:j=i+1
      ·rw [hj1,hu] at hj;cases hj;simp;omega
      ·have:=hr.lt (show j<i+1 by omega) hj hu
       simp;omega
     rw [List.length_take] at h2
     omega
    omega
 ·rintro ⟨h1,h2⟩
  refine C.tz _ vs (i+1) (by omega) (fun t w ht hw=>?_) fun t w ht hw=>?_
  ·by_cases hti:t=i
   ·rw [hti,hv] at hw;cases hw;exact decide_eq_true h1
   ·have:=hr.lt (show t<i by omega) hw hv
    exact decide_eq_true (by omega)
  ·have htl:=(List.getElem?_eq_some_iff.1 hw).1
   rcases h2 with h2 | ⟨u,hu,h3⟩
   ·omega
   ·by_cases hti:t=i+1
    ·rw [hti,hu] at hw;cases hw;exact decide_eq_false (by omega)
    ·have:=hr.lt (show i+1<t by omega) hu hw
     exact decide_eq_false (by omega)
def qk (vs:List Ver) (E:List Int) (i:Nat):Prop:=i+1=vs.length∨∃ e∈E,∃ v,vs[i]?=some v∧v.epoch<=e∧(i+1=vs.length∨∃ u,vs[i+1]?=some u∧u.epoch > e)
theorem BZ {vs:List Ver}(hr:C.jH vs){i:Nat}(hi:i<vs.length) (E:List Int):(C.im vs E)[i]?=some true↔qk vs E i:=by
 rw [AO vs hi]
 obtain ⟨v,hv⟩:∃ v,vs[i]?=some v:=⟨_,List.getElem?_eq_getElem hi⟩
 unfold qk
 constructor
 ·rintro (h | ⟨e,he,hc⟩)
  ·exact .inl h
  ·have:=(xa hr hv e).1 hc
   exact .inr ⟨e,he,v,hv,this⟩
 ·rintro (h | ⟨e,he,w,hw,hc⟩)
  ·exact .inl h
  ·rw [hv] at hw;cases hw
   exact .inr ⟨e,he,(xa hr hv e).2 hc⟩
theorem B0 {vs:List Ver}(hr:C.jH vs){E:List Int}{B:List Bool}(hB:B.length=vs.length) (h:∀ (i:Nat) b,B[i]?=some b->(b=true↔qk vs E i)):B=C.im vs E:=by
 have hl:(C.im vs E).length=vs.length:=by unfold C.im;rw [C.nP];simp
 apply List.ext_getElem?
 intro i
 by_cases hi:i<vs.length
 ·obtain ⟨b,hb⟩:∃ b,B[i]?=some b:=⟨_,List.getElem?_eq_getElem (by omega)⟩
  obtain ⟨b2,hb2⟩:∃ b,(C.im vs E)[i]?=some b:=⟨_,List.getElem?_eq_getElem (by omega)⟩
  have h1:=h i b hb
  have h2:=BZ hr hi E
  rw [hb2] at h2
  rw [hb,hb2]
  have h2:b2=true↔qk vs E i:=by rw [← h2];simp
  have:b=true↔b2=true:=h1.trans h2.symm
  cases b <;> cases b2 <;> simp_all
 ·rw [List.getElem?_eq_none (by omega),List.getElem?_eq_none (by omega)]
theorem CP {h:H}{s:Sl}{A:List Bool}(rd:bS h s 1 (A.flatMap cB)){i:Nat}{x:Bool}(hx:A[i]?=some x){K:Bool->Prop}(k:K x):bD s (i:Int) 1 fun a=>ldB h a K:=by
 obtain ⟨p,p1,p2,p3⟩:=gw kH (by omega) rd hx
 have hl:=cz kH (by omega) rd
 exact dK (i:=i) p1 (by have:=(List.getElem?_eq_some_iff.1 hx).1;omega) rfl (hQ p3.one k)
theorem yx {h:H}{s hd:Sl}{vs:List Ver}{E:List Int}{Q:Sl->H->Prop}(w:aU h s tV7 6 (vs.flatMap fV)) (hr:C.jH vs) (hv:vs.length<=1048576) (rd:bS h hd 1 (E.flatMap cI)) (hE:E.length<=1000000)
  (k:∀ r h',aU h' r tV7 6 ((C.bF vs E).flatMap fV)->dL h r->Ext h h'->Q r h'):F.xaa s hd h Q:=by
 have hl:=bH gc (by omega) w
 have hel:=cz fZ (by omega) rd
 unfold F.xaa
 rw [hl]
 refine nF sd (by omega) (by simp only [maxLen];omega) fun nb h1 hnb w1 e1=>?_
 have wB0:aU h1 ⟨some ⟨nb,0,none⟩,vs.length,vs.length⟩ 4 1 ((List.replicate vs.length false).flatMap cB):=by
  rw [jx cB false (.bool false) rfl,← uR]
  rw [Nat.mul_one] at w1
  exact w1
 have nbh:h.size<=nb:=by omega
 generalize hbs:(⟨some ⟨nb,0,none⟩,vs.length,vs.length⟩:Sl)=bs at wB0 ⊢
 have hbb:∀ x,bs.blk=some x->h.size<=x:=fun x hx=>by rw [← hbs] at hx;simp [Sl.blk] at hx;omega
 have step:∀ {hh h':H},Ext h hh->bI (fun b=>bs.blk=some b) hh h'->Ext h h':=fun e o=>e.step o fun x hx hb=>by have:=hbb x hb;omega
 -- out of what stays
 have l5:∀ (hh0:H) (B:List Bool),B=C.im vs E->Ext h hh0->aU hh0 bs 4 1 (B.flatMap cB)->∃ m,F.xaa.l5 Q m s bs (⟨none,0,0⟩:Sl) 0 hh0:=fun hh0 B hB e0 wB0=>by
  have hBl:B.length=vs.length:=by rw [hB];unfold C.im;rw [C.nP];simp
  have hfin:C.bF vs E=C.mK (C.du vs B):=by rw [hB];rfl
  have loop:∀ (n i:Nat) (o:Sl) (hh:H),i<=vs.length->vs.length-i<n->Ext h hh->aU hh bs 4 1 (B.flatMap cB)->aU hh o tV7 6 ((C.du (vs.take i) (B.take i)).flatMap fV)->dL h o->(∀ x,o.blk=some x->bs.blk≠some x)->F.xaa.l5 Q n s bs o (i:Int) hh:=by
   intro n
   induction n with
   | zero=>intro i _ _ _ hm;omega
   | succ n ih =>
    intro i o hh hi hm e wB wo mo hob
    unfold F.xaa.l5
    rw [hl]
    refine ⟨fun g=>?_,fun g=>?_⟩
    ·have g:=of_decide_eq_true g
     obtain ⟨v,hv'⟩:∃ v,vs[i]?=some v:=⟨_,List.getElem?_eq_getElem (by omega)⟩
     obtain ⟨b,hb⟩:∃ b,B[i]?=some b:=⟨_,List.getElem?_eq_getElem (by omega)⟩
     have hkt:=C.sA hBl hv' hb
     have hkl:(C.du (vs.take i) (B.take i)).length<=vs.length:=Nat.le_trans (C.nC _ _) (by rw [List.length_take];omega)
     refine CP wB.reads hb ⟨fun g2=>?_,fun g2=>?_⟩
     ·subst g2
      refine lg (w.ext e).reads hv' fun a _ _ _ call=>⟨rV v,call,?_⟩
      refine eA (x:=v) (h0:=h) e mo gc (by omega) fh wo vX (by omega) fun r h43 w43 e43 m43 o43 q43=>?_
      unfold F.xaa.j6
      rw [fM (by omega)]
      refine ih (i+1) r h43 (by omega) (by omega) e43 (wB.only o43 fun x hx hb'=>hob x hb' hx) ?_ m43 fun x hx hbx=>?_
      ·rw [hkt];exact w43
      ·rcases q43 with q | ⟨b',q,q2⟩
       ·exact hob x (by rw [← q];exact hx) hbx
       ·rw [q] at hx;cases hx
        have:=wB.blk_lt hbx;omega
     ·subst g2
      unfold F.xaa.j6
      rw [fM (by omega)]
      refine ih (i+1) o hh (by omega) (by omega) e wB ?_ mo hob
      rw [hkt];simpa using wo
    ·have g:=of_decide_eq_false g
     have hil:i=vs.length:=by omega
     rw [hil,List.take_length,show vs.length=B.length from hBl.symm,List.take_length] at wo
     have hol:=bH gc (by omega) wo
     have hkl:=C.nC vs B
     have endN:C.mK (C.du vs B)=[]->F.xaa.j8 Q o true hh:=fun h0=>by
      unfold F.xaa.j8
      refine ⟨fun _=>k _ hh ?_ (dL.nil _ _ _) e,fun g=>by cases g⟩
      rw [hfin,h0];exact aU.nil _ _ _
     have endO:C.mK (C.du vs B)=C.du vs B->F.xaa.j8 Q o false hh:=fun h0=>by
      unfold F.xaa.j8 F.xaa.j7
      refine ⟨fun g=>(by cases g),fun _=>k o hh ?_ mo e⟩
      rw [hfin,h0];exact wo
     rw [hol]
     refine ⟨fun g2=>?_,fun g2=>?_⟩
     ·have g2:((C.du vs B).length:Int)=1:=eq_of_beq g2
      obtain ⟨y,hy⟩:=List.length_eq_one_iff.1 (show (C.du vs B).length=1 by omega)
      refine lg (i:=0) (v:=y) wo.reads (by rw [hy];rfl) fun a _ _ c5 _=>hQ c5 ?_
      cases hyd:y.dead with
      | true=>exact endN (by rw [hy];show (if y.dead=true then [] else [y])=[];rw [if_pos hyd])
      | false=>exact endO (by rw [hy];show (if y.dead=true then [] else [y])=[y];rw [if_neg (by rw [hyd];decide)])
     ·have g2:((C.du vs B).length:Int)≠1:=by simpa using g2
      refine endO ?_
      unfold C.mK
      split
      ·rename_i y hy;rw [hy] at g2;simp at g2
      ·rfl
  exact ⟨vs.length+1,loop _ 0 _ hh0 (by omega) (by omega) e0 wB0 (by simpa [C.du] using aU.nil hh0 tV7 6) (dL.nil _ _ _) fun x hx=>by simp [Sl.blk] at hx⟩
 have outer:∀ (n i:Nat) (B:List Bool) (hh:H),i<=vs.length->vs.length-i<n->Ext h hh->aU hh bs 4 1 (B.flatMap cB)->B.length=vs.length->(∀ (j:Nat) b,j<i->B[j]?=some b->(b=true↔qk vs E j))->F.xaa.l1 Q n s hd bs (i:Int) hh:=by
  intro n
  induction n with
  | zero=>intro i _ _ _ hm;omega
  | succ n ih =>
   intro i B hh hi hm e wB hBl hst
   unfold F.xaa.l1
   rw [hl]
   refine ⟨fun g=>?_,fun g=>?_⟩
   ·have g:=of_decide_eq_true g
    obtain ⟨v,hv'⟩:∃ v,vs[i]?=some v:=⟨_,List.getElem?_eq_getElem (by omega)⟩
    rw [w64 (n:=(vs.length:Int)-1) (by omega) (by omega)]
    refine mN (f:=cB) (D:=B) (i:=i) (x:=((i:Int) == (vs.length:Int)-1)) kH (by omega) wB (by omega) fun h6 w6 o6=>⟨E.length+1,?_⟩
    have e6:=step e o6
    have inner:∀ (n2 q:Nat) (B2:List Bool) (h2:H),q<=E.length->E.length-q<n2->Ext h h2->aU h2 bs 4 1 (B2.flatMap cB)->B2.length=vs.length->(∀ (j:Nat) b,j<i->B2[j]?=some b->(b=true↔qk vs E j))->(∀ b,B2[i]?=some b->(b=true↔qk vs (E.take q) i))->F.xaa.l2 Q (F.xaa.l1 Q n) n2 s hd bs (i:Int) (q:Int) h2:=by
     intro n2
     induction n2 with
     | zero=>intro q _ _ _ hm;omega
     | succ n2 ih2 =>
      intro q B2 h2 hq hm2 e2 w2 hB2 hs1 hs2
      unfold F.xaa.l2
      rw [hel]
      refine ⟨fun g2=>?_,fun g2=>?_⟩
      ·have g2:=of_decide_eq_true g2
       obtain ⟨x,hx⟩:∃ x,E[q]?=some x:=⟨_,List.getElem?_eq_getElem (by omega)⟩
       have rd2:=rd.ext e2
       have ws2:=w.ext e2
       have hq1:q+1<=E.length∧E.length-(q+1)<n2∧q<9000000000000000000∧i<B2.length:=by omega
       -- it is looked at
       have nx:∀ (bb:Bool),(bb=true↔x>=v.epoch∧(i+1=vs.length∨∃ u,vs[i+1]?=some u∧u.epoch > x))->F.xaa.j4 Q (F.xaa.l1 Q n) (F.xaa.l2 Q (F.xaa.l1 Q n) n2) s hd bs (i:Int) (q:Int) bb h2:=fun bb hbb=>by
        have hstay:qk vs (E.take (q+1)) i↔qk vs (E.take q) i∨bb=true:=by
         rw [hbb,ed hx]
         unfold qk
         constructor
         ·rintro (h | ⟨y,hy,u,hu,h3,h4⟩)
          ·exact .inl (.inl h)
          ·rw [List.mem_append,List.mem_singleton] at hy
           rcases hy with hy | hy
           ·exact .inl (.inr ⟨y,hy,u,hu,h3,h4⟩)
           ·subst hy
            rw [hv'] at hu;cases hu
            exact .inr ⟨h3,h4⟩
         ·rintro ((h | ⟨y,hy,h3⟩) | ⟨h3,h4⟩)
          ·exact .inl h
          ·exact .inr ⟨y,List.mem_append.2 (.inl hy),h3⟩
          ·exact .inr ⟨x,by simp,v,hv',h3,h4⟩
        unfold F.xaa.j4 F.xaa.j3
        refine ⟨fun gb=>?_,fun gb=>?_⟩
        ·refine mN (f:=cB) (D:=B2) (i:=i) (x:=true) kH (by decide) w2 hq1.2.2.2 fun h11 w11 o11=>?_
         rw [fM hq1.2.2.1]
         refine ih2 (q+1) _ h11 hq1.1 hq1.2.1 (step e2 o11) w11 (by rw [List.length_set];exact hB2) (fun j b hj hb=>?_) fun b hb=>?_
         ·rw [List.getElem?_set_ne (Nat.ne_of_gt hj)] at hb
          exact hs1 j b hj hb
         ·rw [List.getElem?_set_self hq1.2.2.2] at hb
          cases hb
          exact ⟨fun _=>hstay.2 (.inr gb),fun _=>rfl⟩
        ·rw [fM hq1.2.2.1]
         refine ih2 (q+1) B2 h2 hq1.1 hq1.2.1 e2 w2 hB2 hs1 fun b hb=>?_
         rw [hs2 b hb,hstay]
         exact ⟨.inl,fun h=>h.elim id fun h=>by rw [gb] at h;cases h⟩
       refine lg ws2.reads hv' fun a c0 _ _ _=>aW c0 (uM rd2 hx ⟨fun g3=>?_,fun g3=>?_⟩)
       ·have g3:=of_decide_eq_true g3
        rw [hl,w64 (n:=(vs.length:Int)-1) (by omega) (by omega)]
        refine ⟨fun g4=>nx true ⟨fun _=>⟨g3,.inl ?_⟩,fun _=>rfl⟩,fun g4=>?_⟩
        ·have:(i:Int)=(vs.length:Int)-1:=eq_of_beq g4
         omega
        ·have g4:(i:Int)≠(vs.length:Int)-1:=by simpa using g4
         obtain ⟨u,hu⟩:∃ u,vs[i+1]?=some u:=⟨_,List.getElem?_eq_getElem (by omega)⟩
         rw [fM (by omega)]
         refine lg ws2.reads hu fun a2 c02 _ _ _=>aW c02 (uM rd2 hx (nx _ ?_))
         rw [decide_eq_true_iff]
         constructor
         ·intro h;exact ⟨g3,.inr ⟨u,hu,h⟩⟩
         ·rintro ⟨_,h | ⟨u',hu',h⟩⟩
          ·omega
          ·rw [hu] at hu';cases hu';exact h
       ·have g3:=of_decide_eq_false g3
        exact nx false ⟨fun h=>(by cases h),fun h=>absurd h.1 (by omega)⟩
      ·have g2:=of_decide_eq_false g2
       have hqe:q=E.length:=by omega
       rw [hqe,List.take_length] at hs2
       rw [fM (by omega)]
       refine ih (i+1) B2 h2 (by omega) (by omega) e2 w2 hB2 fun j b hj hb=>?_
       by_cases hji:j=i
       ·rw [hji] at hb ⊢;exact hs2 b hb
       ·exact hs1 j b (by omega) hb
    refine inner _ 0 _ h6 (by omega) (by omega) e6 w6 (by rw [List.length_set];exact hBl) (fun j b hj hb=>?_) fun b hb=>?_
    ·rw [List.getElem?_set_ne (by omega)] at hb
     exact hst j b hj hb
    ·rw [List.getElem?_set_self (by omega)] at hb
     cases hb
     unfold qk
     simp only [List.take_zero,List.not_mem_nil,false_and,exists_false,or_false,beq_iff_eq]
     omega
   ·have g:=of_decide_eq_false g
    have hil:i=vs.length:=by omega
    refine l5 hh B (B0 hr hBl fun j b hb=>hst j b ?_ hb) e wB
    have:=(List.getElem?_eq_some_iff.1 hb).1
    omega
 exact ⟨vs.length+1,outer _ 0 _ h1 (by omega) (by omega) e1 wB0 (by simp) fun j b hj=>by omega⟩
section
variable {h:H}{d:Nat}{Z:List DR}{slots:Nat}{x:Sl}
theorem ut {hd:Sl}{E:List Int}{Q:Int->H->Prop}(z:DZ h d Z slots x) (hok:SOk (toD Z)) (hu:aR (toD Z)<=slots) (hsl:slots<=1048576) (rd:bS h hd 1 (E.flatMap cI)) (hE:E.length<=1000000)
  (k:∀ h',DH h' d (dp (toD Z) E) slots->bI (·=d) h h'->Q ((aR (toD Z):Int)-aR (dp (toD Z) E)) h'):F.xbl (some ⟨d,0,none⟩) hd h Q:=by
 have hZ:Z.length<=1048576:=by have:=gM hok;rw [jS] at this;omega
 have hd0:d<h.size:=dx z.sb
 have hl:=bH gE (by omega) z.row
 unfold F.xbl
 refine iL z hZ (by omega) ⟨Z.length+1,?_⟩
 have loop:∀ (n i:Nat) (o:Sl) (W:List DR) (hh:H),i<=Z.length->Z.length-i<n->Ext h hh->toD W=dp (toD (Z.take i)) E->W.length<=i->aU hh o tH7 4 (W.flatMap hR)->dL h o->(∀ r∈W,aU hh r.s tV7 6 (r.vs.flatMap fV)) ->
   F.xbl.l1 Q n (some ⟨d,0,none⟩) hd ((aR (toD Z):Nat):Int) o (i:Int) hh:=by
  intro n
  induction n with
  | zero=>intro i _ _ _ _ hm;omega
  | succ n ih =>
   intro i o W hh hi hm e hW hWl wo mo hws
   have zz:=z.ext e
   unfold F.xbl.l1
   simp only [aZ,aC,Nat.zero_add]
   rw [bj zz.cs1,hl]
   refine ⟨fun g=>?_,fun g=>?_⟩
   ·have g:=of_decide_eq_true g
    obtain ⟨r,hr⟩:∃ r,Z[i]?=some r:=⟨_,List.getElem?_eq_getElem (by omega)⟩
    have hrz:=List.mem_of_getElem? hr
    have hvo:=(hok.ok (r.c,r.vs) (List.mem_map.2 ⟨r,hrz,rfl⟩)).2
    have hsn:dp (toD (Z.take (i+1))) E=dp (toD (Z.take i)) E ++ (if C.bF r.vs E=[] then [] else [(r.c,C.bF r.vs E)]):=by rw [kD hr,u3]
    rw [bj zz.cs1]
    refine i5 zz.row.reads hr fun a _ c3=>dJ c3 (yx (zz.vs r hrz) hvo.rise (DZ.vlen (by omega) hrz) (rd.ext e) hE fun s h16 w16 m16 e16=>?_)
    have hsl16:=bH gc (by omega) w16
    have e016:=e.trans e16
    have z16:=z.ext e016
    rw [hsl16]
    unfold F.xbl.j2
    refine ⟨fun g2=>?_,fun g2=>?_⟩
    ·have g2:=of_decide_eq_true g2
     have hne:C.bF r.vs E≠[]:=fun e=>by rw [e] at g2;simp at g2
     rw [if_neg hne] at hsn
     rw [bj z16.cs1]
     refine i5 z16.row.reads hr fun a2 ca2 _=>⟨r.c,ca2,?_⟩
     refine eA (x:=(⟨r.c,C.bF r.vs E,s⟩:DR)) (h0:=h) e016 mo gE (by omega) eN (wo.ext e16) tJ (by omega) fun r2 h29 w29 e29 m29 o29 _=>?_
     rw [fM (by omega)]
     refine ih (i+1) r2 (W ++ [⟨r.c,C.bF r.vs E,s⟩]) h29 (by omega) (by omega) e29 ?_ (by simp;omega) w29 m29 fun q hq=>?_
     ·rw [hsn,← hW];unfold toD;rw [List.map_append];rfl
     ·have tyd:∀ {t:Sl}{cs:List Value},aU h16 t tV7 6 cs->aU h29 t tV7 6 cs:=fun {t cs} wt=>wt.only o29 fun b hb hob=>by
       obtain ⟨c1,q1⟩:=ie wt hb
       exact nK (wo.ext e16) q1 (by decide) hob
      rcases List.mem_append.1 hq with hq | hq
      ·exact tyd ((hws q hq).ext e16)
      ·rw [List.mem_singleton.1 hq];exact tyd w16
    ·have g2:=of_decide_eq_false g2
     have he:C.bF r.vs E=[]:=List.eq_nil_of_length_eq_zero (by omega)
     rw [if_pos he,List.append_nil] at hsn
     rw [fM (by omega)]
     exact ih (i+1) o W h16 (by omega) (by omega) e016 (by rw [hsn];exact hW) (by omega) (wo.ext e16) mo fun q hq=>(hws q hq).ext e16
   ·have g:=of_decide_eq_false g
    have hil:i=Z.length:=by omega
    rw [hil,List.take_length] at hW
    have hne:o.blk≠some d:=fun e=>by have:=mo d e;omega
    refine cC zz.sb (by simp) fun h' b' o' s'=>?_
    have hpl:=nN hok E
    have z':DZ h' d W slots o:=⟨b',wo.only o' fun b hb e=>hne (by rw [hb,e]),fun r hr=>(hws r hr).only o' fun b hb e=>by
     subst e
     exact nK (hws r hr) zz.sb (by decide) hb⟩
    have hWl':W.length<=1048576:=by omega
    refine iL z' hWl' (by rw [hW];omega) ?_
    rw [hW,w64 (by omega) (by omega)]
    exact k h' ⟨o,W,hW,z'⟩ ((e.only (S:=(·=d))).trans o' fun _ _ e=>e)
 exact loop _ 0 _ [] h (by omega) (by omega) (.refl _) rfl (Nat.le_refl _) (aU.nil _ _ _) (dL.nil _ _ _) fun r hr=>by cases hr
end
theorem wk (S:SL) (e:Int) (A:List Cel) (c:Cel):(c∈A->fY S e (A ++ [c])=fY S e A)∧(c∉A->fY S e (A ++ [c])=fY S e A+fc S e c):=by
 refine ⟨fun h=>uW fun x=>?_,fun h=>?_⟩
 ·rw [List.mem_append,List.mem_singleton]
  exact ⟨fun g=>g.elim id fun g=>by rw [g];exact h,.inl⟩
 ·rw [← qO (D:=ddL A ++ [c]) (L:=A ++ [c]) (List.nodup_append.2 ⟨kd A,by simp,fun a ha b hb e=>h (by rw [List.mem_singleton] at hb;rw [← hb,← e];exact mC.1 ha)⟩) fun x=>by rw [List.mem_append,List.mem_append,mC],qN]
  rfl
theorem Ao {S:SL}{e:Int}{c:Cel}(h:okC c≠0):fc S e c=0:=by unfold fc;rw [if_pos h]
theorem Aq {S:SL}{e:Int}{c:Cel}(he:0<=e) (h:(C.bT ((cx S c).getD [])).2.1 > e):fc S e c=0:=by
 unfold fc
 split
 ·rfl
 ·unfold pm
  cases hg:cx S c with
  | none =>
   rw [hg] at h
   have:(0:Int) > e:=h
   omega
  | some vs =>
   rw [hg] at h
   have h:(C.bT vs).2.1 > e:=h
   simp only
   rw [if_pos h]
theorem vW {α:Type}:∀ M:List α,(ddL M).length<=M.length
 | []=>Nat.le_refl _
 | x :: r=>by
  have:=vW r
  unfold ddL;split <;> simp <;> omega
section
variable {h:H}{d:Nat}{Z:List DR}{slots:Nat}{x:Sl}
theorem vD {e:Int}{s:Sl}{L:List Cel}{Q:Int->H->Prop}(z:DZ h d Z slots x) (hok:SOk (toD Z)) (hu:aR (toD Z)<=slots) (hsl:slots<=1048576) (he:0<=e) (rd:bS h s 3 (L.flatMap ae.cells)) (hL:L.length<=1000000)
  (k:∀ h',Ext h h'->Q (fY (toD Z) e L) h'):F.xae (some ⟨d,0,none⟩) e s h Q:=by
 have hZ:Z.length<=1048576:=by have:=gM hok;rw [jS] at this;omega
 have hl:=cz dr (by omega) rd
 unfold F.xae
 refine ⟨L.length+1,?_⟩
 have loop:∀ (n i:Nat) (hh:H),i<=L.length->L.length-i<n->Ext h hh->F.xae.l1 Q n (some ⟨d,0,none⟩) e s (fY (toD Z) e (L.take i)) (i:Int) hh:=by
  intro n
  induction n with
  | zero=>intro i _ _ hm;omega
  | succ n ih =>
   intro i hh hi hm ex
   unfold F.xae.l1
   rw [hl]
   refine ⟨fun g=>?_,fun g=>?_⟩
   ·have g:=of_decide_eq_true g
    obtain ⟨c,hc⟩:∃ c,L[i]?=some c:=⟨_,List.getElem?_eq_getElem (by omega)⟩
    refine gP (rd.ext ex) hc fun a ca=>⟨c,ca,aN fun m h6 hm6 b6 e6 s6=>?_⟩
    have b6':Blk h6 m fO.cells.toArray aJ:=b6
    refine ri b6' (d:=c) fun h8 b8 o8 s8=>⟨c,Blk.cells b8,my fun h11 e11=>⟨i+1,?_⟩⟩
    have e8:Ext hh h8:=e6.step o8 fun y hy hb=>by omega
    have b11:Blk h11 m c.cells.toArray aJ:=e11.block b8 fun f=>f
    have e011:=ex.trans (e8.trans e11)
    have z11:=z.ext e011
    have hsn:=wk (toD Z) e (L.take i) c
    rw [← ed hc] at hsn
    have hr1:=iR (toD Z) e (ddL (L.take i))
    have hdl:=vW (L.take i)
    rw [List.length_take] at hdl
    have hnT:fY (toD Z) e (L.take i)=hT (toD Z) e (ddL (L.take i)):=rfl
    have hn2:=tR (toD Z) e c
    have next:∀ (v:Int) (h':H),v=fY (toD Z) e (L.take (i+1))->Ext h11 h'->F.xae.j2 Q (F.xae.l1 Q n) (some ⟨d,0,none⟩) e s v (i:Int) h':=fun v h' hv e'=>by
     unfold F.xae.j2
     rw [fM (by omega),hv]
     exact ih (i+1) h' (by omega) (by omega) (e011.trans e')
    have inner:∀ (n2 q:Nat) (bb:Bool),q<=i->i-q<n2->(bb=true↔okC c≠0∨c∈L.take q)->F.xae.l3 Q (F.xae.l1 Q n) n2 (some ⟨d,0,none⟩) e s (fY (toD Z) e (L.take i)) (i:Int) ⟨m,0,none⟩ bb (q:Int) h11:=by
     intro n2
     induction n2 with
     | zero=>intro q _ _ hm;omega
     | succ n2 ih2 =>
      intro q bb hq hm2 hbb
      unfold F.xae.l3
      refine ⟨fun g2=>?_,fun g2=>?_⟩
      ·have g2:=of_decide_eq_true g2
       obtain ⟨u,hu'⟩:∃ u,L[q]?=some u:=⟨_,List.getElem?_eq_getElem (by omega)⟩
       have hn1:q+1<=i∧i-(q+1)<n2∧q<9000000000000000000:=by omega
       unfold F.xae.j4
       refine ⟨fun g3=>?_,fun g3=>gP (rd.ext e011) hu' fun a1 c1=>⟨u,c1,c,Blk.cells b11,?_⟩⟩
       ·rw [fM hn1.2.2]
        refine ih2 (q+1) true hn1.1 hn1.2.1 ⟨fun _=>?_,fun _=>rfl⟩
        rw [ed hu',List.mem_append]
        exact (hbb.1 g3).imp id .inl
       ·rw [fM hn1.2.2]
        refine ih2 (q+1) _ hn1.1 hn1.2.1 ?_
        rw [kI,ed hu',List.mem_append,List.mem_singleton]
        constructor
        ·intro e;exact .inr (.inr e.symm)
        ·rintro (e | e | e)
         ·rw [hbb.2 (.inl e)] at g3;cases g3
         ·rw [hbb.2 (.inr e)] at g3;cases g3
         ·exact e.symm
      ·have g2:=of_decide_eq_false g2
       have hqi:q=i:=by omega
       subst hqi
       have hgl:=pS (S:=toD Z) (by omega) c
       refine ⟨c,Blk.cells b11,jW z11 (kB hok.sort) hZ fun r h23 w23 e23=>⟨fun g3=>?_,fun g3=>lL w23 (by omega) ?_⟩⟩
       ·unfold F.xae.j6
        refine ⟨fun _=>next _ h23 ?_ e23,fun g=>by cases g⟩
        by_cases hm:c∈L.take q
        ·rw [hsn.1 hm]
        ·rw [hsn.2 hm,Ao ((hbb.1 g3).resolve_right hm)];omega
       ·have hno:¬ (okC c≠0∨c∈L.take q):=fun h=>by rw [hbb.2 h] at g3;cases g3
        have hok0:okC c=0:=Classical.not_not.1 fun h=>hno (.inl h)
        have hnm:c∉L.take q:=fun h=>hno (.inr h)
        have hsn2:=hsn.2 hnm
        unfold F.xae.j6
        refine ⟨fun g4=>next _ h23 ?_ e23,fun g4=>?_⟩
        ·have g4:=of_decide_eq_true g4
         rw [hsn2,Aq he g4];omega
        ·have g4:=of_decide_eq_false g4
         have hnu:=qP hok (a:=zA) hok0 g4
         have hll:=tL ((cx (toD Z) c).getD []) ⟨e,zA,false⟩
         have hlr:=kT ((cx (toD Z) c).getD []) ⟨e,zA,false⟩
         unfold F.xae.j5
         refine oZ (v:=⟨e,zA,false⟩) w23 hgl.1 fun r25 h25 w25 m25 e25=>iZ w25 (by omega) (iZ (w23.ext e25) (by omega) ?_)
         refine next _ h25 ?_ (e23.trans e25)
         have hub:dl (C.fH ((cx (toD Z) c).getD []) ⟨e,zA,false⟩)<=1048579:=by unfold dl;split <;> omega
         rw [w64 (n:=fY (toD Z) e (L.take q)+((dl (C.fH ((cx (toD Z) c).getD []) ⟨e,zA,false⟩):Nat):Int)) (by omega) (by omega),w64 (by omega) (by omega),hsn2]
         omega
    refine inner _ 0 _ (by omega) (by omega) ?_
    simp
   ·have g:=of_decide_eq_false g
    have:i=L.length:=by omega
    subst this
    rw [List.take_length];exact k hh ex
 have:=loop (L.length+1) 0 h (by omega) (by omega) (.refl _)
 rw [List.take_zero,yE] at this
 exact this
theorem vw {e:Int}{s:Sl}{L:List Cel}{Q:Bool->H->Prop}(z:DZ h d Z slots x) (hok:SOk (toD Z)) (hu:aR (toD Z)<=slots) (hsl:slots<=1048576) (he:0<=e) (rd:bS h s 3 (L.flatMap ae.cells)) (hL:L.length<=1000000)
  (k:∀ h',Ext h h'->Q (decide ((aR (toD Z):Int)+fY (toD Z) e L<=slots)) h'):F.xfg (some ⟨d,0,none⟩) e s h Q:=by
 have hZ:Z.length<=1048576:=by have:=gM hok;rw [jS] at this;omega
 unfold F.xfg
 simp only [aZ,aC,Nat.zero_add,Nat.add_zero]
 rw [bA z.cs0]
 refine iL z hZ (by omega) ⟨z.cs0,vD z hok hu hsl he rd hL fun h8 e8=>⟨(z.ext e8).cs0,?_⟩⟩
 have hr1:=iR (toD Z) e (ddL L)
 have hdl:=vW L
 have hnT:fY (toD Z) e L=hT (toD Z) e (ddL L):=rfl
 rw [w64 (by omega) (by omega)]
 exact k h8 e8
theorem u9 {i:Nat}{r:DR}(hr:Z[i]?=some r) (e:Int) (fr to:Cel):cy (toD (Z.take (i+1))) e fr to=cy (toD (Z.take i)) e fr to ++ (if inS e fr to (r.c,r.vs) then [wE e (r.c,r.vs)] else []):=by
 rw [kD hr]
 unfold cy
 rw [List.filter_append,List.map_append]
 congr 1
 cases hi:inS e fr to (r.c,r.vs) <;> simp [hi]
theorem wA (Z:List DR) (e:Int) (fr to:Cel) (i:Nat):∃ t,cy (toD (Z.take i)) e fr to ++ t=cy (toD Z) e fr to:=by
 refine ⟨cy (toD (Z.drop i)) e fr to,?_⟩
 unfold cy toD
 rw [← List.map_append,← List.filter_append,← List.map_append,List.take_append_drop]
theorem wz (S:SL) (e:Int) (fr to:Cel):(cy S e fr to).length<=S.length:=by
 unfold cy
 rw [List.length_map]
 exact List.length_filter_le _ _
theorem pb {e most:Int}{fr to:Cel}{Q:Sl->H->Prop}(z:DZ h d Z slots x) (hok:SOk (toD Z)) (hu:aR (toD Z)<=slots) (hsl:slots<=1048576)
  (k:∀ r h',aU h' r bQ 7 (((cy (toD Z) e fr to).take most.toNat).flatMap cW)->dL h r->Ext h h'->Q r h'):F.xah (some ⟨d,0,none⟩) e fr to most h Q:=by
 have hZ:Z.length<=1048576:=by have:=gM hok;rw [jS] at this;omega
 have hl:=bH gE (by omega) z.row
 unfold F.xah
 refine aN fun m2 h1 hm2 b2 e1 s1=>aN fun m4 h3 hm4 b4 e3 s3=>⟨Z.length+1,?_⟩
 have e13:=e1.trans e3
 have b23:Blk h3 m2 fr.cells.toArray aJ:=e3.block b2 fun f=>f
 have b43:Blk h3 m4 to.cells.toArray aJ:=b4
 have loop:∀ (n i:Nat) (o:Sl) (hh:H),i<=Z.length->Z.length-i<n->Ext h3 hh->aU hh o bQ 7 ((cy (toD (Z.take i)) e fr to).flatMap cW)->dL h3 o->(cy (toD (Z.take i)) e fr to).length<=most.toNat->F.xah.l1 Q n (some ⟨d,0,none⟩) e most ⟨m2,0,none⟩ ⟨m4,0,none⟩ o (i:Int) hh:=by
  intro n
  induction n with
  | zero=>intro i _ _ _ hm;omega
  | succ n ih =>
   intro i o hh hi hm ex wo mo hmo
   have e0:=e13.trans ex
   have zz:=z.ext e0
   have hol:=bH dy (by omega) wo
   have hrl:=wz (toD (Z.take i)) e fr to
   rw [jS,List.length_take] at hrl
   have mh:dL h o:=mo.older e13
   unfold F.xah.l1
   simp only [aZ,aC,Nat.zero_add]
   rw [bj zz.cs1,hl,hol]
   have stop:((cy (toD (Z.take i)) e fr to).take most.toNat=(cy (toD Z) e fr to).take most.toNat)->∀ (C1:(Option Addr)->Int->Int->Addr->Addr->Sl->Int->H->Prop),F.xah.j5 Q C1 (some ⟨d,0,none⟩) e most ⟨m2,0,none⟩ ⟨m4,0,none⟩ o (i:Int) false hh:=fun hst C1=>by
    unfold F.xah.j5
    refine ⟨fun g=>(by cases g),fun _=>k o hh ?_ mh e0⟩
    rw [← hst,List.take_of_length_le hmo];exact wo
   refine ⟨fun g=>?_,fun g=>?_⟩
   ·have g:=of_decide_eq_true g
    by_cases hmost:((cy (toD (Z.take i)) e fr to).length:Int)<most
    ·rw [decide_eq_true hmost]
     obtain ⟨r,hr⟩:∃ r,Z[i]?=some r:=⟨_,List.getElem?_eq_getElem (by omega)⟩
     have hrz:=List.mem_of_getElem? hr
     have hvo:=(hok.ok (r.c,r.vs) (List.mem_map.2 ⟨r,hrz,rfl⟩)).2
     have hsn:=u9 hr e fr to
     unfold F.xah.j5 F.xah.j2
     refine ⟨fun _=>?_,fun g=>by cases g⟩
     simp only [aZ,aC,Nat.zero_add]
     rw [bj zz.cs1]
     refine i5 zz.row.reads hr fun a ca _=>⟨r.c,ca,aN fun p h13 hp b13 e13' s13=>?_⟩
     have b13':Blk h13 p fO.cells.toArray aJ:=b13
     refine ri b13' (d:=r.c) fun h15 b15 o15 s15=>?_
     have e15:Ext hh h15:=e13'.step o15 fun y hy hb=>by omega
     have z15:=zz.ext e15
     refine dJ z15.cs1 (i5 z15.row.reads hr fun a2 _ c32=>dJ c32 (uu (z15.vs r hrz) (DZ.vlen (by omega) hrz) hvo.dead fun h24 e24=>aN fun q h27 hq b27 e27 s27=>?_))
     have b27':Blk h27 q zA.cells.toArray cf:=b27
     refine C.eK (d:=(atV r.vs e).1) b27' fun h29 b29 o29 s29=>?_
     have e29:Ext h15 h29:=(e24.trans e27).step o29 fun y hy hb=>by have:=e24.size;omega
     have e0029:=e15.trans e29
     have bc:Blk h29 p r.c.cells.toArray aJ:=e29.block b15 fun f=>f
     have x29:=ex.trans e0029
     have bfr:Blk h29 m2 fr.cells.toArray aJ:=x29.block b23 fun f=>f
     have bto:Blk h29 m4 to.cells.toArray aJ:=x29.block b43 fun f=>f
     have wo29:=wo.ext e0029
     have j4:∀ (bb:Bool) (h':H),Ext h29 h'->bb=inS e fr to (r.c,r.vs)->F.xah.j4 Q (F.xah.l1 Q n) (some ⟨d,0,none⟩) e most ⟨m2,0,none⟩ ⟨m4,0,none⟩ o (i:Int) ⟨p,0,none⟩ ⟨q,0,none⟩ bb h':=fun bb h' e' hbb=>by
      unfold F.xah.j4 F.xah.j3
      have xx:=x29.trans e'
      refine ⟨fun gb=>?_,fun gb=>?_⟩
      ·have bc':Blk h' p r.c.cells.toArray aJ:=e'.block bc fun f=>f
       have ba':Blk h' q (atV r.vs e).1.cells.toArray cf:=e'.block b29 fun f=>f
       refine ⟨r.c,Blk.cells bc',(atV r.vs e).1,Blk.cells ba',?_⟩
       refine eA (x:=wE e (r.c,r.vs)) (h0:=h3) xx mo dy (by omega) fR (wo29.ext e') (fun x=>ei x) (by omega) fun r2 h37 w37 e37 m37 _ _=>?_
       rw [fM (by omega)]
       rw [← hbb,gb,if_pos rfl] at hsn
       refine ih (i+1) r2 h37 (by omega) (by omega) e37 (by rw [hsn];exact w37) m37 ?_
       rw [hsn,List.length_append,List.length_singleton];omega
      ·rw [← hbb,gb] at hsn
       simp only [Bool.false_eq_true,if_false,List.append_nil] at hsn
       rw [fM (by omega)]
       exact ih (i+1) o h' (by omega) (by omega) xx (by rw [hsn];exact wo29.ext e') mo (by rw [hsn];exact hmo)
     have hin:inS e fr to (r.c,r.vs)=((atV r.vs e).2 && (decide (bZ fr r.c<=0) && decide (bZ r.c to<0))):=rfl
     have hng:∀ {a b:Cel},(!decide (bZ a b=-1))=decide (bZ b a<=0):=fun {a b}=>by
      rw [← decide_not,decide_eq_decide]
      have:=dR a b;have:=cZ a b
      omega
     have hlt:∀ {a b:Cel},decide (bZ a b=-1)=decide (bZ a b<0):=fun {a b}=>by
      rw [decide_eq_decide]
      have:=cZ a b
      omega
     refine ⟨fun g2=>⟨r.c,Blk.cells bc,fr,Blk.cells bfr,io fun h44 e44=>⟨fun g3=>?_,fun g3=>j4 _ h44 e44 ?_⟩⟩,fun g2=>j4 _ h29 (.refl _) ?_⟩
     ·have bc44:Blk h44 p r.c.cells.toArray aJ:=e44.block bc fun f=>f
      have bto44:Blk h44 m4 to.cells.toArray aJ:=e44.block bto fun f=>f
      refine ⟨r.c,Blk.cells bc44,to,Blk.cells bto44,io fun h51 e51=>j4 _ h51 (e44.trans e51) ?_⟩
      rw [hng] at g3
      rw [hin,g2,g3,hlt,Bool.true_and,Bool.true_and]
     ·rw [hng] at g3
      rw [hin,g3,Bool.false_and,Bool.and_false]
     ·rw [hin,g2,Bool.false_and]
    ·rw [decide_eq_false hmost]
     refine stop ?_ _
     obtain ⟨t,ht⟩:=wA Z e fr to i
     rw [← ht,List.take_append_of_le_length (by omega)]
   ·have g:=of_decide_eq_false g
    have hil:i=Z.length:=by omega
    refine stop ?_ _
    rw [hil,List.take_length]
 exact loop _ 0 _ h3 (by omega) (by omega) (.refl _) (by simpa [cy,toD] using aU.nil h3 bQ 7) (dL.nil _ _ _) (by simp [cy,toD])
end
open Go Go.Proofs.YtjjchpaomgmmdaaGreat.V Go.Proofs.YtjjchpaomgmmdaaGreat.V.M
abbrev tSd:TypeId:=mq
abbrev tPd:TypeId:=mS
theorem D5:¬ ShE tSd:=by unfold ShE;decide
theorem D1:¬ ShE tPd:=by unfold ShE;decide
theorem D4:¬ ShE tS7:=by unfold ShE;decide
theorem zK {h:H}{b:Nat}{c:Array Value}{e:TypeId}(hb:Blk h b c e) (he:e≠tS7∧e≠tH7∧e≠tV7):¬ DTy h b:=fun ⟨e',c',he',hb'⟩=>by
 have:=hb.symm.trans hb'
 simp at this
 rcases he' with rfl | rfl | rfl
 ·exact he.1 this.2
 ·exact he.2.1 this.2
 ·exact he.2.2 this.2
theorem DH.other {h h':H}{d q:Nat}{S:SL}{slots:Nat}(z:DH h d S slots) (o:bI (·=q) h h'){c:Array Value}(hq:Blk h q c tS7) (hne:d≠q):DH h' d S slots:=by
 obtain ⟨x,Z,hZ,z⟩:=z
 exact ⟨x,Z,hZ,o.block z.sb hne,z.row.only o fun b hb e=>fz z.row hq (by decide) (by rw [hb,e]),fun r hr=>(z.vs r hr).only o fun b hb e=>fz (z.vs r hr) hq (by decide) (by rw [hb,e])⟩
structure DS (h:H) (d:Nat) (l:Sl) (ds:List Nat) (S:SL) (slots:Nat):Prop where
 sb:Blk h d #[l.enc] tSd
 own:aU h l tPd 1 (ds.flatMap cQ)
 sh:∀ k q,ds[k]?=some q->DH h q (bR ds.length k S) slots
 nd:∀ (j k:Nat) q,ds[j]?=some q->ds[k]?=some q->j=k
section
variable {h h':H}{d:Nat}{l:Sl}{ds:List Nat}{S:SL}{slots:Nat}
theorem DS.keep {P:Nat->Prop}(z:DS h d l ds S slots) (o:bI P h h') (hn:∀ b,DTy h b->¬ P b) (h1:¬ P d) (h2:∀ b,l.blk=some b->¬ P b):DS h' d l ds S slots:=
 ⟨o.block z.sb h1,z.own.only o fun b hb=>h2 b hb,fun k q hq=>(z.sh k q hq).keep o hn,z.nd⟩
theorem DS.ext (z:DS h d l ds S slots) (e:Ext h h'):DS h' d l ds S slots:=z.keep e (fun _ _ f=>f) (fun f=>f) fun _ _ f=>f
theorem DS.sonly {R:Nat->Prop}(z:DS h d l ds S slots) (o:cX R h h'):DS h' d l ds S slots:=z.keep o (fun b hb g=>Ds hb g.2) (fun g=>iw z.sb D5 g.2) fun b hb g=>xy z.own D1 hb g.2
theorem DS.blk (z:DS h d l ds S slots){m:Nat}{c:Array Value}{e:TypeId}(o:bI (·=m) h h') (b:Blk h m c e) (he:e≠tS7∧e≠tH7∧e≠tV7) (h1:e≠tSd) (h2:e≠tPd):DS h' d l ds S slots:=
 z.keep o (fun x hb g=>by subst g;exact zK b he hb) (fun g=>by
  subst g
  have:=z.sb.symm.trans b
  simp at this
  exact h1 this.2.symm) fun x hx g=>by
  subst g
  exact fz z.own b (fun e=>h2 e.symm) hx
theorem DS.len (z:DS h d l ds S slots):l.len=ds.length:=bH oh (by omega) z.own
theorem DS.ldl (z:DS h d l ds S slots){K:Sl->Prop}(k:K l):ldL h ⟨d,0,none⟩ K:=(bj (z.sb.cell (i:=0) rfl)).2 k
theorem DS.at (z:DS h d l ds S slots){i q:Nat}(hq:ds[i]?=some q){K:Option Addr->Prop}(k:K (some ⟨q,0,none⟩)):bD l (i:Int) 1 fun a=>ldP h a K:=by
 obtain ⟨r,r1,r2,r3⟩:=gw oh (by omega) z.own.reads hq
 have hl:=z.len
 refine dK (i:=i) r1 (by have:=(List.getElem?_eq_some_iff.1 hq).1;omega) rfl ?_
 rw [Nat.mul_one] at r3 ⊢
 exact Ad (by have:=r3 0 _ rfl;exact this) k
theorem DS.op (z:DS h d l ds S slots){i q:Nat}(hq:ds[i]?=some q){S':SL}(z':DH h' q (bR ds.length i S') slots) (o:bI (·=q) h h') (oth:∀ j,j<ds.length->j≠i->bR ds.length j S'=bR ds.length j S):DS h' d l ds S' slots:=by
 obtain ⟨c,hc⟩:=(z.sh i q hq).typ
 refine ⟨o.block z.sb fun e=>?_,z.own.only o fun b hb e=>fz z.own hc (by decide) (by rw [hb,e]),fun k q' hq'=>?_,z.nd⟩
 ·subst e
  have:=z.sb.symm.trans hc
  simp at this
  exact absurd this.2 (by decide)
 ·by_cases hk:k=i
  ·subst hk
   rw [hq] at hq';cases hq';exact z'
  ·rw [oth k (List.getElem?_eq_some_iff.1 hq').1 hk]
   exact (z.sh k q' hq').other o hc fun e=>hk (z.nd k i q (by rw [← e];exact hq') hq)
theorem vZ {key:ByteArray}{n:Nat}{Q:Int->H->Prop}(hl:key.size<=9223372036854775807) (k:Q (n:Int) h) :
  ∀ (m i:Nat) (x:Nat),i<=key.size->key.size-i<m->x<18446744073709551616->(key.data.toList.drop i).foldl pk x=n->F.xcw.l1 Q m key (x:Int) (i:Int) h:=by
 intro m
 induction m with
 | zero=>intro i x h1 h2;omega
 | succ m ih =>
  intro i x h1 h2 hlt hx
  unfold F.xcw.l1
  have hsz:=dC (s:=key)
  simp only [decide_eq_true_eq,decide_eq_false_iff_not]
  refine ⟨fun g=>?_,fun g=>?_⟩
  ·obtain ⟨c,hc⟩:∃ c,key.data.toList[i]?=some c:=⟨_,List.getElem?_eq_getElem (by omega)⟩
   refine jf (i:=i) (b:=c) hc rfl ?_
   rw [sv c hlt,w64 (by omega) (by omega)]
   refine ih (i+1) (pk x c) (by omega) (by omega) (uL x c) ?_
   rw [← hx,List.drop_eq_getElem_cons (show i<key.data.toList.length by omega),List.foldl_cons]
   have:key.data.toList[i]'(by omega)=c:=by
    rw [List.getElem?_eq_getElem (by omega)] at hc
    exact Option.some.inj hc
   rw [this]
  ·have:i=key.size:=by omega
   rw [this,List.drop_of_length_le (by omega)] at hx
   have hx:x=n:=hx
   rw [hx];exact k
theorem vz {key:ByteArray}{Q:Int->H->Prop}(hk:key.size<=9223372036854775807) (k:Q ((nB key:Nat):Int) h):F.xcw key h Q:=by
 unfold F.xcw
 exact ⟨key.size+1,vZ hk k _ 0 14695981039346656037 (by omega) (by omega) (by omega) (by rw [List.drop_zero,nB,uK])⟩
theorem vv {c:Cel}{Q:Int->H->Prop}(z:DS h d l ds S slots) (h0:0<ds.length) (h16:ds.length<=16) (hk:gH c) (k:Q ((rt ds.length c:Nat):Int) h):F.xdp (some ⟨d,0,none⟩) c.Key h Q:=by
 unfold F.xdp
 simp only [aZ,aC,Nat.add_zero]
 refine z.ldl (vz hk ⟨z.sb.cell (i:=0) rfl,?_⟩)
 obtain ⟨q1,q2⟩:=xE (x:=nB c.Key) h0 h16
 rw [z.len,q1]
 refine ⟨by omega,?_⟩
 rw [q2]
 exact k
theorem DS.has (z:DS h d l ds S slots) (h0:0<ds.length) (c:Cel):∃ q,ds[rt ds.length c]?=some q:=⟨_,List.getElem?_eq_getElem (po h0 c)⟩
theorem DOf {c:Cel}{q:Nat}{Q:Option Addr->H->Prop}(z:DS h d l ds S slots) (h0:0<ds.length) (h16:ds.length<=16) (hk:gH c) (hq:ds[rt ds.length c]?=some q) (k:∀ h',Ext h h'->Q (some ⟨q,0,none⟩) h'):F.xdk (some ⟨d,0,none⟩) c h Q:=by
 unfold F.xdk
 refine aN fun m h1 hm b1 e1 s1=>?_
 have z1:=z.ext e1
 have c1:aA h1 ⟨m,1,none⟩=some (.string c.Key):=Blk.cells b1 1 _ rfl
 simp only [aZ,aC,Nat.add_zero,Nat.zero_add]
 exact z1.ldl ((eP c1).2 (vv z1 h0 h16 hk ⟨z1.sb.cell (i:=0) rfl,z1.at hq (k h1 e1)⟩))
end
theorem DD {h:H}{m sl:Int}{Q:Option Addr->Int->H->Prop}(k0:(m<1∨m > 16∨sl<2∨sl > 1048576)->∀ h',Ext h h'->Q none 1 h')
  (k1:1<=m->m<=16->2<=sl->sl<=1048576->∀ h' d l ds,(ds.length:Int)=m->DS h' d l ds [] sl.toNat->Ext h h'->h.size<=d->(∀ q∈ds,h.size<=q)->Q (some ⟨d,0,none⟩) 0 h'):F.xbb m sl h Q:=by
 have bad:(m<1∨m > 16)->F.xbb.j3 Q m sl true h:=fun g=>by
  unfold F.xbb.j3
  exact ⟨fun _=>k0 (by omega) h (.refl _),fun g=>by cases g⟩
 unfold F.xbb
 refine ⟨fun g=>bad (by have:=of_decide_eq_true g;omega),fun g1=>?_⟩
 have g1:=of_decide_eq_false g1
 unfold F.xbb.j3
 refine ⟨fun g=>k0 (by have:=of_decide_eq_true g;omega) h (.refl _),fun g2=>?_⟩
 have g2:=of_decide_eq_false g2
 unfold F.xbb.j1
 refine aN fun p h1 hp b1 e1 s1=>⟨m.toNat+1,?_⟩
 have key:∀ (d i:Nat) (hh:H) (l:Sl) (ds:List Nat),i<=m.toNat->m.toNat-i<d->ds.length=i->Blk hh p #[l.enc] tSd->aU hh l tPd 1 (ds.flatMap cQ)->dL h l->Ext h hh ->
   (∀ (k q:Nat),ds[k]?=some q->DH hh q [] sl.toNat)->(∀ q∈ds,h.size<=q∧q<hh.size)->(∀ (j k q:Nat),ds[j]?=some q->ds[k]?=some q->j=k)->(0<i->2<=sl∧sl<=1048576)->F.xbb.l2 Q d m sl ⟨p,0,none⟩ (i:Int) hh:=by
  intro d
  induction d with
  | zero=>intro i _ _ _ _ hm;omega
  | succ d ih =>
   intro i hh l ds hi hm hl b w mi e hs hb hd hsl
   unfold F.xbb.l2
   have hsz:=e.size
   refine ⟨fun g=>?_,fun g=>?_⟩
   ·have g:=of_decide_eq_true g
    refine xT (fun g=>⟨fun _=>k0 (by omega) hh e,fun g=>by simp at g⟩) fun q1 q2 h4 q dh4 e4 hq=>⟨fun g=>by simp at g,fun _=>?_⟩
    have b4:Blk h4 p #[l.enc] tSd:=e4.block b fun f=>f
    simp only [aC,Nat.add_zero]
    refine (bj (b4.cell (i:=0) rfl)).2 ?_
    refine dT fun m2 h10 hm2 b10 e10 s10=>?_
    have r10:bS h10 ⟨some ⟨m2,0,none⟩,1,1⟩ 1 ([q].flatMap cQ):=dB (by simpa using b10) rfl
    have w10:=(w.ext e4).ext e10
    refine fI (L:=ds) (M:=[q]) oh (by omega) ll w10 r10 (fun x v hv=>by simp at hv;subst hv;rfl) (by simp only [List.length_singleton];omega) fun r3 h12 w3 o3 n3=>?_
    have hsz4:=e4.size
    have hsz10:=e10.size
    have hsz3:=o3.size
    have m3:dL h r3:=fun y hy=>by
     rcases n3 with n3 | ⟨b',n3,n4⟩
     ·exact mi y (by rw [← n3];exact hy)
     ·rw [n3] at hy;cases hy;omega
    have e12:Ext h h12:=((e.trans e4).trans e10).mine mi o3
    have b12:Blk h12 p #[l.enc] tSd:=o3.block (e10.block b4 fun f=>f) fun hb'=>fz w10 (e10.block b4 fun f=>f) (by decide) hb'
    refine cC b12 (by simp) fun h14 b14 o14 s14=>?_
    rw [cE (by simp)] at b14
    have w14:aU h14 r3 tPd 1 ((ds ++ [q]).flatMap cQ):=w3.only o14 fun y hy hf=>fz w3 b12 (by decide) (by rw [hy,hf])
    rw [w64 (by omega) (by omega)]
    have hsz14:=o14.size
    have hqlt:=dh4.lt
    have stay:∀ {q':Nat},DH h10 q' [] sl.toNat->DH h14 q' [] sl.toNat:=fun s=>(s.oth o3 w10 (by decide)).keep o14 fun x hx g=>by subst g;exact zK b12 (by decide) hx
    have old:∀ {k q':Nat},(ds ++ [q])[k]?=some q'->(k<i∧ds[k]?=some q')∨(k=i∧q'=q):=fun {k q'} hq'=>by
     have hlt:=(List.getElem?_eq_some_iff.1 hq').1
     rw [List.length_append,List.length_singleton] at hlt
     rcases Nat.lt_or_ge k ds.length with h | h
     ·rw [List.getElem?_append_left h] at hq';exact .inl ⟨by omega,hq'⟩
     ·have hk:k=ds.length:=by omega
      rw [hk,List.getElem?_append_right (by omega),Nat.sub_self] at hq'
      cases hq';exact .inr ⟨by omega,rfl⟩
    refine ih (i+1) h14 r3 (ds ++ [q]) (by omega) (by omega) (by simp [hl]) b14 w14 m3 (e12.step o14 fun x hx e=>by omega) (fun k q' hq'=>?_) (fun q' hq'=>?_) (fun j k q' hj hk=>?_) fun _=>⟨q1,q2⟩
    ·rcases old hq' with ⟨h1,h2⟩ | ⟨h1,h2⟩
     ·exact stay (((hs k q' h2).ext e4).ext e10)
     ·subst h2;exact stay (dh4.ext e10)
    ·rcases List.mem_append.1 hq' with h1 | h1
     ·have:=hb q' h1;exact ⟨this.1,by omega⟩
     ·obtain rfl:=List.mem_singleton.1 h1;exact ⟨by omega,by omega⟩
    ·rcases old hj with ⟨h1,h2⟩ | ⟨h1,h2⟩
     ·rcases old hk with ⟨h3,h4⟩ | ⟨h3,h4⟩
      ·exact hd j k q' h2 h4
      ·have:=hb q' (List.mem_of_getElem? h2);subst h4;omega
     ·rcases old hk with ⟨h3,h4⟩ | ⟨h3,h4⟩
      ·have:=hb q' (List.mem_of_getElem? h4);subst h2;omega
      ·omega
   ·have g:=of_decide_eq_false g
    have hsl:=hsl (by omega)
    exact k1 (by omega) (by omega) (by omega) (by omega) hh p l ds (by omega) ⟨b,w,fun k q hq=>by rw [qS];exact hs k q hq,hd⟩ e (by omega) fun q hq=>(hb q hq).1
 exact key _ 0 h1 ⟨none,0,0⟩ [] (by omega) (by omega) rfl b1 (by simpa using aU.nil h1 tPd 1) (fun x hx=>by simp [Sl.blk] at hx) e1 (fun k q hq=>by simp at hq) (fun q hq=>by cases hq) (fun j k q hq=>by simp at hq) fun g=>by omega
structure AOk (n:Nat) (S:SL) (slots:Nat):Prop where
 ok:SOk S
 us:∀ k,k<n->aR (bR n k S)<=slots
 sl:slots<=1048576
 n1:1<=n
 n2:n<=16
theorem TS.aok {h:H}{p:Nat}{l:Sl}{ps:List Nat}{S:SL}{slots:Nat}{R:Nat->Prop}(t:TS h p l ps S slots R):AOk ps.length S slots:=
 ⟨t.ok,fun k hk=>(t.us hk).1,(t.us (k:=0) (by have:=t.n1;omega)).2,t.n1,t.n2⟩
theorem AOk.pos {n:Nat}{S:SL}{slots:Nat}(a:AOk n S slots):0<n:=by have:=a.n1;omega
section
variable {h h':H}{d:Nat}{l:Sl}{ds:List Nat}{S:SL}{slots:Nat}
theorem DS.typ (z:DS h d l ds S slots){q:Nat}(hq:q∈ds):∃ c,Blk h q c tS7:=by
 obtain ⟨i,hi⟩:=List.mem_iff_getElem?.1 hq
 exact (z.sh i q hi).typ
theorem DS.dz (z:DS h d l ds S slots) (a:AOk ds.length S slots){i q:Nat}(hq:ds[i]?=some q):∃ x Z,toD Z=bR ds.length i S∧DZ h q Z slots x∧SOk (toD Z)∧aR (toD Z)<=slots∧Z.length<=1048576:=by
 obtain ⟨x,Z,hZ,z'⟩:=z.sh i q hq
 have hok:SOk (toD Z):=by rw [hZ];exact BH a.ok
 have hu:aR (toD Z)<=slots:=by rw [hZ];exact a.us i (List.getElem?_eq_some_iff.1 hq).1
 exact ⟨x,Z,hZ,z',hok,hu,by have:=gM hok;rw [jS] at this;have:=a.sl;omega⟩
theorem Ef {e:Int}{x:aO}{Q:Int->H->Prop}(z:DS h d l ds S slots) (a:AOk ds.length S slots) (hk:gH x.Cell) (hc:iK x.Agg.Count) (hs:iK x.Agg.Sum) (h0:iK x.Agg.Min) (h1:iK x.Agg.Max)
  (k0:u5 ds.length S slots e x.Cell x.Agg (iB x.Agg)≠0->∀ h',Ext h h'->Q (u5 ds.length S slots e x.Cell x.Agg (iB x.Agg)) h')
  (k1:u5 ds.length S slots e x.Cell x.Agg (iB x.Agg)=0->∀ h',DS h' d l ds (jJ S e x.Cell x.Agg) slots->bI (·∈ds) h h'->Q 0 h'):F.xel (some ⟨d,0,none⟩) e x h Q:=by
 unfold F.xel
 refine aN fun m h1' hm b1 e1 s1=>?_
 have z1:=z.ext e1
 obtain ⟨q,hq⟩:=z.has a.pos x.Cell
 refine ⟨x.Cell,jB (Blk.cells b1),x,Blk.cells b1,DOf z1 a.pos a.n2 hk hq fun h7 e7=>⟨(Blk.cells b1).ext e7,?_⟩⟩
 have z7:=z1.ext e7
 have e17:=e1.trans e7
 obtain ⟨y,Z,hZ,zz,hok,hu,hZl⟩:=z7.dz a hq
 unfold u5 at k0 k1
 rw [← hZ] at k0 k1
 refine xU zz hok hu a.sl hc hs h0 h1 (fun g h' e'=>k0 g h' (e17.trans e')) fun g h' dh o=>?_
 refine k1 g h' (z7.op hq (by rw [u6 a.ok.sort,← hZ];exact dh) o fun j hj hne=>sP a.ok.sort _ _ _ hne) (bI.trans (S:=(·∈ds)) (Ext.only e17) o fun n _ g=>?_)
 rw [g];exact List.mem_of_getElem? hq
theorem DB {e:Int}{c:Cel}{Q:Int->H->Prop}(z:DS h d l ds S slots) (a:AOk ds.length S slots) (hk:gH c)
  (k0:gn S e c≠0->∀ h',Ext h h'->Q (gn S e c) h')
  (k1:gn S e c=0->∀ h',DS h' d l ds (il S e c) slots->bI (·∈ds) h h'->Q 0 h'):F.xem (some ⟨d,0,none⟩) e c h Q:=by
 unfold F.xem
 refine aN fun m h1' hm b1 e1 s1=>?_
 have z1:=z.ext e1
 obtain ⟨q,hq⟩:=z.has a.pos c
 refine ⟨c,Blk.cells b1,c,Blk.cells b1,DOf z1 a.pos a.n2 hk hq fun h7 e7=>⟨(Blk.cells b1).ext e7,?_⟩⟩
 have z7:=z1.ext e7
 have e17:=e1.trans e7
 obtain ⟨y,Z,hZ,zz,hok,hu,hZl⟩:=z7.dz a hq
 have hke:gn (toD Z) e c=gn S e c:=by rw [hZ,oP]
 rw [← hke] at k0 k1
 refine vA zz hok hu a.sl (fun g h' e'=>k0 g h' (e17.trans e')) fun g h' dh o=>?_
 refine k1 g h' (z7.op hq (by rw [sB a.ok.sort,← hZ];exact dh) o fun j hj hne=>qH a.ok.sort _ _ hne) (bI.trans (S:=(·∈ds)) (Ext.only e17) o fun n _ g=>?_)
 rw [g];exact List.mem_of_getElem? hq
theorem DAt {e:Int}{c:Cel}{Q:ag->H->Prop}(z:DS h d l ds S slots) (a:AOk ds.length S slots) (hk:gH c) (k:∀ h',Ext h h'->Q (atS S c e) h'):F.xdt (some ⟨d,0,none⟩) c e h Q:=by
 unfold F.xdt
 refine aN fun m h1 hm b1 e1 s1=>aN fun m2 h3 hm2 b3 e3 s3=>?_
 have z3:=(z.ext e1).ext e3
 obtain ⟨q,hq⟩:=z.has a.pos c
 have c3:=(Blk.cells b1).ext e3
 refine ⟨c,c3,c,c3,DOf z3 a.pos a.n2 hk hq fun h9 e9=>⟨c3.ext e9,?_⟩⟩
 obtain ⟨y,Z,hZ,zz,hok,hu,hZl⟩:=(z3.ext e9).dz a hq
 have:=a.sl
 refine zb zz hok hZl (by omega) fun h12 e12=>?_
 rw [hZ,tV]
 have b12:=e12.block (e9.block b3 fun f=>f) fun f=>f
 refine cC b12 (by simp [ag.cells]) fun h14 b14 o14 s14=>?_
 rw [cE (by simp [ag.cells])] at b14
 refine ⟨_,Blk.cells (cs:=(atS S c e).cells) b14,k h14 ((((e1.trans e3).trans e9).trans e12).step o14 fun x hx g=>?_)⟩
 omega
theorem DS.nth (z:DS h d l ds S slots){i:Int}(hi:0<=i∧i<ds.length):∃ q,ds[i.toNat]?=some q∧((i.toNat:Nat):Int)=i:=⟨_,List.getElem?_eq_getElem (by omega),by omega⟩
theorem CC {i:Int}{Q:Int->H->Prop}(z:DS h d l ds S slots) (a:AOk ds.length S slots) (k:Q (aR (dZ ds.length i S):Int) h):F.xce (some ⟨d,0,none⟩) i h Q:=by
 unfold F.xce F.xce.j2
 simp only [aZ,aC,Nat.add_zero]
 by_cases hi:0<=i∧i<ds.length
 ·refine ⟨fun g=>by have:=of_decide_eq_true g;omega,fun _=>z.ldl ?_⟩
  rw [z.len]
  refine ⟨fun g=>by have:=of_decide_eq_true g;omega,fun _=>?_⟩
  unfold F.xce.j1
  simp only [aZ,aC,Nat.add_zero]
  obtain ⟨q,hq,hin⟩:=z.nth hi
  unfold dZ at k
  rw [if_pos hi] at k
  refine z.ldl ?_
  rw [← hin]
  refine z.at hq ?_
  obtain ⟨y,Z,hZ,zz,hok,hu,hZl⟩:=z.dz a hq
  have:=a.sl
  rw [← hZ] at k
  exact iL zz hZl (by omega) k
 ·unfold dZ at k
  rw [if_neg hi] at k
  refine ⟨fun _=>⟨fun _=>k,fun g=>by cases g⟩,fun g=>z.ldl ?_⟩
  have g:=of_decide_eq_false g
  rw [z.len]
  exact ⟨fun _=>k,fun g=>by have:=of_decide_eq_false g;omega⟩
theorem CB {i e most:Int}{fr to:Cel}{Q:Sl->H->Prop}(z:DS h d l ds S slots) (a:AOk ds.length S slots)
  (k:∀ r h',aU h' r bQ 7 (((cy (dZ ds.length i S) e fr to).take most.toNat).flatMap cW)->dL h r->Ext h h'->Q r h'):F.xcd (some ⟨d,0,none⟩) i e fr to most h Q:=by
 unfold F.xcd F.xcd.j2
 refine aN fun m h1 hm b1 e1 s1=>aN fun m2 h3 hm2 b3 e3 s3=>?_
 have z3:=(z.ext e1).ext e3
 have e13:=e1.trans e3
 simp only [aZ,aC,Nat.add_zero]
 by_cases hi:0<=i∧i<ds.length
 ·refine ⟨fun g=>by have:=of_decide_eq_true g;omega,fun _=>z3.ldl ?_⟩
  rw [z.len]
  refine ⟨fun g=>by have:=of_decide_eq_true g;omega,fun _=>?_⟩
  unfold F.xcd.j1
  simp only [aZ,aC,Nat.add_zero]
  obtain ⟨q,hq,hin⟩:=z.nth hi
  unfold dZ at k
  rw [if_pos hi] at k
  refine z3.ldl ?_
  conv=>arg 2;rw [← hin]
  obtain ⟨y,Z,hZ,zz,hok,hu,hZl⟩:=z3.dz a hq
  have:=a.sl
  rw [← hZ] at k
  exact z3.at (K:=fun y14=>_) hq ⟨fr,(Blk.cells b1).ext e3,to,Blk.cells b3,pb zz hok hu a.sl fun r h' w m' e'=>k r h' w (fun y hy=>Nat.le_trans e13.size (m' y hy)) (e13.trans e')⟩
 ·unfold dZ at k
  rw [if_neg hi] at k
  have none':Q ⟨none,0,0⟩ h3:=k _ h3 (by simpa [cy] using aU.nil h3 bQ 7) (fun y hy=>by simp [Sl.blk] at hy) e13
  refine ⟨fun _=>⟨fun _=>none',fun g=>by cases g⟩,fun g=>z3.ldl ?_⟩
  have g:=of_decide_eq_false g
  rw [z.len]
  exact ⟨fun _=>none',fun g=>by have:=of_decide_eq_false g;omega⟩
theorem CA {i:Int}{held:Sl}{E:List Int}{Q:Int->H->Prop}(z:DS h d l ds S slots) (a:AOk ds.length S slots) (rd:bS h held 1 (E.flatMap cI)) (hE:E.length<=1000000)
  (k:∀ h',DS h' d l ds (jA ds.length i S E) slots->bI (·∈ds) h h'->Q ((aR (dZ ds.length i S):Int)-aR (dp (dZ ds.length i S) E)) h'):F.xcb (some ⟨d,0,none⟩) i held h Q:=by
 unfold F.xcb F.xcb.j2
 simp only [aZ,aC,Nat.add_zero]
 by_cases hi:0<=i∧i<ds.length
 ·refine ⟨fun g=>by have:=of_decide_eq_true g;omega,fun _=>z.ldl ?_⟩
  rw [z.len]
  refine ⟨fun g=>by have:=of_decide_eq_true g;omega,fun _=>?_⟩
  unfold F.xcb.j1
  simp only [aZ,aC,Nat.add_zero]
  obtain ⟨q,hq,hin⟩:=z.nth hi
  refine z.ldl ?_
  rw [← hin]
  refine z.at hq ?_
  obtain ⟨y,Z,hZ,zz,hok,hu,hZl⟩:=z.dz a hq
  have hpos:=Ax a.ok
  have hpx:jA ds.length ((i.toNat:Nat):Int) S E=gF ds.length i.toNat S E:=by unfold jA;rw [if_pos (by omega)];rfl
  refine ut zz hok hu a.sl rd hE fun h' dh o=>?_
  have:=k h'
  rw [← hin,hpx,oO (by omega),← hZ] at this
  refine this (z.op hq (by rw [tW hpos,← hZ];exact dh) o fun j hj hne=>qT hne hpos) (o.mono fun n _ g=>?_)
  rw [g];exact List.mem_of_getElem? hq
 ·have none':Q 0 h:=by
   have:=k h
   unfold jA dZ at this
   rw [if_neg hi,if_neg hi] at this
   exact this z (.refl _)
  refine ⟨fun _=>⟨fun _=>none',fun g=>by cases g⟩,fun g=>z.ldl ?_⟩
  have g:=of_decide_eq_false g
  rw [z.len]
  exact ⟨fun _=>none',fun g=>by have:=of_decide_eq_false g;omega⟩
theorem Cz {Q:Int->H->Prop}(z:DS h d l ds S slots) (a:AOk ds.length S slots) (k:Q (ck S:Int) h):F.xcv (some ⟨d,0,none⟩) h Q:=by
 unfold F.xcv
 refine ⟨ds.length+1,?_⟩
 have n2:=a.n2
 have hsl:=a.sl
 have bd:∀ i,i<ds.length->ck (bR ds.length i S)<=1048576:=fun i hi=>by have:=lQ (S:=bR ds.length i S);have:=a.us i hi;omega
 have key:∀ (f i:Nat),i<=ds.length->ds.length-i<f->F.xcv.l1 Q f (some ⟨d,0,none⟩) ((((List.range i).map fun k=>ck (bR ds.length k S)).sum:Nat):Int) (i:Int) h:=by
  intro f
  induction f with
  | zero=>intro i _ hm;omega
  | succ f ih =>
   intro i hi hm
   unfold F.xcv.l1
   simp only [aZ,aC,Nat.add_zero]
   refine z.ldl ?_
   rw [z.len]
   refine ⟨fun g=>z.ldl ?_,fun g=>?_⟩
   ·have g:=of_decide_eq_true g
    obtain ⟨q,hq⟩:∃ q,ds[i]?=some q:=⟨_,List.getElem?_eq_getElem (by omega)⟩
    obtain ⟨y,Z,hZ,zz,hok,hu,hZl⟩:=z.dz a hq
    refine z.at hq (up zz hok hZl (by omega) ?_)
    rw [hZ]
    have hb:=wI (f:=fun k=>ck (bR ds.length k S)) (B:=1048576) i fun k hk=>bd k (by omega)
    have hb2:=bd i (by omega)
    have hb3:i*1048576<=16*1048576:=Nat.mul_le_mul_right _ (by omega)
    rw [w64 (by omega) (by omega),w64 (by omega) (by omega)]
    have:=ih (i+1) (by omega) (by omega)
    rw [rj] at this
    exact_mod_cast this
   ·have g:=of_decide_eq_false g
    rw [show i=ds.length by omega,pw a.pos]
    exact k
 exact key _ 0 (by omega) (by omega)
theorem DC {Q:Int->H->Prop}(z:DS h d l ds S slots) (a:AOk ds.length S slots) (k:Q (gp S:Int) h):F.xbm (some ⟨d,0,none⟩) h Q:=by
 unfold F.xbm
 refine ⟨ds.length+1,?_⟩
 have n2:=a.n2
 have hsl:=a.sl
 have key:∀ (f i:Nat),i<=ds.length->ds.length-i<f->F.xbm.l1 Q f (some ⟨d,0,none⟩) ((kw ((List.range i).map fun k=>gp (bR ds.length k S)):Nat):Int) (i:Int) h:=by
  intro f
  induction f with
  | zero=>intro i _ hm;omega
  | succ f ih =>
   intro i hi hm
   unfold F.xbm.l1
   simp only [aZ,aC,Nat.add_zero]
   refine z.ldl ?_
   rw [z.len]
   refine ⟨fun g=>z.ldl ?_,fun g=>?_⟩
   ·have g:=of_decide_eq_true g
    obtain ⟨q,hq⟩:∃ q,ds[i]?=some q:=⟨_,List.getElem?_eq_getElem (by omega)⟩
    obtain ⟨y,Z,hZ,zz,hok,hu,hZl⟩:=z.dz a hq
    refine z.at hq (qh zz hZl (by omega) ?_)
    rw [hZ]
    have:=ih (i+1) (by omega) (by omega)
    rw [sk] at this
    generalize kw ((List.range i).map fun k=>gp (bR ds.length k S))=A at *
    unfold F.xbm.j2
    refine ⟨fun g2=>z.ldl (z.at hq (qh zz hZl (by omega) ?_)),fun g2=>?_⟩
    ·have g2:=of_decide_eq_true g2
     rw [hZ,w64 (by omega) (by omega)]
     rw [Nat.max_eq_right (by omega)] at this
     exact_mod_cast this
    ·have g2:=of_decide_eq_false g2
     rw [w64 (by omega) (by omega)]
     rw [Nat.max_eq_left (by omega)] at this
     exact_mod_cast this
   ·have g:=of_decide_eq_false g
    rw [show i=ds.length by omega,qL a.pos]
    exact k
 exact key _ 0 (by omega) (by omega)
end
theorem BU {X Y:List aO}(hX:jZ X) (hY:jZ Y){n:Nat}(hn:0<n) (m:Nat) (hmem:∀ x,x∈Y↔∃ k,k<n∧x∈(X.filter fun r=>decide (rt n r.Cell=k)).take m):Y.take m=X.take m:=by
 classical
 have sub:∀ x,x∈Y->x∈X:=fun x hx=>by
  obtain ⟨k,_,hk⟩:=(hmem x).1 hx
  exact (List.mem_filter.1 (List.mem_of_mem_take hk)).1
 have hf:Y=X.filter fun r=>decide (r∈Y):=by
  refine kA (key:=fun r:aO=>r.Cell) hY (List.Pairwise.filter _ hX) fun x=>?_
  rw [List.mem_filter,decide_eq_true_eq]
  exact ⟨fun h=>⟨sub x h,h⟩,fun h=>h.2⟩
 rw [hf]
 refine pi fun x hx=>decide_eq_true ((hmem x).2 ⟨rt n x.Cell,po hn _,pq hx (decide_eq_true rfl)⟩)
theorem Bv {X:List aO}(hX:jZ X){a b:aO}(ha:a∈X) (hb:b∈X) (he:a.Cell=b.Cell):a=b:=by
 have h1:=gm (key:=fun r:aO=>r.Cell) hX ha
 have h2:=gm (key:=fun r:aO=>r.Cell) hX hb
 rw [he] at h1
 rw [h1] at h2
 exact Option.some.inj h2
section
variable {h h':H}{d:Nat}{l:Sl}{ds:List Nat}{S:SL}{slots:Nat}
theorem Ab {C1:Option Addr->Int->Int->Addr->Addr->Sl->Int->H->Prop}{C2:Option Addr->Int->Int->Addr->Addr->Sl->Int->Sl->Int->H->Prop}{Q:Sl->H->Prop}{x0:Option Addr}{x1 x4 x12:Int}{x7 x8:Addr}{out sl:Sl}{O Y:List aO}{b:Nat}{r:aO}{base:H}
  (wo:aU h out bQ 7 (O.flatMap cW)) (wy:aU h sl bQ 7 (Y.flatMap cW)) (hO:jZ O) (hr:Y[b]?=some r) (hno:∀ o∈O,o.Cell≠r.Cell) (hOl:O.length<=100000) (hb:b<1000000) (eb:Ext base h)
  (k:∀ r' h',aU h' r' bQ 7 ((eu (fun r:aO=>r.Cell) O r).flatMap cW)->Ext h h'->C2 x0 x1 x4 x7 x8 r' x12 sl ((b:Int)+1) h') :
  ∃ m,F.xab.l3 Q C1 C2 m x0 x1 x4 x7 x8 out x12 sl (b:Int) 0 h:=by
 refine ⟨O.length+1,?_⟩
 have hol:=bH dy (by omega) wo
 have key:∀ (f at_:Nat) (hh:H),at_<=O.length->O.length-at_<f->Ext h hh->(∀ o∈O.take at_,bZ o.Cell r.Cell=-1)->F.xab.l3 Q C1 C2 f x0 x1 x4 x7 x8 out x12 sl (b:Int) (at_:Int) hh:=by
  intro f
  induction f with
  | zero=>intro at_ _ _ hm;omega
  | succ f ih =>
   intro at_ hh hat hm e hlt
   unfold F.xab.l3
   rw [hol]
   -- it belongs here
   have here:∀ (C3:Option Addr->Int->Int->Addr->Addr->Sl->Int->Sl->Int->Int->H->Prop) (h2:H),Ext h h2->(∀ o∈O.drop at_,bZ r.Cell o.Cell=-1)->F.xab.j5 Q C1 C2 C3 x0 x1 x4 x7 x8 out x12 sl (b:Int) (at_:Int) false h2:=fun C3 h2 e2 hgt=>by
    unfold F.xab.j5
    refine ⟨fun g=>(by cases g),fun _=>?_⟩
    have w2:=wo.ext e2
    refine fQ (lo:=0) (hi:=at_) rfl rfl (Nat.zero_le _) (by have:=w2.le_cap;omega) ?_
    have rd2:bS h2 (cS out 0 at_ 7) 7 ((O.take at_).flatMap cW):=by
     have:=iq (lo:=0) (hi:=at_) dy (by omega) w2.reads (Nat.zero_le _) hat w2.le_cap
     simpa using this
    have ht:(O.take at_).length<=100000:=by rw [List.length_take];omega
    refine fJ (h0:=h) (L:=([]:List aO)) (M:=O.take at_) e2 (dL.nil _ _ _) dy (by omega) fR (aU.nil _ _ _) rd2 (fun x=>ei x) (by simp only [List.length_nil];omega) fun s29 h28 w28 e28 m28 o28 _=>?_
    rw [List.nil_append] at w28
    have wy28:=wy.ext e28
    refine sR wy28.reads hr fun a ca=>⟨r,ca,dT fun m35 h34 hm35 b34 e34 s34=>?_⟩
    have r34:bS h34 ⟨some ⟨m35,0,none⟩,1,1⟩ 7 ([r].flatMap cW):=dB (by simpa using b34) rfl
    have ht2:(O.take at_).length+1<=100001:=by omega
    refine fJ (h0:=h) (L:=O.take at_) (M:=[r]) (e28.trans e34) m28 dy (by omega) fR (w28.ext e34) r34 (fun x=>ei x) (by simp only [List.length_singleton];omega) fun s37 h36 w36 e36 m36 o36 _=>?_
    have w236:aU h36 out bQ 7 (O.flatMap cW):=wo.ext e36
    refine fQ (lo:=at_) (hi:=O.length) rfl (by rw [hol]) hat (by have:=w236.le_cap;omega) ?_
    have rd36:bS h36 (cS out at_ O.length 7) 7 ((O.drop at_).flatMap cW):=by
     have:=iq (lo:=at_) (hi:=O.length) dy (by omega) w236.reads hat (Nat.le_refl _) w236.le_cap
     rwa [List.take_of_length_le (by rw [List.length_drop];exact Nat.le_refl _)] at this
    have hd:(O.drop at_).length<=100000:=by rw [List.length_drop];omega
    have hl1:(O.take at_ ++ [r]).length<=100001:=by rw [List.length_append,List.length_singleton];omega
    refine fJ (h0:=h) (L:=O.take at_ ++ [r]) (M:=O.drop at_) e36 m36 dy (by omega) fR w36 rd36 (fun x=>ei x) (by omega) fun s41 h40 w40 e40 m40 o40 _=>?_
    rw [w64 (by omega) (by omega)]
    have hset:O.take at_ ++ [r] ++ O.drop at_=eu (fun r:aO=>r.Cell) O r:=by
     have:=rf (key:=fun r:aO=>r.Cell) (x:=r) (A:=O.take at_) (B:=O.drop at_) hlt hgt
     rw [List.take_append_drop] at this
     rw [this,List.append_assoc];rfl
    rw [hset] at w40
    have:=k s41 h40 w40 e40
    exact this
   refine ⟨fun g=>?_,fun g=>?_⟩
   ·have g:=of_decide_eq_true g
    obtain ⟨o,ho⟩:∃ o,O[at_]?=some o:=⟨_,List.getElem?_eq_getElem (by omega)⟩
    refine sR (wo.ext e).reads ho fun a ca=>⟨o.Cell,jB ca,sR (wy.ext e).reads hr fun a2 ca2=>⟨r.Cell,jB ca2,io fun h51 e51=>?_⟩⟩
    by_cases hl2:bZ o.Cell r.Cell=-1
    ·rw [decide_eq_true hl2]
     unfold F.xab.j5 F.xab.j4
     refine ⟨fun _=>?_,fun g=>by cases g⟩
     rw [w64 (by omega) (by omega)]
     refine ih (at_+1) h51 (by omega) (by omega) (e.trans e51) fun o' ho'=>?_
     rw [M.ed ho] at ho'
     rcases List.mem_append.1 ho' with h1 | h1
     ·exact hlt o' h1
     ·obtain rfl:=List.mem_singleton.1 h1;exact hl2
    ·rw [decide_eq_false hl2]
     refine here _ h51 (e.trans e51) fun o' ho'=>?_
     have hro:bZ r.Cell o.Cell=-1:=by
      have h1:=dR r.Cell o.Cell
      have h2:=cZ o.Cell r.Cell
      have h3:bZ o.Cell r.Cell≠0:=fun e=>hno o (List.mem_of_getElem? ho) (dq.1 e)
      omega
     rw [List.drop_eq_getElem_cons (show at_<O.length by omega)] at ho'
     have hoe:O[at_]=o:=by
      rw [List.getElem?_eq_getElem (by omega)] at ho;exact Option.some.inj ho
     rcases List.mem_cons.1 ho' with h1 | h1
     ·rw [h1,hoe];exact hro
     ·obtain ⟨j,hj⟩:=List.mem_iff_getElem?.1 h1
      rw [List.getElem?_drop] at hj
      have hp:=List.pairwise_iff_getElem.1 hO at_ (at_+1+j) (by omega) (List.getElem?_eq_some_iff.1 hj).1 (by omega)
      rw [hoe,(List.getElem?_eq_some_iff.1 hj).2] at hp
      exact gN hro hp
   ·have g:=of_decide_eq_false g
    exact here _ hh e fun o' ho'=>by rw [List.drop_of_length_le (by omega)] at ho';cases ho'
 exact key _ 0 h (by omega) (by omega) (.refl _) fun o ho=>by simp at ho
theorem DE {e most:Int}{fr to:Cel}{Q:Sl->H->Prop}(z:DS h d l ds S slots) (a:AOk ds.length S slots) (hS:S.length<100000)
  (k:∀ r h',bS h' r 7 (((cy S e fr to).take most.toNat).flatMap cW)->Ext h h'->Q r h'):F.xab (some ⟨d,0,none⟩) e fr to most h Q:=by
 unfold F.xab
 refine aN fun n2 h1 hm b1 e1 s1=>aN fun n4 h3 hm2 b3 e3 s3=>⟨ds.length+1,?_⟩
 have z3:=(z.ext e1).ext e3
 have e13:=e1.trans e3
 have n16:=a.n2
 have hX:=qX a.ok e fr to
 have hXl:=wC S e fr to
 have Xd:∃ X,X=cy S e fr to:=⟨_,rfl⟩
 obtain ⟨X,hXe⟩:=Xd
 rw [← hXe] at hX hXl k
 -- the rows of one shard,one behind the other
 have rows:∀ (C1:Option Addr->Int->Int->Addr->Addr->Sl->Int->H->Prop) (i:Nat) (sl:Sl) (Y:List aO),i<ds.length->Y=(X.filter fun r=>decide (rt ds.length r.Cell=i)).take most.toNat ->
   (∀ out O hh,aU hh out bQ 7 (O.flatMap cW)->jZ O->Ext h3 hh->(∀ x,x∈O↔∃ k,k<i+1∧x∈(X.filter fun r=>decide (rt ds.length r.Cell=k)).take most.toNat)->C1 (some ⟨d,0,none⟩) e most ⟨n2,0,none⟩ ⟨n4,0,none⟩ out (IntKind.wrap .i64 ((i:Int)+1)) hh) ->
   ∀ (f b:Nat) (hh:H) (out:Sl) (O:List aO),b<=Y.length->Y.length-b<f->Ext h3 hh->aU hh sl bQ 7 (Y.flatMap cW)->aU hh out bQ 7 (O.flatMap cW)->jZ O->(∀ x,x∈O↔(∃ k,k<i∧x∈(X.filter fun r=>decide (rt ds.length r.Cell=k)).take most.toNat)∨x∈Y.take b) ->
   F.xab.l2 Q C1 f (some ⟨d,0,none⟩) e most ⟨n2,0,none⟩ ⟨n4,0,none⟩ out (i:Int) sl (b:Int) hh:=by
  intro C1 i sl Y hi hY next f
  have hYX:∀ x∈Y,x∈X∧rt ds.length x.Cell=i:=fun x hx=>by
   rw [hY] at hx
   have:=List.mem_filter.1 (List.mem_of_mem_take hx)
   exact ⟨this.1,of_decide_eq_true this.2⟩
  have hYl:Y.length<=X.length:=by rw [hY,List.length_take];have:=List.length_filter_le (fun r:aO=>decide (rt ds.length r.Cell=i)) X;omega
  have hYs:jZ Y:=by rw [hY];exact List.Pairwise.sublist ((List.take_sublist _ _).trans List.filter_sublist) hX
  induction f with
  | zero=>intro b _ _ _ _ hm;omega
  | succ f ih =>
   intro b hh out O hb hm ee wy wo hO hmem
   unfold F.xab.l2
   have hyl:=bH dy (by omega) wy
   rw [hyl]
   have hOX:∀ x∈O,x∈X:=fun x hx=>by
    rcases (hmem x).1 hx with ⟨k,_,hk⟩ | hx
    ·exact (List.mem_filter.1 (List.mem_of_mem_take hk)).1
    ·exact (hYX x (List.mem_of_mem_take hx)).1
   refine ⟨fun g=>?_,fun g=>?_⟩
   ·have g:=of_decide_eq_true g
    obtain ⟨r,hr⟩:∃ r,Y[b]?=some r:=⟨_,List.getElem?_eq_getElem (by omega)⟩
    obtain ⟨r1,r2⟩:=hYX r (List.mem_of_getElem? hr)
    have hno:∀ o∈O,o.Cell≠r.Cell:=fun o ho he=>by
     have:o=r:=Bv hX (hOX o ho) r1 he
     subst this
     rcases (hmem o).1 ho with ⟨k,hk,hx⟩ | hx
     ·have:=of_decide_eq_true (List.mem_filter.1 (List.mem_of_mem_take hx)).2
      omega
     ·obtain ⟨j,hj⟩:=List.mem_iff_getElem?.1 hx
      have hjb:j<b:=by have:=(List.getElem?_eq_some_iff.1 hj).1;rw [List.length_take] at this;omega
      rw [List.getElem?_take_of_lt hjb] at hj
      have hp:=List.pairwise_iff_getElem.1 hYs j b (List.getElem?_eq_some_iff.1 hj).1 (by omega) hjb
      rw [(List.getElem?_eq_some_iff.1 hj).2,(List.getElem?_eq_some_iff.1 hr).2,eC] at hp
      cases hp
    have hOl:O.length<=X.length:=by
     classical
     exact kV (oU hO) hOX
    refine Ab wo wy hO hr hno (by omega) (by omega) ee fun r' h' w' e'=>?_
    refine ih (b+1) h' r' _ (by omega) (by omega) (ee.trans e') (wy.ext e') w' (lP hO) fun x=>?_
    rw [jQ (key:=fun r:aO=>r.Cell) hO,M.ed hr,List.mem_append,List.mem_singleton]
    constructor
    ·rintro (hx | ⟨hx,_⟩)
     ·exact .inr (.inr hx)
     ·rcases (hmem x).1 hx with h1 | h1
      ·exact .inl h1
      ·exact .inr (.inl h1)
    ·rintro (hx | hx | hx)
     ·have:=(hmem x).2 (.inl hx);exact .inr ⟨this,hno x this⟩
     ·have:=(hmem x).2 (.inr hx);exact .inr ⟨this,hno x this⟩
     ·exact .inl hx
   ·have g:=of_decide_eq_false g
    refine next out O hh wo hO ee fun x=>?_
    rw [hmem,List.take_of_length_le (by omega)]
    constructor
    ·rintro (⟨k,hk,hx⟩ | hx)
     ·exact ⟨k,by omega,hx⟩
     ·exact ⟨i,by omega,by rw [← hY];exact hx⟩
    ·rintro ⟨k,hk,hx⟩
     by_cases hki:k=i
     ·subst hki;exact .inr (by rw [hY];exact hx)
     ·exact .inl ⟨k,by omega,hx⟩
 -- the shards
 have shards:∀ (f i:Nat) (hh:H) (out:Sl) (O:List aO),i<=ds.length->ds.length-i<f->Ext h3 hh->aU hh out bQ 7 (O.flatMap cW)->jZ O->(∀ x,x∈O↔∃ k,k<i∧x∈(X.filter fun r=>decide (rt ds.length r.Cell=k)).take most.toNat) ->
   F.xab.l1 Q f (some ⟨d,0,none⟩) e most ⟨n2,0,none⟩ ⟨n4,0,none⟩ out (i:Int) hh:=by
  intro f
  induction f with
  | zero=>intro i _ _ _ _ hm;omega
  | succ f ih =>
   intro i hh out O hi hm ee wo hO hmem
   unfold F.xab.l1
   have zz:=z3.ext ee
   simp only [aZ,aC,Nat.add_zero]
   refine zz.ldl ?_
   rw [z.len]
   refine ⟨fun g=>zz.ldl ?_,fun g=>?_⟩
   ·have g:=of_decide_eq_true g
    obtain ⟨q,hq⟩:∃ q,ds[i]?=some q:=⟨_,List.getElem?_eq_getElem (by omega)⟩
    obtain ⟨y,Z,hZ,zq,hok,hu,hZl⟩:=zz.dz a hq
    refine zz.at hq ⟨fr,((Blk.cells b1).ext e3).ext ee,to,(Blk.cells b3).ext ee,pb zq hok hu a.sl fun r h22 w22 m22 e22=>?_⟩
    rw [hZ,mM,← hXe] at w22
    exact ⟨_,rows _ i r _ (by omega) rfl (fun out' O' h' w' hO' e' hm'=>by
     rw [w64 (by omega) (by omega)]
     exact ih (i+1) h' out' O' (by omega) (by omega) e' w' hO' hm') _ 0 h22 out O (by omega) (Nat.lt_succ_self _) (ee.trans e22) w22 (wo.ext e22) hO fun x=>by rw [hmem];simp⟩
   ·have g:=of_decide_eq_false g
    have hin:i=ds.length:=by omega
    subst hin
    have law:=BU hX hO a.pos most.toNat hmem
    have hOl:O.length<=X.length:=by
     classical
     refine kV (oU hO) fun x hx=>?_
     obtain ⟨k,_,hk⟩:=(hmem x).1 hx
     exact (List.mem_filter.1 (List.mem_of_mem_take hk)).1
    have hol:=bH dy (by omega) wo
    have fin:∀ m:Int,0<=m->m.toNat=most.toNat->F.xab.j6 Q m out hh:=fun m hm0 hmm=>by
     unfold F.xab.j6 F.xab.j7
     rw [hol]
     refine ⟨fun g=>?_,fun g=>?_⟩
     ·have g:=of_decide_eq_true g
      refine fQ (lo:=0) (hi:=m.toNat) rfl (by omega) (Nat.zero_le _) (by have:=wo.le_cap;omega) ?_
      have rc:=iq (lo:=0) (hi:=m.toNat) dy (by omega) wo.reads (Nat.zero_le _) (by omega) wo.le_cap
      rw [List.drop_zero,Nat.sub_zero,hmm,law] at rc
      rw [hmm]
      exact k _ hh rc (e13.trans ee)
     ·have g:=of_decide_eq_false g
      have:O=X.take most.toNat:=by rw [← law,List.take_of_length_le (by omega)]
      rw [this] at wo
      exact k _ hh wo.reads (e13.trans ee)
    exact ⟨fun g=>by have:=of_decide_eq_true g;exact fin 0 (by omega) (by omega),fun g=>by have:=of_decide_eq_false g;exact fin most (by omega) rfl⟩
 exact shards _ 0 h3 ⟨none,0,0⟩ [] (by omega) (by omega) (.refl _) (by simpa using aU.nil h3 bQ 7) List.Pairwise.nil fun x=>by simp
end
abbrev i6 (n k:Nat) (L:List Cel):List Cel:=L.filter fun c=>decide (rt n c=k)
noncomputable def tG (n:Nat) (S:SL) (slots:Nat) (e:Int) (L:List Cel) (k:Nat):Bool:=decide ((aR (bR n k S):Int)+fY (bR n k S) e (i6 n k L)<=slots)
noncomputable def sf (n:Nat) (S:SL) (slots:Nat) (e:Int) (L:List Cel):Bool:=(List.range n).all (tG n S slots e L)
theorem xi {n k:Nat}{S:SL}{slots:Nat}{e:Int}{L:List Cel}(hk:k<n) (h:tG n S slots e L k=false):sf n S slots e L=false:=by
 unfold sf
 rw [List.all_eq_false]
 exact ⟨k,List.mem_range.2 hk,by rw [h];simp⟩
theorem uD {n:Nat}{S:SL}{slots:Nat}{e:Int}{L:List Cel}(h:∀ k,k<n->tG n S slots e L k=true):sf n S slots e L=true:=by
 unfold sf
 rw [List.all_eq_true]
 exact fun k hk=>h k (List.mem_range.1 hk)
theorem rY {n k i:Nat}{L:List Cel}{c:Cel}(hc:L[i]?=some c):i6 n k (L.take (i+1))=i6 n k (L.take i) ++ (if rt n c=k then [c] else []):=by
 unfold i6
 rw [M.ed hc,List.filter_append,List.filter_cons,List.filter_nil]
 by_cases h:rt n c=k <;> simp [h]
theorem na {n k:Nat}(L:List Cel):(i6 n k L).length<=L.length:=List.length_filter_le _ _
theorem Dj {hh:H}{s:Sl}{ss:List Sl}(w:bS hh s 1 (ss.flatMap V.cS8)){i:Nat}{x:Sl}(hs:ss[i]?=some x){K:Addr->Prop}(k:∀ a,aA hh a=some x.enc->K a):bD s (i:Int) 1 K:=by
 obtain ⟨q,r1,r2,r3⟩:=gw V.gO (by omega) w hs
 have hl:=cz V.gO (by omega) w
 exact dK (i:=i) r1 (by have:=(List.getElem?_eq_some_iff.1 hs).1;omega) rfl (k _ r3.one)
theorem Bc {h:H}{a:Addr}{c:Cel}(q:Cells h a c.cells):aA h (a.add 1)=some (.string c.Key):=q 1 _ rfl
theorem DF {base h:H}{p:Nat}{l:Sl}{ps:List Nat}{S:SL}{slots:Nat}{e:Int}{s:Sl}{L:List Cel}{Q:Bool->H->Prop}(t:TI base h p l ps S slots) (rd:bS h s 3 (L.flatMap ae.cells)) (hL:L.length<=1000) (hk:∀ c∈L,gH c) (k:∀ h',Ext h h'->Q (sf ps.length S slots e L) h'):F.xbs (some ⟨p,0,none⟩) e s h Q:=by
 unfold F.xbs
 have n1:=t.n1
 have n16:=t.n2
 have hlen:=cz dr (by omega) rd
 obtain ⟨R,t1,hR⟩:=id t.t
 simp only [aZ,aC,Nat.add_zero]
 refine t1.ldl ?_
 rw [t1.len]
 refine nF pF (n:=ps.length) (by omega) (by simp only [maxLen];omega) fun b h5 hb5 w5 e5=>⟨L.length+1,?_⟩
 have w5':aU h5 ⟨some ⟨b,0,none⟩,ps.length,ps.length⟩ dw 1 (((List.range ps.length).map fun _=>(⟨none,0,0⟩:Sl)).flatMap V.cS8):=by
  have:(madeCells (Value.cells (⟨none,0,0⟩:Sl).enc) (ps.length*1)).toList=((List.range ps.length).map fun _=>(⟨none,0,0⟩:Sl)).flatMap V.cS8:=by
   rw [Ah (f:=V.cS8) (kk:=1) (cs:=Value.cells (⟨none,0,0⟩:Sl).enc) V.gO (by omega) (x:=(⟨none,0,0⟩:Sl)) rfl ps.length,List.map_const',List.length_range]
  rw [← this];exact w5
 -- the shards,asked
 have asks:∀ (M:Nat->Sl) (hh:H),Ext h hh->aU hh ⟨some ⟨b,0,none⟩,ps.length,ps.length⟩ dw 1 (((List.range ps.length).map M).flatMap V.cS8)->(∀ j,j<ps.length->aU hh (M j) aJ 3 ((i6 ps.length j L).flatMap ae.cells)) ->
   ∀ (d j:Nat) (h2:H),j<=ps.length->ps.length-j<d->Ext hh h2->(∀ i,i<j->tG ps.length S slots e L i=true)->F.xbs.l2 Q d (some ⟨p,0,none⟩) e ⟨some ⟨b,0,none⟩,ps.length,ps.length⟩ (ps.length:Int) (j:Int) h2:=fun M hh eh w om d=>by
  induction d with
  | zero=>intro j _ _ hm;omega
  | succ d ih =>
   intro j h2 hj hm e2 hyes
   unfold F.xbs.l2
   refine ⟨fun g=>?_,fun g=>?_⟩
   ·have g:=of_decide_eq_true g
    refine Dk (w.ext e2).reads (V.u7 M (by omega)) ?_
    have t2:=t1.ext (eh.trans e2)
    simp only [aZ,aC,Nat.add_zero]
    obtain ⟨q,hq⟩:∃ q,ps[j]?=some q:=⟨_,List.getElem?_eq_getElem (by omega)⟩
    obtain ⟨R0,sh⟩:=t2.sh hq
    have hcl:=na (n:=ps.length) (k:=j) L
    refine t2.ldl (t2.at hq (xN sh ((om j (by omega)).ext e2).reads (by omega) fun h46 e46=>?_))
    have hd:decide ((aR (bR ps.length j S):Int)+fY (bR ps.length j S) e (i6 ps.length j L)<=slots)=tG ps.length S slots e L j:=rfl
    rw [hd]
    cases hf:tG ps.length S slots e L j with
    | false =>
     refine ⟨fun _=>?_,fun g=>(by cases g)⟩
     have:=k h46 ((eh.trans e2).trans e46)
     rw [xi (by omega) hf] at this;exact this
    | true =>
     refine ⟨fun g=>(by cases g),fun _=>?_⟩
     rw [w64 (by omega) (by omega)]
     exact ih (j+1) h46 (by omega) (by omega) (e2.trans e46) fun i hi=>by
      by_cases hij:i=j
      ·rw [hij];exact hf
      ·exact hyes i (by omega)
   ·have g:=of_decide_eq_false g
    have:=k h2 (eh.trans e2)
    rw [uD fun i hi=>hyes i (by omega)] at this;exact this
 -- the cells,by their shards
 have cells:∀ (d i:Nat) (hh:H) (M:Nat->Sl),i<=L.length->L.length-i<d->Ext h hh->aU hh ⟨some ⟨b,0,none⟩,ps.length,ps.length⟩ dw 1 (((List.range ps.length).map M).flatMap V.cS8)->GW ae.cells 3 aJ ps.length h hh (fun _=>⟨none,0,0⟩) M (fun _=>[]) (fun j=>i6 ps.length j (L.take i)) ->
   F.xbs.l1 Q d (some ⟨p,0,none⟩) e ⟨some ⟨b,0,none⟩,ps.length,ps.length⟩ s (L.length:Int) (i:Int) hh:=by
  intro d
  induction d with
  | zero=>intro i _ _ _ hm;omega
  | succ d ih =>
   intro i hh M hi hm eh w g
   unfold F.xbs.l1
   refine ⟨fun gg=>?_,fun gg=>?_⟩
   ·have gg:=of_decide_eq_true gg
    obtain ⟨c,hc⟩:∃ c,L[i]?=some c:=⟨_,List.getElem?_eq_getElem (by omega)⟩
    have hkc:=hk c (List.mem_of_getElem? hc)
    refine gP (rd.ext eh) hc fun a ca=>⟨c,ca,aN fun m h12 hm12 b12 e12 s12=>?_⟩
    have b12':Blk h12 m fO.cells.toArray aJ:=b12
    refine ri b12' (d:=c) fun h14 b14 o14 s14=>?_
    have x14:Ext hh h14:=e12.step o14 fun x hx g=>by omega
    have c14:=Blk.cells b14
    have c15:aA h14 ⟨m,1,none⟩=some (.string c.Key):=c14 1 _ rfl
    simp only [aC,Nat.zero_add]
    refine jU c15 (ql (t1.ext (eh.trans x14)) hkc fun h17 e17=>?_)
    have hr:=po (show 0<ps.length by omega) c
    generalize hrd:rt ps.length c=r at hr
    have x17:=x14.trans e17
    have w17:=w.ext x17
    refine Dj w17.reads (V.u7 M hr) fun a19 ca19=>(bj ca19).2 ⟨c,c14.ext e17,dT fun m26 h25 hm25 b25 e25 s25=>⟨e25.cell ca19 fun f=>f,?_⟩⟩
    have r25:bS h25 ⟨some ⟨m26,0,none⟩,1,1⟩ 3 ([c].flatMap ae.cells):=dB (by simpa using b25) rfl
    have x25:=x17.trans e25
    have g25:=g.ext x25
    have om:=g25.om r hr
    have hol:=bH dr (by omega) om
    have hcl:=na (n:=ps.length) (k:=r) (L.take i)
    have htl:(L.take i).length<=L.length:=List.length_take_le' _ _
    refine A5 ef om r25 (fun v hv=>bz c v (by simpa using hv)) (by show ((M r).len+1+((M r).len+1) / 4+256)*_<=_;omega) fun s29 h28 w29 l29 o29=>?_
    have w29':aU h28 s29 aJ 3 ((i6 ps.length r (L.take i) ++ [c]).flatMap ae.cells):=by rw [List.flatMap_append];exact w29
    have g28:=g25.app dr (by omega) (L:=[c]) hr w29' o29
    have mb:∀ x,(M r).blk=some x->h.size<=x:=fun x hx=>(g25.new r hr x hx).elim (fun g=>by simp [Sl.blk] at g) id
    have x28:Ext h h28:=o29.elim (fun g=>(eh.trans x25).step g.2.2 fun x hx hb=>by have:=mb x hb;omega) fun ⟨_,_,_,g⟩=>(eh.trans x25).trans g
    have w28:aU h28 ⟨some ⟨b,0,none⟩,ps.length,ps.length⟩ dw 1 (((List.range ps.length).map M).flatMap V.cS8):=o29.elim (fun g=>V.ie (w17.ext e25) g.2.2 om (by decide)) fun ⟨_,_,_,g⟩=>(w17.ext e25).ext g
    refine V.mN (f:=V.cS8) (x:=s29) V.gO (by omega) w28 (i:=r) (by simpa using hr) fun h32 w32 o32=>?_
    rw [BD M s29 hr] at w32
    rw [w64 (by omega) (by omega)]
    have hmine:dL h (⟨some ⟨b,0,none⟩,ps.length,ps.length⟩:Sl):=fun x hx=>by simp [Sl.blk] at hx;omega
    refine ih (i+1) h32 (rM M r s29) (by omega) (by omega) (x28.mine hmine o32) w32 ?_
    have g32:=g28.oth o32 w28 (by decide) hmine
    have hD:rM (fun j=>i6 ps.length j (L.take i)) r (i6 ps.length r (L.take i) ++ [c])=fun j=>i6 ps.length j (L.take (i+1)):=by
     funext j
     rw [rY hc]
     by_cases hj:j=r
     ·subst hj;rw [dQ,if_pos hrd]
     ·rw [eR _ _ hj,if_neg (by omega),List.append_nil]
    rw [← hD]
    exact g32
   ·have gg:=of_decide_eq_false gg
    have hin:i=L.length:=by omega
    subst hin
    have om:=g.om
    rw [List.take_length] at om
    exact ⟨ps.length+1,asks M hh eh w om _ 0 hh (by omega) (by omega) (.refl _) fun i hi=>by omega⟩
 rw [hlen]
 have nilO:∀ i,i<ps.length->aU h5 (⟨none,0,0⟩:Sl) aJ 3 (([]:List Cel).flatMap ae.cells):=fun _ _=>by simpa using aU.nil h5 aJ 3
 refine cells _ 0 h5 (fun _=>⟨none,0,0⟩) (by omega) (by omega) e5 w5' ?_
 have:=GW.of (A:=fun _:Nat=>(⟨none,0,0⟩:Sl)) (T:=fun _:Nat=>([]:List Cel)) (n:=ps.length) ⟨nilO,fun i j _ _ _ b hb=>by simp [Sl.blk] at hb,(Ext.only e5)⟩
 exact this
theorem DA {h:H}{d:Nat}{l:Sl}{ds:List Nat}{S:SL}{slots:Nat}{e:Int}{s:Sl}{L:List Cel}{Q:Bool->H->Prop}(z:DS h d l ds S slots) (a:AOk ds.length S slots) (he:0<=e) (rd:bS h s 3 (L.flatMap ae.cells)) (hL:L.length<=1000) (hk:∀ c∈L,gH c)
  (k:∀ h',Ext h h'->Q (sf ds.length S slots e L) h'):F.xap (some ⟨d,0,none⟩) e s h Q:=by
 unfold F.xap
 have n1:=a.n1
 have n16:=a.n2
 have hlen:=cz dr (by omega) rd
 have shards:∀ (f j:Nat) (hh:H),j<=ds.length->ds.length-j<f->Ext h hh->(∀ i,i<j->tG ds.length S slots e L i=true)->F.xap.l1 Q f (some ⟨d,0,none⟩) e s (j:Int) hh:=by
  intro f
  induction f with
  | zero=>intro j _ _ hm;omega
  | succ f ih =>
   intro j hh hj hm eh hyes
   unfold F.xap.l1
   have zz:=z.ext eh
   simp only [aZ,aC,Nat.add_zero]
   refine zz.ldl ?_
   rw [z.len]
   refine ⟨fun g=>⟨L.length+1,?_⟩,fun g=>?_⟩
   ·have g:=of_decide_eq_true g
    have cells:∀ (f2 i:Nat) (h2:H) (s8:Sl),i<=L.length->L.length-i<f2->Ext hh h2->aU h2 s8 aJ 3 ((i6 ds.length j (L.take i)).flatMap ae.cells)->dL hh s8->F.xap.l2 Q (F.xap.l1 Q f) f2 (some ⟨d,0,none⟩) e s (j:Int) s8 (i:Int) h2:=by
     intro f2
     induction f2 with
     | zero=>intro i _ _ _ hm;omega
     | succ f2 ih2 =>
      intro i h2 s8 hi hm2 e2 w m8
      unfold F.xap.l2
      rw [hlen]
      refine ⟨fun gg=>?_,fun gg=>?_⟩
      ·have gg:=of_decide_eq_true gg
       obtain ⟨c,hc⟩:∃ c,L[i]?=some c:=⟨_,List.getElem?_eq_getElem (by omega)⟩
       have hkc:=hk c (List.mem_of_getElem? hc)
       refine gP (rd.ext (eh.trans e2)) hc fun a1 ca=>jU (Bc ca) (vv (zz.ext e2) a.pos n16 hkc ?_)
       have hsn:=rY (n:=ds.length) (k:=j) hc
       have next:∀ (s9:Sl) (h3:H),Ext hh h3->aU h3 s9 aJ 3 ((i6 ds.length j (L.take (i+1))).flatMap ae.cells)->dL hh s9->F.xap.j3 Q (F.xap.l1 Q f) (F.xap.l2 Q (F.xap.l1 Q f) f2) (some ⟨d,0,none⟩) e s (j:Int) s9 (i:Int) h3:=fun s9 h3 e3 w3 m9=>by
        unfold F.xap.j3
        rw [w64 (by omega) (by omega)]
        exact ih2 (i+1) h3 s9 (by omega) (by omega) e3 w3 m9
       refine ⟨fun g3=>?_,fun g3=>?_⟩
       ·have g3:rt ds.length c=j:=by have:=of_decide_eq_true (p:=((rt ds.length c:Nat):Int)=(j:Int)) (by simpa using g3);omega
        rw [if_pos g3] at hsn
        refine gP (rd.ext (eh.trans e2)) hc fun a2 ca2=>⟨c,ca2,dT fun m26 h18 hm18 b18 e18 s18=>?_⟩
        have r18:bS h18 ⟨some ⟨m26,0,none⟩,1,1⟩ 3 ([c].flatMap ae.cells):=dB (by simpa using b18) rfl
        have hcl:=na (n:=ds.length) (k:=j) (L.take i)
        have htl:(L.take i).length<=L.length:=List.length_take_le' _ _
        refine fJ (h0:=hh) (L:=i6 ds.length j (L.take i)) (M:=[c]) (e2.trans e18) m8 dr (by omega) ef (w.ext e18) r18 (fun x=>bz x) (by simp only [List.length_singleton];omega) fun s21 h20 w20 e20 m20 _ _=>?_
        exact next s21 h20 e20 (by rw [hsn];exact w20) m20
       ·have g3:¬ rt ds.length c=j:=fun e=>by rw [e] at g3;simp at g3
        rw [if_neg g3,List.append_nil] at hsn
        exact next s8 h2 e2 (by rw [hsn];exact w) m8
      ·have gg:=of_decide_eq_false gg
       have hin:i=L.length:=by omega
       subst hin
       rw [List.take_length] at w
       have z2:=zz.ext e2
       simp only [aZ,aC,Nat.add_zero]
       refine z2.ldl ?_
       obtain ⟨q,hq⟩:∃ q,ds[j]?=some q:=⟨_,List.getElem?_eq_getElem (by omega)⟩
       obtain ⟨y,Z,hZ,zq,hok,hu,hZl⟩:=z2.dz a hq
       have hcl:=na (n:=ds.length) (k:=j) L
       refine z2.at hq (vw zq hok hu a.sl he w.reads (by omega) fun h30 e30=>?_)
       rw [hZ]
       have hd:decide ((aR (bR ds.length j S):Int)+fY (bR ds.length j S) e (i6 ds.length j L)<=slots)=tG ds.length S slots e L j:=rfl
       rw [hd]
       have x30:=(eh.trans e2).trans e30
       cases hf:tG ds.length S slots e L j with
       | false =>
        refine ⟨fun _=>?_,fun g=>(by cases g)⟩
        have:=k h30 x30
        rw [xi (by omega) hf] at this;exact this
       | true =>
        refine ⟨fun g=>(by cases g),fun _=>?_⟩
        rw [w64 (by omega) (by omega)]
        exact ih (j+1) h30 (by omega) (by omega) x30 fun i hi=>by
         by_cases hij:i=j
         ·rw [hij];exact hf
         ·exact hyes i (by omega)
    exact cells _ 0 hh ⟨none,0,0⟩ (by omega) (by omega) (.refl _) (by simpa using aU.nil hh aJ 3) fun y hy=>by simp [Sl.blk] at hy
   ·have g:=of_decide_eq_false g
    have:=k hh eh
    rw [uD fun i hi=>hyes i (by omega)] at this;exact this
 exact ⟨ds.length+1,shards _ 0 h (by omega) (by omega) (.refl _) fun i hi=>by omega⟩
end Go.Proofs.YtjjchpaomgmmdaaGreat.V.S
