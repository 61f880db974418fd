/- Parts of the proof of StorePlays; no condition. -/
import Derived.ChangeMaps5
import Derived.Laws.Externs
import Derived.Laws.IdiomStrings
import Derived.Laws.LoneSync
import Derived.Laws.StructEq
import Derived.Lib.Bytealg
import Derived.LoopNIn
import Derived.MapKept
import Derived.Maps.RangeRun
import Derived.OrdersIn
import Derived.RangeFuncLeaves
import Derived.RangeFuncNested
import Derived.RangeFuncRecord
import Derived.TacticsIn
import Derived.Test.YtjjchpaomgmmdaaGreatProg
import Derived.WalkKit
namespace Go.Proofs.YtjjchpaomgmmdaaGreat.V
open Go
set_option linter.unusedVariables false
abbrev ZA:=@Tryz.sizeOf35
abbrev ZB:=@Tryz.isAgg35
abbrev ZC:=@Tryz.isAgg3
abbrev ZD:=@Tryz.sizeOf40
abbrev ZE:=@Tryz.isAgg2
abbrev ZF:=@Tryz.runUnderlying148
abbrev ZG:=@Tryz.runUnderlying46
abbrev ZH:=@Tryz.runUnderlying35
abbrev ZI:=@Tryz.runUnderlying44
abbrev ZJ:=@Tryz.sizeOf208
abbrev ZK:=@Tryz.isAgg40
abbrev ZL:=@Tryz.runUnderlying41
abbrev ZM:=@Tryz.runUnderlying40
abbrev ZN:=@Tryz.isAgg146
abbrev ZO:=@Tryz.runUnderlying191
abbrev ZP:=@Tryz.isAgg9
abbrev ZQ:=@Tryz.sizeOf3
abbrev ZR:=@Tryz.runUnderlying146
abbrev ZS:=@Tryz.runUnderlying208
abbrev ZT:=@Tryz.sizeOf156
abbrev ZU:=@Tryz.runUnderlying74
abbrev ZV:=@Tryz.isAgg90
abbrev ZW:=@Tryz.runUnderlying51
abbrev ZX:=@Tryz.runUnderlying139
abbrev ZY:=@Tryz.runUnderlying42
abbrev ZZ:=@Tryz.sizeOf49
abbrev Za:=@Tryz.isAgg208
abbrev Zb:=@Tryz.runUnderlying9
abbrev Zc:=@Tryz.runUnderlying162
abbrev Zd:=@Tryz.sizeOf101
abbrev Ze:=@Tryz.isAgg137
abbrev Zf:=@Tryz.runUnderlying137
abbrev Zg:=@Tryz.runUnderlying86
abbrev Zh:=@Tryz.sizeOf152
abbrev Zj:=@Tryz.isAgg4
abbrev Zk:=@Tryz.isAgg84
abbrev Zl:=@Tryz.runUnderlying90
abbrev Zm:=@Tryz.runUnderlying84
abbrev Zo:=@Tryz.zeroValue40
abbrev Zp:=@Tryz.runUnderlying164
abbrev Zq:=@Tryz.runUnderlying49
abbrev Zr:=@Tryz.runUnderlying71
abbrev Zs:=@Tryz.runUnderlying99
abbrev Zt:=@Tryz.sizeOf196
abbrev Zu:=@Tryz.isAgg162
abbrev Zv:=@Tryz.isAgg99
abbrev Zw:=@Tryz.runUnderlying81
abbrev Zx:=@Tryz.runUnderlying156
abbrev Zy:=@Tryz.sizeOf200
abbrev Zz:=@Tryz.zeroValue208
abbrev Z0:=@Tryz.runUnderlying83
abbrev Z1:=@Tryz.sizeOf170
abbrev Z2:=@Tryz.sizeOf4
abbrev Z3:=@Tryz.isAgg81
abbrev Z4:=@Tryz.runUnderlying200
abbrev Z5:=@Tryz.runUnderlying196
abbrev Z6:=@Tryz.call146
abbrev Z7:=@Tryz.runUnderlying3
abbrev Z8:=@Tryz.runUnderlying152
abbrev Z9:=@Tryz.runUnderlying170
abbrev ZBA:=@Tryz.runUnderlying2
abbrev ZBB:=@Tryz.isAgg51
abbrev ZBC:=@Tryz.runUnderlying101
abbrev ZBD:=@Tryz.sizeOf87
abbrev ZBE:=@Tryz.isAgg87
abbrev ZBF:=@Tryz.underlying9
abbrev ZBG:=@Tryz.sizeOf64
abbrev ZBH:=@Tryz.isAgg64
abbrev ZBI:=@Tryz.call104
abbrev ZBJ:=@Tryz.isAgg49
abbrev ZBK:=@Tryz.isAgg42
abbrev ZBL:=@Tryz.isAgg191
abbrev ZBM:=@Tryz.underlying3
abbrev ZBN:=@Tryz.isAgg152
abbrev ZBO:=@Tryz.zeroValue170
abbrev ZBP:=@Tryz.zeroValue35
abbrev ZBQ:=@Tryz.underlying4
abbrev ZBR:=@Tryz.runUnderlying5
abbrev ZBS:=@Tryz.runUnderlying165
abbrev ZBT:=@Tryz.underlying5
abbrev ZBU:=@Tryz.underlying2
abbrev ZBV:=@Tryz.runUnderlying22
abbrev ZBW:=@Tryz.runUnderlying180
abbrev H:=Array Obj
abbrev Fz (rd:Option Nat):Fence:={ Fence.wide with round:=rd }
theorem ob {α:Type}:∀ (a:Ask α) (w:World),w.drawn<=(w.ask a).2.drawn
 | .done a,w=>by unfold World.ask;exact Nat.le_refl _
 | .ask what range k,w=>by
  unfold World.ask
  simp only
  split
  ·exact ob (k 0) w
  ·exact Nat.le_trans (Nat.le_succ _) (ob (k _) { w with drawn:=w.drawn+1 })
theorem yU (w:World) (c:Sys):w.drawn<=(w.sys c).2.drawn:=by
 have:=ob (Kernel.perform c w.os) w
 unfold World.sys
 split
 ·exact Nat.le_refl _
 ·rename_i h;rw [h] at this;exact this
theorem wP {p:Program}{w w1:World}{at_:Addr}{u:TypeId}{k:Addr}{v:Value}{b:Bool}{l:List Addr}(h:w.viewStore p at_ u k v b=.ok (w1,l)):w1.drawn=w.drawn:=by
 unfold World.viewStore at h
 simp only [bind,Except.bind,pure,Except.pure] at h
 repeat' split at h
 all_goals first | (cases h;rfl) | cases h
theorem yo {p:Program}{w w1:World}{a:Addr}{v:Value}{b:Bool}{l:List Addr}(h:w.farStore p a v b=.ok (w1,l)):w1.drawn=w.drawn:=by
 unfold World.farStore at h
 split at h
 ·split at h
  ·rename_i hv;cases h;exact wP hv
  ·cases h
 ·cases h
theorem dg {α:Type}{p:Program}:∀ (s:Sem α){w w':World}{v:α},s.run p w=.ok v w'->w.drawn<=w'.drawn
 | .pure a,w,w',v,h=>by unfold Sem.run at h;cases h;exact Nat.le_refl _
 | .load m a k,w,w',v,h=>by
  unfold Sem.run at h
  split at h
  ·exact dg (k _) h
  ·split at h
   ·exact dg (k _) h
   ·cases h
 | .store m a x k,w,w',v,h=>by
  cases x
  case agg c=>simp [Sem.run] at h
  case tuple c=>simp [Sem.run] at h
  all_goals
   simp only [Sem.run] at h
   split at h
   ·split at h
    ·cases h
    ·have:=dg k h;exact this
   ·split at h
    ·rename_i hf;have:=dg k h;rw [← yo hf];exact this
    ·cases h
 | .new o k,w,w',v,h=>by unfold Sem.run at h;have:=dg (k _) h;exact this
 | .shape r k,w,w',v,h=>by unfold Sem.run at h;exact dg (k _) h
 | .freeze a n k,w,w',v,h=>by
  unfold Sem.run at h
  have:=dg k h
  unfold World.freeze at this
  split at this <;> exact this
 | .frozen a k,w,w',v,h=>by unfold Sem.run at h;exact dg (k _) h
 | .getObj r k,w,w',v,h=>by
  unfold Sem.run at h
  split at h
  ·cases h
  ·exact dg (k _) h
  ·cases h
 | .setObj r o k,w,w',v,h=>by
  unfold Sem.run at h
  split at h
  ·cases h
  ·have:=dg k h;exact this
  ·cases h
 | .choose q k,w,w',v,h=>by
  unfold Sem.run at h
  split at h
  ·exact dg (k _) h
  ·have:=dg (k _) h;exact Nat.le_trans (Nat.le_succ _) this
 | .sys c k,w,w',v,h=>by unfold Sem.run at h;exact Nat.le_trans (yU w c) (dg (k _) h)
 | .program k,w,w',v,h=>by unfold Sem.run at h;exact dg (k p) h
 | .mark m k,w,w',v,h=>by unfold Sem.run at h;exact dg k h
 | .halt x,w,w',v,h=>by unfold Sem.run at h;cases h
structure eJ (w0 w:World):Prop where
 os:w.os=w0.os
 tape:w.tape=w0.tape
 output:w.output=w0.output
 drawn:w0.drawn<=w.drawn
theorem eJ.refl (w:World):eJ w w:=⟨rfl,rfl,rfl,by first | exact Nat.le_refl _ | exact Nat.le_succ _ | exact Nat.le_add_right _ _⟩
theorem eJ.trans {a b c:World}(h:eJ a b) (k:eJ b c):eJ a c:=⟨k.os.trans h.os,k.tape.trans h.tape,k.output.trans h.output,Nat.le_trans h.drawn k.drawn⟩
def aA (h:H) (a:Addr):Option Value:=
 match h[a.block]? with
 | some (.cells c _ _)=>if a.spot.isSome then none else c[a.off]?
 | _=>none
def je (h:H) (a:Addr):Bool:=
 match h[a.block]? with
 | some (.cells _ _ (lo,hi))=>lo<=a.off && a.off<hi
 | _=>false
def oR (h:H) (a:Addr) (v:Value):H:=
 h.modify a.block fun
  | .cells c elem frozen=>.cells (if a.spot.isSome then c else c.setIfInBounds a.off v) elem frozen
  | o=>o
def Fn (P:Program) (f:FuncId) (args:Array Value) (h:H) (Q:Value->H->Prop):Prop:=
 ∀ w:World,w.heap=h->CallsIn Fence.wide 0 P f args w fun e w'=>∃ r,e=.returned r∧eJ w w'∧Q r w'.heap
theorem Fn.mono {P:Program}{f:FuncId}{args:Array Value}{h:H}{Q Q':Value->H->Prop}(hf:Fn P f args h Q) (hq:∀ r h',Q r h'->Q' r h'):Fn P f args h Q':=
 fun w hw=>CallsIn.mono (hf w hw) fun _ _ ⟨r,he,hl,q⟩=>⟨r,he,hl,hq _ _ q⟩
def lk:List (Nat×Value)->Nat->Option Value
 | [],_=>none
 | p :: r,t=>match Nat.beq p.1 t with
  | true=>some p.2
  | false=>lk r t
theorem md (k:Nat) (v:Value) (r:List (Nat×Value)) (t:Nat):lk ((k,v) :: r) t=if k=t then some v else lk r t:=by
 show (match Nat.beq k t with
  | true=>some v
  | false=>lk r t)=_
 by_cases h:k=t
 ·subst h;rw [show Nat.beq k k=true from Nat.beq_refl k];simp
 ·have:Nat.beq k t=false:=by
   cases hb:Nat.beq k t
   ·rfl
   ·exact absurd (Nat.eq_of_beq_eq_true hb) h
  rw [this];simp [h]
def evL (L:List (Nat×Value)):Operand->Option Value
 | .tmp t=>lk L t
 | .const v=>some v
 | .global g=>some (.pointer (some ⟨g,0,none⟩))
 | .func f=>some (.func (.func f) #[] #[])
def Ag (a:Act) (L:List (Nat×Value)):Prop:=∀ t v,lk L t=some v->a.tmps.getD t undef=v
structure Frm (a:Act) (N:Nat) (D:List Deferred) (L:List (Nat×Value)):Prop where
 size:a.tmps.size=N
 defers:a.defers=D
 get:Ag a L
theorem Ag.ev {a:Act}{L:List (Nat×Value)}(h:Ag a L){x:Operand}{v:Value}(hx:evL L x=some v):a.eval x=v:=by
 cases x <;> simp only [evL] at hx
 ·exact h _ _ hx
 all_goals (simp at hx;subst hx;rfl)
theorem Frm.put {a:Act}{N:Nat}{D:List Deferred}{L:List (Nat×Value)}(h:Frm a N D L){d:Nat}(hd:d<N) (v:Value):Frm (a.put (some d) v) N D ((d,v) :: L):=by
 refine ⟨by simp [Act.put,h.size],h.defers,fun t u hu=>?_⟩
 rw [md] at hu
 have hs:=h.size
 by_cases e:d=t
 ·subst e
  simp at hu;subst hu
  simp [Act.put,show d<a.tmps.size by omega]
 ·simp [e] at hu
  have:=h.get t u hu
  simpa [Act.put,Array.getElem?_setIfInBounds_ne e] using this
def vE:List (Nat×Value)->List (Nat×Value)->Prop
 | [],_=>True
 | p :: r,L=>lk L p.1=some p.2∧vE r L
theorem vE.lk {L' L:List (Nat×Value)}(h:vE L' L):∀ t v,V.lk L' t=some v->V.lk L t=some v:=by
 induction L' with
 | nil=>intro t v h;simp [V.lk] at h
 | cons p r ih =>
  obtain ⟨k,u⟩:=p
  intro t v hv
  rw [md] at hv
  by_cases e:k=t
  ·subst e;simp at hv;subst hv;exact h.1
  ·simp [e] at hv;exact ih h.2 t v hv
theorem Frm.sub {a:Act}{N:Nat}{D:List Deferred}{L L':List (Nat×Value)}(h:Frm a N D L) (hs:vE L' L):Frm a N D L':=⟨h.size,h.defers,fun t v hv=>h.get t v (hs.lk t v hv)⟩
def Tr (w0:World) (N:Nat) (D:List Deferred) (L:List (Nat×Value)) (h:H) (X:Act->World->Prop):Prop:=
 ∀ a w,Frm a N D L->w.heap=h->eJ w0 w->X a w
section
variable {w0:World}{N:Nat}{D:List Deferred}{L:List (Nat×Value)}{h:H}{P:Program}{rd:Option Nat}{Q:Exit->Act->World->Prop}
theorem az {X:Act->World->Prop}(L':List (Nat×Value)) (hs:vE L' L) (k:Tr w0 N D L' h X):Tr w0 N D L h X:=fun a w ha hw hl=>k a w (ha.sub hs) hw hl
theorem aj {x y:Code}(k:Tr w0 N D L h (x.wpIn (Fz rd) 0 P (Exit.then (y.wpIn (Fz rd) 0 P Q) Q))):Tr w0 N D L h ((Code.seq x y).wpIn (Fz rd) 0 P Q):=
 fun a w ha hw hl=>wpIn_seq (k a w ha hw hl)
theorem au (k:Tr w0 N D L h (Q .normal)):Tr w0 N D L h (Code.skip.wpIn (Fz rd) 0 P Q):=fun a w ha hw hl=>wpIn_skip (k a w ha hw hl)
theorem bC {id:Nat}(k:Tr w0 N D L h (Q (.exit id))):Tr w0 N D L h ((Code.exit id).wpIn (Fz rd) 0 P Q):=fun a w ha hw hl=>wpIn_exit (k a w ha hw hl)
theorem al (k:Tr w0 N D L h (Q .ret)):Tr w0 N D L h (Code.ret.wpIn (Fz rd) 0 P Q):=fun a w ha hw hl=>wpIn_ret (k a w ha hw hl)
theorem aB {id:Nat}{c:Code}(k:Tr w0 N D L h (c.wpIn (Fz rd) 0 P (Exit.inBlock id Q))):Tr w0 N D L h ((Code.block id c).wpIn (Fz rd) 0 P Q):=fun a w ha hw hl=>wpIn_block (k a w ha hw hl)
theorem bV {id:Nat}(k:Tr w0 N D L h (Q .normal)):Tr w0 N D L h (Exit.inBlock id Q (.exit id)):=fun a w ha hw hl=>by
 simp only [Exit.inBlock,if_true];exact k a w ha hw hl
theorem nT {id id':Nat}(hne:Nat.beq id' id=false) (k:Tr w0 N D L h (Q (.exit id'))):Tr w0 N D L h (Exit.inBlock id Q (.exit id')):=fun a w ha hw hl=>by
 have:id'≠id:=fun e=>by subst e;simp at hne
 simp only [Exit.inBlock,this,if_false];exact k a w ha hw hl
theorem am {c:Operand}{x y:Code}{t:Bool}(hc:evL L c=some (.bool t)) (k:t=true->Tr w0 N D L h (x.wpIn (Fz rd) 0 P Q)) (k':t=false->Tr w0 N D L h (y.wpIn (Fz rd) 0 P Q)) :
  Tr w0 N D L h ((Code.cond c x y).wpIn (Fz rd) 0 P Q):=fun a w ha hw hl =>
 wpIn_cond_split (ha.get.ev hc) (fun e=>k e a w ha hw hl) (fun e=>k' e a w ha hw hl)
theorem xJ {c:Code}(m:Nat) (k:Tr w0 N D L h (Code.roundsIn (Fz rd) 0 P c Q m)):Tr w0 N D L h ((Code.loop c).wpIn (Fz rd) 0 P Q):=fun a w ha hw hl=>wpIn_loop_rounds m (k a w ha hw hl)
theorem ai {id:Nat}{l:List Oper}(k:Tr w0 N D L h (wpListIn (Fz rd) 0 P l.toArray Q l)):Tr w0 N D L h ((Code.region id l.toArray false).wpIn (Fz rd) 0 P Q):=
 fun a w ha hw hl=>wpIn_region_lit (k a w ha hw hl)
theorem aT {X:Act->World->Prop}{t:Nat}{b:Bool}(hv:lk L t=some (.bool b)) (k1:b=true->Tr w0 N D ((t,.bool true) :: L) h X) (k0:b=false->Tr w0 N D ((t,.bool false) :: L) h X):Tr w0 N D L h X:=fun a w ha hh hl=>by
 have fr:∀ c,b=c->Frm a N D ((t,.bool c) :: L):=fun c e=>⟨ha.size,ha.defers,fun u v hu=>by
  rw [md] at hu
  by_cases e':t=u
  ·subst e';simp at hu;subst hu;rw [ha.get _ _ hv,e]
  ·simp [e'] at hu;exact ha.get u v hu⟩
 cases hb:b with
 | true=>exact k1 hb a w (fr true hb) hh hl
 | false=>exact k0 hb a w (fr false hb) hh hl
def zj (w0:World) (N:Nat) (D:List Deferred) (I:List (Nat×Value)->H->Prop):Act->World->Prop:=fun a w=>∃ L,Frm a N D L∧eJ w0 w∧I L w.heap
theorem ah {I:List (Nat×Value)->H->Prop}(L':List (Nat×Value)) (hs:vE L' L) (k:I L' h):Tr w0 N D L h (zj w0 N D I):=fun a w ha hh hl=>⟨L',ha.sub hs,hl,hh ▸ k⟩
theorem aG {x y:Code}(I:List (Nat×Value)->H->Prop) (hj:∀ L' h',I L' h'->Tr w0 N D L' h' (y.wpIn (Fz rd) 0 P Q)) (k:Tr w0 N D L h (x.wpIn (Fz rd) 0 P (Exit.then (zj w0 N D I) Q))):Tr w0 N D L h ((Code.seq x y).wpIn (Fz rd) 0 P Q):=
 fun a w ha hh hl=>wpIn_seq (wpIn_mono (k a w ha hh hl) fun e a' w' q=>by
  cases e with
  | normal=>obtain ⟨L',hf,hk,hi⟩:=q;exact hj L' _ hi a' w' hf rfl hk
  | _=>exact q)
theorem aY {c:Code}(I:Nat->List (Nat×Value)->H->Prop) (h0:∀ L' h',¬ I 0 L' h') (hs:∀ m L' h',I (m+1) L' h'->Tr w0 N D L' h' (c.wpIn (Fz rd) 0 P (Exit.then (zj w0 N D (I m)) Q)))
  (m:Nat) (k:I m L h):Tr w0 N D L h ((Code.loop c).wpIn (Fz rd) 0 P Q):=xJ m (by
 induction m generalizing L h with
 | zero=>exact absurd k (h0 _ _)
 | succ m ih =>
  intro a w ha hh hl
  refine wpIn_mono (hs m L h k a w ha hh hl) fun e a' w' q=>?_
  cases e with
  | normal=>obtain ⟨L',hf,hk,hi⟩:=q;exact ih hi a' w' hf rfl hk
  | _=>exact q)
theorem aa {K:Act->World->Prop}(k:Tr w0 N D L h K):Tr w0 N D L h (Exit.then K Q .normal):=k
theorem aF {K:Act->World->Prop}{id:Nat}(k:Tr w0 N D L h (Q (.exit id))):Tr w0 N D L h (Exit.then K Q (.exit id)):=k
theorem aq {K:Act->World->Prop}(k:Tr w0 N D L h (Q .ret)):Tr w0 N D L h (Exit.then K Q .ret):=k
theorem aI {id:Nat}(k:Tr w0 N D L h (Q .normal)):Tr w0 N D L h (Exit.inBlock id Q .normal):=k
theorem aS {id:Nat}(k:Tr w0 N D L h (Q .ret)):Tr w0 N D L h (Exit.inBlock id Q .ret):=k
theorem bo {ops:Array Oper}(k:Tr w0 N D L h (Q .normal)):Tr w0 N D L h (wpListIn (Fz rd) 0 P ops Q []):=k
theorem nt {ops:Array Oper}{K:Act->World->Prop}(k:Tr w0 N D L h K):Tr w0 N D L h (wpListIn (Fz rd) 0 P ops (Exit.then K Q) []):=bo (aa k)
theorem sr {id:Nat}{l:List Oper}{y:Code}(k:Tr w0 N D L h (wpListIn (Fz rd) 0 P l.toArray (Exit.then (y.wpIn (Fz rd) 0 P Q) Q) l)):Tr w0 N D L h ((Code.seq (Code.region id l.toArray false) y).wpIn (Fz rd) 0 P Q):=aj (ai k)
end
def fa (rd:Option Nat) (P:Program) (o:Oper) (ρ:Operand->Value) (w:World) (K:Value->World->Prop):Prop:=
 match (o.semAt rd ρ).run P w with
 | .ok (.value v) w'=>K v w'
 | .ok .skip w'=>K undef w'
 | .ok (.enter f args) w'=>CallsIn Fence.wide 0 P f args w' fun e w''=>∃ v,e=.returned v∧K v w''
 | .ok (.row row args) w'=>RowsIn Fence.wide 0 P row args w' K
 | .ok (.round l f tmps assign body) w'=>RoundIn Fence.wide 0 P l f tmps assign body w' fun e w''=>∃ v,e=.returned v∧K v w''
 | _=>False
theorem fa.mono {rd:Option Nat}{P:Program}{o:Oper}{ρ:Operand->Value}{w:World}{K K':Value->World->Prop}(h:fa rd P o ρ w K) (hk:∀ v w,K v w->K' v w):fa rd P o ρ w K':=by
 unfold fa at *
 split at h
 ·exact hk _ _ h
 ·exact hk _ _ h
 ·exact CallsIn.mono h fun _ _ ⟨v,he,k⟩=>⟨v,he,hk _ _ k⟩
 ·exact RowsIn.mono h hk
 ·exact RoundIn.mono h fun _ _ ⟨v,he,k⟩=>⟨v,he,hk _ _ k⟩
 ·exact h.elim
theorem fa.wp {rd:Option Nat}{P:Program}{o:Oper}{a:Act}{w:World}{Q:Exit->Act->World->Prop}{next:Act->World->Prop}
  (h:fa rd P o a.eval w fun v w'=>next (a.put o.dst v) w'):o.wpIn (Fz rd) 0 P a w next Q:=by
 unfold fa at h
 refine ⟨fun _ _=>trivial,?_⟩
 show Oper.uponIn (Fz rd) 0 P o a next Q ((o.semAt rd a.eval).run P w)
 generalize (o.semAt rd a.eval).run P w=r at h
 cases r with
 | ok n w' =>
  cases n <;> simp only [Oper.uponIn] at h ⊢
  case value v=>exact h
  case skip=>exact h
  case enter f args=>exact ⟨(fun h=>by cases h),CallsIn.mono h fun _ _ ⟨v,he,k⟩=>by subst he;exact k⟩
  case row row args=>exact ⟨(fun h=>by cases h),h⟩
  case round l f tmps assign body=>exact ⟨(fun h=>by cases h),RoundIn.mono h fun _ _ ⟨v,he,k⟩=>by subst he;exact k⟩
 | halt x w'=>exact h.elim
def ky (d:Option Tmp) (v:Value) (L:List (Nat×Value)):List (Nat×Value):=
 match d with
 | some d=>(d,v) :: L
 | none=>L
def ltB (d:Option Tmp) (N:Nat):Bool:=
 match d with
 | some d=>Nat.blt d N
 | none=>true
theorem Frm.putL {a:Act}{N:Nat}{D:List Deferred}{L:List (Nat×Value)}(h:Frm a N D L){d:Option Tmp}(hd:ltB d N=true) (v:Value):Frm (a.put d v) N D (V.ky d v L):=by
 cases d with
 | none=>exact h
 | some d=>exact h.put (by simpa [ltB,Nat.blt_eq] using hd) v
def gW (ops:Array Oper) (o:Oper) (L:List (Nat×Value)):Option Bool:=
 match o.guard with
 | none=>some true
 | some (j,want)=>match (ops[j]?).bind (·.dst) with
  | none=>none
  | some t=>match lk L t with
   | some (.bool b)=>some (b == want)
   | some (.tuple _)=>some false
   | _=>none
theorem vY {t:Array Value}{i:Nat}{vs:Array Value}(h:t.getD i undef=.tuple vs):t[i]?=none∨t[i]?=some (.tuple vs):=by
 rcases Nat.lt_or_ge i t.size with hlt | hge
 ·right;simp [hlt] at h ⊢;exact h
 ·left;exact Array.getElem?_eq_none hge
theorem yt {t:Array Value}{i:Nat}{b:Bool}(h:t.getD i undef=.bool b):t[i]?=some (.bool b):=by
 rcases Nat.lt_or_ge i t.size with hlt | hge
 ·simp [hlt] at h ⊢;exact h
 ·rw [Array.getD_eq_getD_getElem?,Array.getElem?_eq_none hge] at h
  simp [undef] at h
theorem gK {ops:Array Oper}{o:Oper}{L:List (Nat×Value)}{b:Bool}(h:gW ops o L=some b){a:Act}(ha:Ag a L):Region.wanted o (yielded ops a.tmps)=b:=by
 unfold gW at h
 unfold Region.wanted
 cases hg:o.guard with
 | none=>simp [hg] at h;simp [h]
 | some p =>
  obtain ⟨j,want⟩:=p
  simp only [hg] at h
  cases ht:(ops[j]?).bind (·.dst) with
  | none=>simp [ht] at h
  | some t =>
   simp only [ht] at h
   split at h
   ·rename_i c hc
    simp at h
    have:=yt (ha _ _ hc)
    simp [yielded,ht,this,← h]
   ·rename_i vs hc
    simp at h
    rcases vY (ha _ _ hc) with hn | hn <;> simp [yielded,ht,hn,← h]
   ·cases h
def YP (rd:Option Nat) (P:Program) (o:Oper) (L:List (Nat×Value)) (v:Value):Prop:=
 ∀ a w,Ag a L->(o.semAt rd a.eval).run P w=.ok (.value v) w
def YH (rd:Option Nat) (P:Program) (o:Oper) (L:List (Nat×Value)) (S:H->Prop) (v:Value):Prop:=
 ∀ a w,Ag a L->S w.heap->(o.semAt rd a.eval).run P w=.ok (.value v) w
def EV (rd:Option Nat) (P:Program) (o:Oper) (L:List (Nat×Value)) (h:H) (K:Value->H->Prop):Prop:=
 ∀ a w,Ag a L->w.heap=h->fa rd P o a.eval w fun v w'=>eJ w w'∧K v w'.heap
section
variable {w0:World}{N:Nat}{D:List Deferred}{L:List (Nat×Value)}{h:H}{P:Program}{rd:Option Nat}{Q:Exit->Act->World->Prop}{ops:Array Oper}{o:Oper}{rest:List Oper}
theorem D7 {K:Value->H->Prop}(he:EV rd P o L h K) (hw:gW ops o L=some true) (hd:ltB o.dst N=true)
  (k:∀ v h',K v h'->Tr w0 N D (ky o.dst v L) h' (wpListIn (Fz rd) 0 P ops Q rest)):Tr w0 N D L h (wpListIn (Fz rd) 0 P ops Q (o :: rest)):=by
 intro a w ha hh hl
 unfold wpListIn
 rw [if_pos (gK hw ha.get)]
 exact ((he a w ha.get hh).mono fun v w' ⟨l,kk⟩=>k v _ kk _ _ (ha.putL hd v) rfl (hl.trans l)).wp
theorem YH.ev {S:H->Prop}{v:Value}(hy:YH rd P o L S v) (hS:S h):EV rd P o L h fun u h'=>u=v∧h'=h:=by
 intro a w ha hh
 unfold fa
 rw [hy a w ha (hh ▸ hS)]
 exact ⟨eJ.refl w,rfl,hh⟩
theorem D8 {S:H->Prop}{v:Value}(hy:YH rd P o L S v) (hS:S h) (hw:gW ops o L=some true) (hd:ltB o.dst N=true)
  (k:Tr w0 N D (ky o.dst v L) h (wpListIn (Fz rd) 0 P ops Q rest)):Tr w0 N D L h (wpListIn (Fz rd) 0 P ops Q (o :: rest)):=
 D7 (hy.ev hS) hw hd fun _ _ ⟨e1,e2⟩=>by rw [e1,e2];exact k
theorem cm {v:Value}(hy:YP rd P o L v) (hw:gW ops o L=some true) (hd:ltB o.dst N=true)
  (k:Tr w0 N D (ky o.dst v L) h (wpListIn (Fz rd) 0 P ops Q rest)):Tr w0 N D L h (wpListIn (Fz rd) 0 P ops Q (o :: rest)):=
 D8 (S:=fun _=>True) (fun a w ha _=>hy a w ha) trivial hw hd k
theorem kE (hw:gW ops o L=some false) (hd:ltB o.dst N=true)
  (k:Tr w0 N D (ky o.dst undef L) h (wpListIn (Fz rd) 0 P ops Q rest)):Tr w0 N D L h (wpListIn (Fz rd) 0 P ops Q (o :: rest)):=by
 intro a w ha hh hl
 unfold wpListIn
 rw [if_neg (by rw [gK hw ha.get];simp)]
 exact ⟨fun _ _=>trivial,k _ _ (ha.putL hd undef) hh hl⟩
theorem tv:True:=trivial
theorem th {S:H->Prop}{v:Value}(hy:YH rd P o L S v) (hS:S h) (k:Tr w0 N D (ky o.dst v L) h (wpListIn (Fz rd) 0 P ops Q rest)) (hw:gW ops o L=some true:=by rfl) (hd:ltB o.dst N=true:=by rfl):Tr w0 N D L h (wpListIn (Fz rd) 0 P ops Q (o :: rest)):=D8 hy hS hw hd k
theorem te {K:Value->H->Prop}(he:EV rd P o L h K) (k:∀ v h',K v h'->Tr w0 N D (ky o.dst v L) h' (wpListIn (Fz rd) 0 P ops Q rest)) (hw:gW ops o L=some true:=by rfl) (hd:ltB o.dst N=true:=by rfl):Tr w0 N D L h (wpListIn (Fz rd) 0 P ops Q (o :: rest)):=D7 he hw hd k
theorem tq {v:Value}(hy:YP rd P o L v) (k:Tr w0 N D (ky o.dst v L) h (wpListIn (Fz rd) 0 P ops Q rest)) (hw:gW ops o L=some true:=by rfl) (hd:ltB o.dst N=true:=by rfl):Tr w0 N D L h (wpListIn (Fz rd) 0 P ops Q (o :: rest)):=cm hy hw hd k
theorem ts (k:Tr w0 N D (ky o.dst undef L) h (wpListIn (Fz rd) 0 P ops Q rest)) (hw:gW ops o L=some false:=by rfl) (hd:ltB o.dst N=true:=by rfl):Tr w0 N D L h (wpListIn (Fz rd) 0 P ops Q (o :: rest)):=kE hw hd k
end
def ek (o:Oper):List Nat:=(o.after.toList.filter (Region.binds .any)).map (·.on)
def pD (ops:Array Oper) (A:List Nat):Bool:=
 (List.range ops.size).all fun j=>match ops[j]? with
  | none=>false
  | some o=>(ek o).all (fun e=>Nat.blt e j) && (match o.op with | .select ..=>false | .defer ..=>false | _=>true) &&
   (List.range ops.size).all fun i=>!(A.getD j 0).testBit i || (ek o).any fun e=>Nat.beq e i || (A.getD e 0).testBit i
def nf (o:Oper) (m:Nat):Bool:=(ek o).all fun e=>m.testBit e
def tkB (ops:Array Oper) (A:List Nat) (j:Nat) (o:Oper):Bool:=
 (List.range ops.size).all fun i=>match ops[i]? with
  | none=>false
  | some x=>(!Nat.beq i j && (A.getD i 0).testBit j) || (match o.dst with
   | none=>true
   | some d=>!(x.looksAt ops).contains d && (Nat.beq i j || x.dst != some d))
def nR (ops:Array Oper) (A:List Nat) (m j m':Nat):Bool:=
 match ops[j]? with
 | none=>false
 | some o=>!m.testBit j && Nat.beq m' (m ||| 2 ^ j) && nf o m && tkB ops A j o
def Bm (ops:Array Oper) (A:List Nat) (m j m':Nat):Bool:=
 match ops[j]? with
 | none=>false
 | some o=>!m.testBit j && Nat.beq m' (m ||| 2 ^ j) && nf o m && (List.range ops.size).all fun i=>match ops[i]? with
  | none=>false
  | some x=>Nat.beq i j || (if m.testBit i then (A.getD j 0).testBit i || x.apart ops o else !nf x m)
def zJ (ops:Array Oper) (m:Nat):Bool:=(List.range ops.size).all fun i=>m.testBit i
def YAt (rd:Option Nat) (P:Program) (ops:Array Oper) (i:Nat) (a:Act) (w:World):Prop:=
 ∃ o,ops[i]?=some o∧∃ v,(∀ d,o.dst=some d->d<a.tmps.size∧a.tmps.getD d undef=v) ∧
  ((Region.wanted o (yielded ops a.tmps)=true∧(o.semAt rd a.eval).run P w=.ok (.value v) w)∨(Region.wanted o (yielded ops a.tmps)=false∧v=undef))
def inR (l:Array Bool) (k:Nat):Prop:=l.getD k false=true
structure Rel (rd:Option Nat) (P:Program) (ops:Array Oper) (A:List Nat) (pend:List (Nat×(H->Prop))) (m:Nat) (a:Act) (w:World) (fuel:Nat) (lr:Array Bool) (ar:Act):Prop where
 len:lr.size=ops.size
 closed:∀ k o,ops[k]?=some o->inR lr k->∀ e∈ek o,inR lr e
 sub:∀ k,inR lr k->m.testBit k=true
 below:∀ k o,ops[k]?=some o->m.testBit k=true->∀ e∈ek o,m.testBit e=true
 held:∀ k,k<ops.size->m.testBit k=true->¬ inR lr k->(∀ o,ops[k]?=some o->tkB ops A k o=true)∧((∃ S,(k,S)∈pend∧∀ w:World,S w.heap->YAt rd P ops k a w)∨∀ w,YAt rd P ops k a w)
 size:ar.tmps.size=a.tmps.size
 defers:ar.defers=a.defers
 get:∀ t,(∀ k o,ops[k]?=some o->m.testBit k=true->¬ inR lr k->o.dst≠some t)->ar.tmps.getD t undef=a.tmps.getD t undef
 fuel:lr.toList.count false<=fuel
def iH:List (Nat×(H->Prop))->H->Prop
 | [],_=>True
 | p :: r,h=>p.2 h∧iH r h
theorem iH.mem {l:List (Nat×(H->Prop))}{h:H}(hl:iH l h):∀ p∈l,p.2 h:=by
 induction l with
 | nil=>intro p hp;cases hp
 | cons q r ih =>
  intro p hp
  cases hp with
  | head=>exact hl.1
  | tail _ hp=>exact ih hl.2 p hp
def G (rd:Option Nat) (P:Program) (ops:Array Oper) (A:List Nat) (Q:Exit->Act->World->Prop) (pend:List (Nat×(H->Prop))) (m:Nat) (a:Act) (w:World):Prop:=
 iH pend w.heap->∀ fuel lr ar,Rel rd P ops A pend m a w fuel lr ar->wpAnyIn (Fz rd) 0 P .any ops Q fuel lr ar w
theorem iW {rd:Option Nat}{ρ ρ':Operand->Value}(o:Oper) (hs:∀ cs b,o.op≠.select cs b) (hdf:∀ c,o.op≠.defer c) (h:∀ x∈o.op.operands,ρ x=ρ' x):o.semAt rd ρ=o.semAt rd ρ':=by
 rw [Oper.semAt_eq rd ρ o hdf,Oper.semAt_eq rd ρ' o hdf]
 exact execOp_congr o hs h
theorem yD {ops:Array Oper}{o:Oper}{t:Tmp}(h:Operand.tmp t∈o.op.operands):t∈o.looksAt ops:=
 List.mem_append_left _ (List.mem_filterMap.2 ⟨.tmp t,by simpa using h,rfl⟩)
theorem lA {ops:Array Oper}{o:Oper}{a b:Act}(h:∀ t∈o.looksAt ops,a.tmps.getD t undef=b.tmps.getD t undef):∀ x∈o.op.operands,a.eval x=b.eval x:=by
 intro x hx
 cases x with
 | tmp t=>exact h t (yD hx)
 | _=>rfl
theorem ik {ops:Array Oper}{o:Oper}{a b:Act}(hs:a.tmps.size=b.tmps.size) (h:∀ t∈o.looksAt ops,a.tmps.getD t undef=b.tmps.getD t undef) :
  Region.wanted o (yielded ops a.tmps)=Region.wanted o (yielded ops b.tmps):=by
 unfold Region.wanted
 cases hg:o.guard with
 | none=>rfl
 | some p =>
  obtain ⟨j,want⟩:=p
  have:yielded ops a.tmps j=yielded ops b.tmps j:=by
   unfold yielded
   cases ht:(ops[j]?).bind (·.dst) with
   | none=>rfl
   | some t =>
    have ht':t∈o.looksAt ops:=List.mem_append_right _ (by simp [hg,ht])
    have:=h t ht'
    simp only [Option.bind_some]
    rcases Nat.lt_or_ge t a.tmps.size with hlt | hge
    ·have hlt':t<b.tmps.size:=hs ▸ hlt
     rw [Array.getD_eq_getD_getElem?,Array.getD_eq_getD_getElem?,Array.getElem?_eq_getElem hlt,Array.getElem?_eq_getElem hlt'] at this
     rw [Array.getElem?_eq_getElem hlt,Array.getElem?_eq_getElem hlt']
     simp only [Option.getD_some] at this
     rw [this]
    ·rw [Array.getElem?_eq_none hge,Array.getElem?_eq_none (hs ▸ hge)]
  simp only [this]
section
variable {rd:Option Nat}{P:Program}{ops:Array Oper}{A:List Nat}{Q:Exit->Act->World->Prop}{pend:List (Nat×(H->Prop))}{m m' j:Nat}{a:Act}{w:World}
theorem fo (hA:pD ops A=true){k:Nat}{o:Oper}(ho:ops[k]?=some o):(∀ e∈ek o,e<k)∧(∀ cs b,o.op≠.select cs b)∧(∀ c,o.op≠.defer c) ∧
  ∀ i,i<ops.size->(A.getD k 0).testBit i=true->∃ e∈ek o,e=i∨(A.getD e 0).testBit i=true:=by
 have hk:k<ops.size:=(Array.getElem?_eq_some_iff.1 ho).1
 simp only [pD,List.all_eq_true,List.mem_range] at hA
 have h1:=hA k hk
 simp only [ho,Bool.and_eq_true,List.all_eq_true,List.mem_range] at h1
 obtain ⟨⟨h1,h2⟩,h3⟩:=h1
 refine ⟨fun e he=>by simpa [Nat.blt_eq] using h1 e he,?_,?_,fun i hi ht=>?_⟩
 ·intro cs b e;rw [e] at h2;simp at h2
 ·intro c e;rw [e] at h2;simp at h2
 ·have:=h3 i hi
  simp only [ht,Bool.not_true,Bool.false_or,List.any_eq_true,Bool.or_eq_true,Nat.beq_eq] at this
  exact this
theorem kF (hA:pD ops A=true){p:Nat->Prop}(hc:∀ k o,ops[k]?=some o->p k->∀ e∈ek o,p e) :
  ∀ n k o,k<n->ops[k]?=some o->(∀ e∈ek o,p e)->∀ i,i<ops.size->(A.getD k 0).testBit i=true->p i:=by
 intro n
 induction n with
 | zero=>intro k o hk;omega
 | succ n ih =>
  intro k o hk ho hd i hi ht
  obtain ⟨h1,_,_,h4⟩:=fo hA ho
  obtain ⟨e,he,heq⟩:=h4 i hi ht
  rcases heq with rfl | heq
  ·exact hd _ he
  ·have hlt:=h1 e he
   have hk':k<ops.size:=(Array.getElem?_eq_some_iff.1 ho).1
   have hoe:ops[e]?=some ops[e]:=Array.getElem?_eq_getElem (by omega)
   exact ih e ops[e] (by omega) hoe (hc e _ hoe (hd e he)) i hi heq
theorem iu {k:Nat}{lr:Array Bool}(hlen:lr.size=ops.size):k∈Region.ready .any ops lr↔¬ inR lr k∧∃ o,ops[k]?=some o∧∀ e∈ek o,inR lr e:=by
 rw [mem_ready]
 have e1:∀ o,ops[k]?=some o->(lr.getD k true=false↔¬ inR lr k):=fun o ho=>by
  have hk:k<lr.size:=by rw [hlen];exact (Array.getElem?_eq_some_iff.1 ho).1
  simp [inR,hk]
 have e2:∀ o:Oper,(∀ e∈o.after,Region.binds .any e=true->lr.getD e.on false=true)↔∀ e∈ek o,inR lr e:=fun o=>by
  simp only [ek,List.mem_map,List.mem_filter,Array.mem_toList_iff,inR]
  constructor
  ·rintro h _ ⟨e,⟨he,hb⟩,rfl⟩;exact h e he hb
  ·intro h e he hb;exact h _ ⟨e,⟨he,hb⟩,rfl⟩
 constructor
 ·rintro ⟨h0,o,ho,h1⟩;exact ⟨(e1 o ho).1 h0,o,ho,(e2 o).1 h1⟩
 ·rintro ⟨h0,o,ho,h1⟩;exact ⟨(e1 o ho).2 h0,o,ho,(e2 o).2 h1⟩
theorem qY (hA:pD ops A=true){lr:Array Bool}(hlen:lr.size=ops.size){k:Nat}(hk:k<ops.size) (hu:¬ inR lr k):Region.ready .any ops lr≠[]:=by
 intro he
 have key:∀ n k,k<n->k<ops.size->¬ inR lr k->False:=by
  intro n
  induction n with
  | zero=>intro k hk;omega
  | succ n ih =>
   intro k hk hks hu
   have ho:ops[k]?=some ops[k]:=Array.getElem?_eq_getElem hks
   have hnr:k∉Region.ready .any ops lr:=by rw [he];simp
   rw [iu hlen] at hnr
   have:¬ ∀ e∈ek ops[k],inR lr e:=fun h=>hnr ⟨hu,_,ho,h⟩
   simp only [Classical.not_forall] at this
   obtain ⟨e,hm,hne⟩:=this
   have:=(fo hA ho).1 e hm
   exact ih e (by omega) (by omega) hne
 exact key (k+1) k (by omega) hk hu
theorem fD {lr:Array Bool}{i k:Nat}(hi:i<lr.size):inR (lr.setIfInBounds i true) k↔k=i∨inR lr k:=by
 unfold inR
 by_cases h:i=k
 ·subst h;simp [hi]
 ·simp [Array.getElem?_setIfInBounds_ne h,Ne.symm h]
theorem ov {lr:Array Bool}{i f:Nat}(hi:i<lr.size) (hu:¬ inR lr i) (hf:lr.toList.count false<=f+1):(lr.setIfInBounds i true).toList.count false<=f:=by
 have h1:lr.toList[i]'(by simpa using hi)=false:=by simpa [inR,hi] using hu
 rw [Array.toList_setIfInBounds,List.count_set (by simpa using hi)]
 rw [h1]
 show lr.toList.count false-1+0<=f
 omega
theorem ot {lr:Array Bool}{i:Nat}(hi:i<lr.size) (hu:¬ inR lr i):0<lr.toList.count false:=by
 have h1:lr.toList[i]'(by simpa using hi)=false:=by simpa [inR,hi] using hu
 exact List.count_pos_iff.2 (h1 ▸ List.getElem_mem _)
theorem A3 {a b:Act}(hd:a.defers=b.defers) (hs:a.tmps.size=b.tmps.size) (hg:∀ t,a.tmps.getD t undef=b.tmps.getD t undef):a=b:=by
 obtain ⟨ta,da⟩:=a
 obtain ⟨tb,db⟩:=b
 simp only at hd hs hg
 subst hd
 have:ta=tb:=Array.ext hs fun i h1 h2=>by
  have:=hg i
  simpa [h1,h2] using this
 rw [this]
theorem ji {a:Act}{d:Option Tmp}{v:Value}{t:Nat}(h:d≠some t):(a.put d v).tmps.getD t undef=a.tmps.getD t undef:=by
 cases d with
 | none=>rfl
 | some d =>
  have hne:d≠t:=fun e=>h (by rw [e])
  simp [Act.put,Array.getElem?_setIfInBounds_ne hne]
theorem kz {a:Act}{d:Nat}{v:Value}(h:d<a.tmps.size):(a.put (some d) v).tmps.getD d undef=v:=by simp [Act.put,h]
theorem fw {a:Act}{d:Option Tmp}{v:Value}:(a.put d v).tmps.size=a.tmps.size:=by cases d <;> simp [Act.put]
theorem iA {a:Act}{d:Option Tmp}{v:Value}:(a.put d v).defers=a.defers:=by cases d <;> rfl
theorem ug {k i:Nat}{o x:Oper}(h:tkB ops A k o=true) (hx:ops[i]?=some x):(i≠k∧(A.getD i 0).testBit k=true)∨∀ d,o.dst=some d->d∉x.looksAt ops∧(i=k∨x.dst≠some d):=by
 simp only [tkB,List.all_eq_true,List.mem_range] at h
 have h1:=h i (Array.getElem?_eq_some_iff.1 hx).1
 simp only [hx,Bool.or_eq_true,Bool.and_eq_true,Bool.not_eq_true'] at h1
 rcases h1 with ⟨h1,h2⟩ | h1
 ·exact .inl ⟨(fun e=>by subst e;rw [show Nat.beq i i=true from Nat.beq_refl i] at h1;cases h1),h2⟩
 ·refine .inr fun d hd=>?_
  simp only [hd,Bool.and_eq_true,Bool.not_eq_true',Bool.or_eq_true,bne_iff_ne] at h1
  exact ⟨fun hm=>by simp [hm] at h1,h1.2.imp (fun e=>Nat.eq_of_beq_eq_true e) id⟩
theorem qZ (hA:pD ops A=true){fuel:Nat}{lr:Array Bool}{ar:Act}(hr:Rel rd P ops A pend m a w (fuel+1) lr ar) (hH:iH pend w.heap){i:Nat}(hi:i∈Region.ready .any ops lr) (hm:m.testBit i=true)
  (ih:∀ lr ar,Rel rd P ops A pend m a w fuel lr ar->wpAnyIn (Fz rd) 0 P .any ops Q fuel lr ar w) :
  wpOpIn (Fz rd) 0 P ops Q i (wpAnyIn (Fz rd) 0 P .any ops Q fuel (lr.setIfInBounds i true)) ar w:=by
 obtain ⟨hu,o,ho,hdeps⟩:=(iu hr.len).1 hi
 have his:i<ops.size:=(Array.getElem?_eq_some_iff.1 ho).1
 have hil:i<lr.size:=by rw [hr.len];exact his
 have hY:YAt rd P ops i a w:=by
  rcases (hr.held i his hm hu).2 with ⟨S,hS,hy⟩ | hy
  ·exact hy w (hH.mem _ hS)
  ·exact hy w
 obtain ⟨o',ho',v,hv,hc⟩:=hY
 obtain rfl:o'=o:=by rw [ho] at ho';exact (Option.some.inj ho').symm
 have hag:∀ t∈o'.looksAt ops,ar.tmps.getD t undef=a.tmps.getD t undef:=fun t ht=>hr.get t fun k x hx hmk hnk hd=>by
  have hks:k<ops.size:=(Array.getElem?_eq_some_iff.1 hx).1
  rcases ug ((hr.held k hks hmk hnk).1 x hx) ho with h1 | h1
  ·exact hnk (kF hA hr.closed (i+1) i o' (by omega) ho hdeps k hks h1.2)
  ·exact (h1 t hd).1 ht
 have hsem:o'.semAt rd ar.eval=o'.semAt rd a.eval:=iW o' (fo hA ho).2.1 (fo hA ho).2.2.1 (lA hag)
 have hwant:=ik hr.size hag
 have hrel:Rel rd P ops A pend m a w fuel (lr.setIfInBounds i true) (ar.put o'.dst v):=by
  refine ⟨by simpa using hr.len,fun k x hx hk e he=>?_,fun k hk=>?_,?_,fun k hk hmk hnk=>?_,by rw [fw];exact hr.size,by rw [iA];exact hr.defers,fun t ht=>?_,ov hil hu hr.fuel⟩
  ·rw [fD hil] at hk ⊢
   rcases hk with rfl | hk
   ·obtain rfl:x=o':=by rw [ho] at hx;exact (Option.some.inj hx).symm
    exact .inr (hdeps e he)
   ·exact .inr (hr.closed k x hx hk e he)
  ·rw [fD hil] at hk
   rcases hk with rfl | hk
   ·exact hm
   ·exact hr.sub k hk
  ·exact hr.below
  ·exact hr.held k hk hmk fun h=>hnk ((fD hil).2 (.inr h))
  ·by_cases e:o'.dst=some t
   ·obtain ⟨h1,h2⟩:=hv t e
    rw [e,kz (by rw [hr.size];exact h1),h2]
   ·rw [ji e]
    refine hr.get t fun k x hx hmk hnk hd=>?_
    by_cases hki:k=i
    ·subst hki
     obtain rfl:x=o':=by rw [ho] at hx;exact (Option.some.inj hx).symm
     exact e hd
    ·exact ht k x hx hmk (fun h=>by rcases (fD hil).1 h with h | h;exact hki h;exact hnk h) hd
 unfold wpOpIn
 simp only [ho]
 rcases hc with ⟨h1,h2⟩ | ⟨h1,rfl⟩
 ·rw [if_pos (by rw [hwant];exact h1)]
  refine fa.wp ?_
  unfold fa
  rw [hsem,h2]
  exact ih _ _ hrel
 ·rw [if_neg (by rw [hwant,h1];simp)]
  exact ⟨fun _ _=>trivial,ih _ _ hrel⟩
end
section
variable {w0:World}{N:Nat}{D:List Deferred}{L:List (Nat×Value)}{h:H}{P:Program}{rd:Option Nat}{Q:Exit->Act->World->Prop}{ops:Array Oper}{A:List Nat}{pend:List (Nat×(H->Prop))}{m m' j:Nat}{o:Oper}
theorem cL {m j k:Nat}:(m ||| 2 ^ j).testBit k=(m.testBit k || decide (k=j)):=by
 rw [Nat.testBit_or,Nat.testBit_two_pow]
 by_cases e:j=k
 ·subst e;simp
 ·simp [e,Ne.symm e]
theorem yW (hb:nR ops A m j m'=true) (ho:ops[j]?=some o):m.testBit j=false∧m'=m ||| 2 ^ j∧(∀ e∈ek o,m.testBit e=true)∧tkB ops A j o=true:=by
 simp only [nR,ho,Bool.and_eq_true,Bool.not_eq_true',Nat.beq_eq,nf,List.all_eq_true] at hb
 exact ⟨hb.1.1.1,hb.1.1.2,hb.1.2,hb.2⟩
theorem zL (hb:Bm ops A m j m'=true) (ho:ops[j]?=some o):m.testBit j=false∧m'=m ||| 2 ^ j∧(∀ e∈ek o,m.testBit e=true) ∧
  ∀ i x,ops[i]?=some x->i≠j->(m.testBit i=true->(A.getD j 0).testBit i=true∨x.apart ops o=true)∧(m.testBit i=false->¬ ∀ e∈ek x,m.testBit e=true):=by
 simp only [Bm,ho,Bool.and_eq_true,Bool.not_eq_true',Nat.beq_eq,nf,List.all_eq_true,List.mem_range] at hb
 refine ⟨hb.1.1.1,hb.1.1.2,hb.1.2,fun i x hx hne=>?_⟩
 have h1:=hb.2 i (Array.getElem?_eq_some_iff.1 hx).1
 simp only [hx,Bool.or_eq_true,Nat.beq_eq,hne,false_or] at h1
 constructor
 ·intro hm;simpa [hm] using h1
 ·intro hm;simpa [hm] using h1
theorem YAt.put {k:Nat}{a:Act}{w:World}(hA:pD ops A=true){x:Oper}(hx:ops[k]?=some x){d:Option Tmp}{v:Value}(hl:∀ t,d=some t->t∉x.looksAt ops∧x.dst≠some t) (hy:YAt rd P ops k a w):YAt rd P ops k (a.put d v) w:=by
 obtain ⟨o,ho,u,h1,h2⟩:=hy
 obtain rfl:o=x:=by rw [hx] at ho;exact (Option.some.inj ho).symm
 have hag:∀ t∈o.looksAt ops,(a.put d v).tmps.getD t undef=a.tmps.getD t undef:=fun t ht=>ji fun e=>(hl t e).1 ht
 refine ⟨o,ho,u,fun t e=>⟨by rw [fw];exact (h1 t e).1,by rw [ji fun e'=>(hl t e').2 e];exact (h1 t e).2⟩,?_⟩
 rw [ik fw hag,iW o (fo hA ho).2.1 (fo hA ho).2.2.1 (lA hag)]
 exact h2
theorem G.take {a:Act}{w:World}{v:Value}(hA:pD ops A=true) (hb:nR ops A m j m'=true) (ho:ops[j]?=some o) (hN:∀ d,o.dst=some d->d<a.tmps.size) (S:Option (H->Prop))
  (hS:∀ s,S=some s->s w.heap)
  (hy:∀ w':World,(∀ s,S=some s->s w'.heap)->(Region.wanted o (yielded ops a.tmps)=true∧(o.semAt rd a.eval).run P w'=.ok (.value v) w')∨(Region.wanted o (yielded ops a.tmps)=false∧v=undef))
  (k:G rd P ops A Q (match S with | some s=>(j,s) :: pend | none=>pend) m' (a.put o.dst v) w):G rd P ops A Q pend m a w:=by
 obtain ⟨h1,rfl,h3,h4⟩:=yW hb ho
 have hjs:j<ops.size:=(Array.getElem?_eq_some_iff.1 ho).1
 intro hH fuel lr ar hr
 have hju:¬ inR lr j:=fun h=>by have:=hr.sub j h;rw [h1] at this;cases this
 have hself:∀ d,o.dst=some d->d∉o.looksAt ops:=fun d hd=>by
  rcases ug h4 ho with h | h
  ·exact absurd rfl h.1
  ·exact (h d hd).1
 have hag:∀ t∈o.looksAt ops,(a.put o.dst v).tmps.getD t undef=a.tmps.getD t undef:=fun t ht=>ji fun e=>hself t e ht
 have hyj:∀ w':World,(∀ s,S=some s->s w'.heap)->YAt rd P ops j (a.put o.dst v) w':=fun w' hs'=>by
  refine ⟨o,ho,v,fun d hd=>⟨by rw [fw];exact hN d hd,by rw [hd];exact kz (hN d hd)⟩,?_⟩
  rw [ik fw hag,iW o (fo hA ho).2.1 (fo hA ho).2.2.1 (lA hag)]
  exact hy w' hs'
 refine k ?_ fuel lr ar ⟨hr.len,hr.closed,fun i hi=>by rw [cL,hr.sub i hi];rfl,fun i x hx hm e he=>?_,fun i hi hm hn=>?_,by rw [fw];exact hr.size,by rw [iA];exact hr.defers,fun t ht=>?_,hr.fuel⟩
 ·cases S with
  | none=>exact hH
  | some s=>exact ⟨hS s rfl,hH⟩
 ·rw [cL,Bool.or_eq_true,decide_eq_true_iff] at hm
  rw [cL,Bool.or_eq_true]
  rcases hm with hm | rfl
  ·exact .inl (hr.below i x hx hm e he)
  ·obtain rfl:x=o:=by rw [ho] at hx;exact (Option.some.inj hx).symm
   exact .inl (h3 e he)
 ·rw [cL,Bool.or_eq_true,decide_eq_true_iff] at hm
  rcases hm with hm | rfl
  ·obtain ⟨g1,g2⟩:=hr.held i hi hm hn
   refine ⟨g1,?_⟩
   have hx:ops[i]?=some ops[i]:=Array.getElem?_eq_getElem hi
   have hput:∀ w,YAt rd P ops i a w->YAt rd P ops i (a.put o.dst v) w:=fun w h=>by
    refine YAt.put hA hx (fun t ht=>?_) h
    rcases ug h4 hx with h | h
    ·-- number j would be ahead of a listed one
     exfalso
     have:=kF hA (p:=fun e=>m.testBit e=true) hr.below (i+1) i _ (by omega) hx (hr.below i _ hx hm) j hjs h.2
     rw [h1] at this;cases this
    ·exact ⟨(h t ht).1,(h t ht).2.resolve_left fun e=>by subst e;rw [h1] at hm;cases hm⟩
   rcases g2 with ⟨s,hs,g2⟩ | g2
   ·exact .inl ⟨s,by cases S <;> simp [hs],fun w h=>hput w (g2 w h)⟩
   ·exact .inr fun w=>hput w (g2 w)
  ·refine ⟨fun o' ho'=>by rw [ho] at ho';obtain rfl:=Option.some.inj ho';exact h4,?_⟩
   cases S with
   | none=>exact .inr fun w'=>hyj w' fun s hs=>by cases hs
   | some s=>exact .inl ⟨s,by simp,fun w' h=>hyj w' fun s' hs'=>by obtain rfl:=Option.some.inj hs';exact h⟩
 ·by_cases e:o.dst=some t
  ·exact absurd e (ht j o ho (by rw [cL];simp) hju)
  ·rw [ji e]
   exact hr.get t fun i x hx hm hn=>ht i x hx (by rw [cL,hm];rfl) hn
theorem fa.congr {ρ ρ':Operand->Value}{w:World}{K:Value->World->Prop}(he:o.semAt rd ρ=o.semAt rd ρ') (k:fa rd P o ρ' w K):fa rd P o ρ w K:=by
 unfold fa at *
 rw [he];exact k
theorem G.eff {a:Act}{w:World}(hA:pD ops A=true) (hb:Bm ops A m j m'=true) (ho:ops[j]?=some o) (hw:Region.wanted o (yielded ops a.tmps)=true)
  (k:fa rd P o a.eval w fun v w'=>iH (pend.filter fun p=>!(A.getD j 0).testBit p.1) w'.heap∧G rd P ops A Q (pend.filter fun p=>!(A.getD j 0).testBit p.1) m' (a.put o.dst v) w') :
  G rd P ops A Q pend m a w:=by
 obtain ⟨h1,rfl,h3,h4⟩:=zL hb ho
 have hjs:j<ops.size:=(Array.getElem?_eq_some_iff.1 ho).1
 intro hH fuel
 induction fuel with
 | zero =>
  intro lr ar hr
  have hju:¬ inR lr j:=fun h=>by have:=hr.sub j h;rw [h1] at this;cases this
  have:=ot (by rw [hr.len];exact hjs) hju
  have:=hr.fuel
  omega
 | succ fuel ih =>
  intro lr ar hr
  have hju:¬ inR lr j:=fun h=>by have:=hr.sub j h;rw [h1] at this;cases this
  refine ⟨fun h=>absurd h (qY hA hr.len hjs hju),fun i hi=>?_⟩
  by_cases hm:m.testBit i=true
  ·exact qZ hA hr hH hi hm ih
  ·obtain ⟨hu,x,hx,hdeps⟩:=(iu hr.len).1 hi
   have hij:i=j:=Classical.byContradiction fun hne=>(h4 i x hx hne).2 (by simpa using hm) fun e he=>hr.sub e (hdeps e he)
   subst hij
   obtain rfl:x=o:=by rw [ho] at hx;exact (Option.some.inj hx).symm
   have hjl:i<lr.size:=by rw [hr.len];exact hjs
   have hpa:∀ q y,ops[q]?=some y->m.testBit q=true->¬ inR lr q->y.apart ops x=true∧(A.getD i 0).testBit q=false:=fun q y hy hmq hnq=>by
    have hqs:q<ops.size:=(Array.getElem?_eq_some_iff.1 hy).1
    have hna:¬ (A.getD i 0).testBit q=true:=fun h=>hnq (kF hA (p:=inR lr) hr.closed (i+1) i x (by omega) ho hdeps q hqs h)
    have hqi:q≠i:=fun e=>by subst e;rw [h1] at hmq;cases hmq
    exact ⟨((h4 q y hy hqi).1 hmq).resolve_left hna,by simpa using hna⟩
   have hag:∀ t∈x.looksAt ops,ar.tmps.getD t undef=a.tmps.getD t undef:=fun t ht=>hr.get t fun q y hy hmq hnq hd =>
    (Oper.apart_spec (hpa q y hy hmq hnq).1).1 t hd ht
   have hsem:x.semAt rd ar.eval=x.semAt rd a.eval:=iW x (fo hA ho).2.1 (fo hA ho).2.2.1 (lA hag)
   unfold wpOpIn
   simp only [ho]
   rw [if_pos (by rw [ik hr.size hag];exact hw)]
   refine fa.wp ?_
   refine (fa.congr hsem k).mono fun v w' ⟨hh,hg⟩=>hg hh fuel _ _ ⟨by simpa using hr.len,fun q y hy hq e he=>?_,fun q hq=>?_,fun q y hy hmq e he=>?_,fun q hq hmq hnq=>?_,by rw [fw,fw];exact hr.size,by rw [iA,iA];exact hr.defers,fun t ht=>?_,ov hjl hju hr.fuel⟩
   ·rw [fD hjl] at hq ⊢
    rcases hq with rfl | hq
    ·obtain rfl:y=x:=by rw [ho] at hy;exact (Option.some.inj hy).symm
     exact .inr (hdeps e he)
    ·exact .inr (hr.closed q y hy hq e he)
   ·rw [fD hjl] at hq
    rw [cL]
    rcases hq with rfl | hq
    ·simp
    ·rw [hr.sub q hq];rfl
   ·rw [cL,Bool.or_eq_true,decide_eq_true_iff] at hmq
    rw [cL,Bool.or_eq_true]
    rcases hmq with hmq | rfl
    ·exact .inl (hr.below q y hy hmq e he)
    ·obtain rfl:y=x:=by rw [ho] at hy;exact (Option.some.inj hy).symm
     exact .inl (h3 e he)
   ·have hnq':¬ inR lr q:=fun h=>hnq ((fD hjl).2 (.inr h))
    have hqi:q≠i:=fun e=>hnq ((fD hjl).2 (.inl e))
    rw [cL,Bool.or_eq_true,decide_eq_true_iff] at hmq
    have hmq:=hmq.resolve_right hqi
    obtain ⟨g1,g2⟩:=hr.held q hq hmq hnq'
    have hy:ops[q]?=some ops[q]:=Array.getElem?_eq_getElem hq
    obtain ⟨p1,p2⟩:=hpa q _ hy hmq hnq'
    have hput:∀ w,YAt rd P ops q a w->YAt rd P ops q (a.put x.dst v) w:=fun w h =>
     YAt.put hA hy (fun t ht=>⟨(Oper.apart_spec p1).2.2 t ht,fun e=>(Oper.apart_spec p1).2.1 t e ht⟩) h
    refine ⟨g1,?_⟩
    rcases g2 with ⟨s,hs,g2⟩ | g2
    ·exact .inl ⟨s,List.mem_filter.2 ⟨hs,by show (!(A.getD i 0).testBit q)=true;rw [p2];rfl⟩,fun w h=>hput w (g2 w h)⟩
    ·exact .inr fun w=>hput w (g2 w)
   ·by_cases e:x.dst=some t
    ·rcases Nat.lt_or_ge t a.tmps.size with hlt | hge
     ·rw [e,kz hlt,kz (by rw [hr.size];exact hlt)]
     ·have h1:∀ b:Act,b.tmps.size<=t->(b.put x.dst v).tmps.getD t undef=undef:=fun b hb=>by
       rw [Array.getD_eq_getD_getElem?,Array.getElem?_eq_none (by rw [fw];exact hb)];rfl
      rw [h1 a hge,h1 ar (by rw [hr.size];exact hge)]
    ·rw [ji e,ji e]
     refine hr.get t fun q y hy hmq hnq hd=>?_
     refine ht q y hy (by rw [cL,hmq];rfl) (fun h=>?_) hd
     rcases (fD hjl).1 h with rfl | h
     ·rw [h1] at hmq;cases hmq
     ·exact hnq h
theorem G.done {a:Act}{w:World}(hA:pD ops A=true) (hb:zJ ops m=true) (hq:Q .normal a w):G rd P ops A Q pend m a w:=by
 simp only [zJ,List.all_eq_true,List.mem_range] at hb
 intro hH fuel
 have fin:∀ fuel lr ar,Rel rd P ops A pend m a w fuel lr ar->Region.ready .any ops lr=[]->Q .normal ar w:=by
  intro fuel lr ar hr h0
  have hall:∀ k,k<ops.size->inR lr k:=fun k hk=>Classical.byContradiction fun hn=>qY hA hr.len hk hn h0
  rw [A3 hr.defers hr.size fun t=>hr.get t fun k x hx _ hn=>absurd (hall k (Array.getElem?_eq_some_iff.1 hx).1) hn]
  exact hq
 induction fuel with
 | zero =>
  intro lr ar hr
  have h0:Region.ready .any ops lr=[]:=by
   cases hl:Region.ready .any ops lr with
   | nil=>rfl
   | cons i l =>
    obtain ⟨hu,x,hx,_⟩:=(iu hr.len).1 (hl ▸ List.mem_cons_self:i∈Region.ready .any ops lr)
    have:=ot (by rw [hr.len];exact (Array.getElem?_eq_some_iff.1 hx).1) hu
    have:=hr.fuel
    omega
  exact ⟨h0,fin _ _ _ hr h0⟩
 | succ fuel ih =>
  intro lr ar hr
  refine ⟨fin _ _ _ hr,fun i hi=>?_⟩
  obtain ⟨hu,x,hx,_⟩:=(iu hr.len).1 hi
  exact qZ hA hr hH hi (hb i (Array.getElem?_eq_some_iff.1 hx).1) ih
def TG (w0:World) (N:Nat) (D:List Deferred) (L:List (Nat×Value)) (h:H) (rd:Option Nat) (P:Program) (ops:Array Oper) (A:List Nat) (Q:Exit->Act->World->Prop) (pend:List (Nat×(H->Prop))) (m:Nat):Prop:=
 pD ops A=true->Tr w0 N D L h (G rd P ops A Q pend m)
theorem wi {d:Option Tmp}(hd:ltB d N=true):∀ t,d=some t->t<N:=fun t e=>by subst e;simpa [ltB,Nat.blt_eq] using hd
theorem g_p (j m':Nat){v:Value}(ho:ops[j]?=some o) (hb:nR ops A m j m'=true) (hy:YP rd P o L v) (hw:gW ops o L=some true) (hd:ltB o.dst N=true)
  (k:TG w0 N D (ky o.dst v L) h rd P ops A Q pend m'):TG w0 N D L h rd P ops A Q pend m:=fun hA a w ha hh hl =>
 G.take hA hb ho (fun t e=>by rw [ha.size];exact wi hd t e) none (fun s e=>by cases e) (fun w' _=>.inl ⟨gK hw ha.get,hy a w' ha.get⟩) (k hA _ w (ha.putL hd v) hh hl)
theorem g_s (j m':Nat) (ho:ops[j]?=some o) (hb:nR ops A m j m'=true) (hw:gW ops o L=some false) (hd:ltB o.dst N=true)
  (k:TG w0 N D (ky o.dst undef L) h rd P ops A Q pend m'):TG w0 N D L h rd P ops A Q pend m:=fun hA a w ha hh hl =>
 G.take hA hb ho (fun t e=>by rw [ha.size];exact wi hd t e) none (fun s e=>by cases e) (fun w' _=>.inr ⟨gK hw ha.get,rfl⟩) (k hA _ w (ha.putL hd undef) hh hl)
theorem g_h (j m':Nat){v:Value}{S:H->Prop}(ho:ops[j]?=some o) (hb:nR ops A m j m'=true) (hy:YH rd P o L S v) (hS:S h) (hw:gW ops o L=some true) (hd:ltB o.dst N=true)
  (k:TG w0 N D (ky o.dst v L) h rd P ops A Q ((j,S) :: pend) m'):TG w0 N D L h rd P ops A Q pend m:=fun hA a w ha hh hl =>
 G.take hA hb ho (fun t e=>by rw [ha.size];exact wi hd t e) (some S) (fun s e=>by obtain rfl:=Option.some.inj e;rw [hh];exact hS) (fun w' hs=>.inl ⟨gK hw ha.get,hy a w' ha.get (hs S rfl)⟩) (k hA _ w (ha.putL hd v) hh hl)
theorem gq (j m':Nat){v:Value}(ho:ops[j]?=some o) (hy:YP rd P o L v) (k:TG w0 N D (ky o.dst v L) h rd P ops A Q pend m') (hb:nR ops A m j m'=true:=by kernel_rfl) (hw:gW ops o L=some true:=by rfl) (hd:ltB o.dst N=true:=by rfl):TG w0 N D L h rd P ops A Q pend m:=g_p j m' ho hb hy hw hd k
theorem gs (j m':Nat) (ho:ops[j]?=some o) (k:TG w0 N D (ky o.dst undef L) h rd P ops A Q pend m') (hb:nR ops A m j m'=true:=by kernel_rfl) (hw:gW ops o L=some false:=by rfl) (hd:ltB o.dst N=true:=by rfl):TG w0 N D L h rd P ops A Q pend m:=g_s j m' ho hb hw hd k
theorem gh (j m':Nat){v:Value}{S:H->Prop}(ho:ops[j]?=some o) (hy:YH rd P o L S v) (hS:S h) (k:TG w0 N D (ky o.dst v L) h rd P ops A Q ((j,S) :: pend) m') (hb:nR ops A m j m'=true:=by kernel_rfl) (hw:gW ops o L=some true:=by rfl) (hd:ltB o.dst N=true:=by rfl):TG w0 N D L h rd P ops A Q pend m:=g_h j m' ho hb hy hS hw hd k
theorem g_e (j m':Nat) (pend':List (Nat×(H->Prop))) (hp:pend.filter (fun p=>!(A.getD j 0).testBit p.1)=pend'){K:Value->H->Prop}(ho:ops[j]?=some o) (hb:Bm ops A m j m'=true) (he:EV rd P o L h K) (hw:gW ops o L=some true) (hd:ltB o.dst N=true)
  (k:∀ v h',K v h'->iH pend' h'∧TG w0 N D (ky o.dst v L) h' rd P ops A Q pend' m'):TG w0 N D L h rd P ops A Q pend m:=fun hA a w ha hh hl=>by
 subst hp
 exact G.eff hA hb ho (gK hw ha.get) ((he a w ha.get hh).mono fun v w' ⟨l,kk⟩=>⟨(k v _ kk).1,(k v _ kk).2 hA _ _ (ha.putL hd v) rfl (hl.trans l)⟩)
theorem g_d (hb:zJ ops m=true) (k:Tr w0 N D L h (Q .normal)):TG w0 N D L h rd P ops A Q pend m:=fun hA a w ha hh hl=>G.done hA hb (k a w ha hh hl)
theorem eO {t:Nat}{b:Bool}(hv:lk L t=some (.bool b)) (k1:b=true->TG w0 N D ((t,.bool true) :: L) h rd P ops A Q pend m) (k0:b=false->TG w0 N D ((t,.bool false) :: L) h rd P ops A Q pend m):TG w0 N D L h rd P ops A Q pend m:=fun hA a w ha hh hl=>by
 have fr:∀ c,b=c->Frm a N D ((t,.bool c) :: L):=fun c e=>⟨ha.size,ha.defers,fun u v hu=>by
  rw [md] at hu
  by_cases e':t=u
  ·subst e';simp at hu;subst hu;rw [ha.get _ _ hv,e]
  ·simp [e'] at hu;exact ha.get u v hu⟩
 cases hb:b with
 | true=>exact k1 hb hA a w (fr true hb) hh hl
 | false=>exact k0 hb hA a w (fr false hb) hh hl
theorem bv {id:Nat}(hm:P.follows .mixedOrders=true) (A:List Nat) (hA:pD ops A=true) (k:TG w0 N D L h rd P ops A Q [] 0):Tr w0 N D L h ((Code.region id ops true).wpIn (Fz rd) 0 P Q):=fun a w ha hh hl=>by
 refine wpIn_region_any hm ?_
 refine k hA a { w with drawn:=w.drawn+1 } ha hh ⟨hl.os,hl.tape,hl.output,Nat.le_trans hl.drawn (Nat.le_succ _)⟩ trivial _ _ _ ⟨by simp,fun k o _ hk=>?_,fun k hk=>?_,fun k o _ hk=>by simp at hk,fun k _ hk=>by simp at hk,rfl,rfl,fun _ _=>rfl,?_⟩
 ·exfalso
  rcases Nat.lt_or_ge k ops.size with hlt | hge <;> simp [inR, *] at hk
 ·exfalso
  rcases Nat.lt_or_ge k ops.size with hlt | hge <;> simp [inR, *] at hk
 ·simp
end
set_option linter.unusedSimpArgs false
section
variable {P:Program}{rd:Option Nat}{L:List (Nat×Value)}{h:H}{d:Option Tmp}{ty:TypeId}{ps:String}{af:Array Edge}{g:Option (Nat×Bool)}{x y c:Operand}{vx vy v:Value}
theorem dG {o:Oper}{v:Value}(hd:∀ c,o.op≠.defer c) (hr:∀ a w,Ag a L->(execOp a.eval o).run P w=.ok (.value v) w):YP rd P o L v:=fun a w ha=>by
 rw [Oper.semAt_eq rd _ o hd];exact hr a w ha
theorem Cx {o:Oper}{v:Value}{S:H->Prop}(hd:∀ c,o.op≠.defer c) (hr:∀ a w,Ag a L->S w.heap->(execOp a.eval o).run P w=.ok (.value v) w):YH rd P o L S v:=fun a w ha hs=>by
 rw [Oper.semAt_eq rd _ o hd];exact hr a w ha hs
theorem aw (hx:evL L x=some v):YP rd P ⟨d,.move x,ty,ps,af,g⟩ L v:=dG (by simp) fun a w ha=>by simp only [execOp,ha.ev hx];simp [go_sem]
theorem bp (hx:evL L x=some v):YP rd P ⟨d,.assign x,ty,ps,af,g⟩ L v:=dG (by simp) fun a w ha=>by simp only [execOp,ha.ev hx];simp [go_sem]
theorem qa {w0:World}{h:H}{N:Nat}{D:List Deferred}{Q0:Exit->Act->World->Prop}{ops:Array Oper}{rest:List Oper}(hx:evL L x=some v) (k:Tr w0 N D (ky d v L) h (wpListIn (Fz rd) 0 P ops Q0 rest)) (hw:gW ops ⟨d,.assign x,ty,ps,af,g⟩ L=some true:=by rfl) (hd:ltB d N=true:=by rfl):Tr w0 N D L h (wpListIn (Fz rd) 0 P ops Q0 (⟨d,.assign x,ty,ps,af,g⟩ :: rest)):=tq (bp hx) k hw hd
theorem qm {w0:World}{h:H}{N:Nat}{D:List Deferred}{Q0:Exit->Act->World->Prop}{ops:Array Oper}{rest:List Oper}(hx:evL L x=some v) (k:Tr w0 N D (ky d v L) h (wpListIn (Fz rd) 0 P ops Q0 rest)) (hw:gW ops ⟨d,.move x,ty,ps,af,g⟩ L=some true:=by rfl) (hd:ltB d N=true:=by rfl):Tr w0 N D L h (wpListIn (Fz rd) 0 P ops Q0 (⟨d,.move x,ty,ps,af,g⟩ :: rest)):=tq (aw hx) k hw hd
theorem aL (hc:evL L c=some (.bool true)) (hx:evL L x=some v):YP rd P ⟨d,.pick c x y,ty,ps,af,g⟩ L v:=dG (by simp) fun a w ha=>by simp only [execOp,ha.ev hx,ha.ev hc];simp [asBool,go_sem]
theorem aH (hc:evL L c=some (.bool false)) (hy:evL L y=some v):YP rd P ⟨d,.pick c x y,ty,ps,af,g⟩ L v:=dG (by simp) fun a w ha=>by simp only [execOp,ha.ev hy,ha.ev hc];simp [asBool,go_sem]
theorem nX {p:Addr}(hx:evL L x=some (.pointer (some p))):YP rd P ⟨d,.nilCheck x,ty,ps,af,g⟩ L (.pointer (some p)):=dG (by simp) fun a w ha=>by simp only [execOp,ha.ev hx];simp [go_sem]
theorem ay {s:TypeId}{f off:Nat}{fs:Array Field}{p:Addr}(hs:∀ w,(underlying s).run P w=.ok (.struct fs) w) (hf:∀ w,((do match fs[f]? with | some fd=>(do pure (fd.offset,(← sizeOf fd.type) != 0)) | none=>pure (0,false)):Sem (Nat×Bool)).run P w=.ok (off,true) w)
  (hx:evL L x=some (.pointer (some p))):YP rd P ⟨d,.fieldAddr s x f,ty,ps,af,g⟩ L (.pointer (some (p.add off))):=dG (by simp) fun a w ha=>by
 have hf:=hf w
 cases hfd:fs[f]? with
 | none=>simp [hfd,go_sem] at hf
 | some fd =>
  simp only [hfd] at hf
  cases hsz:(sizeOf fd.type).run P w with
  | halt e w'=>simp [hsz,go_sem] at hf
  | ok n w' =>
   simp [hsz,go_sem] at hf
   obtain ⟨⟨h1,h2⟩,h3⟩:=hf
   subst h1;subst h3
   simp only [execOp,ha.ev hx];simp [Instr.fieldAt,Instr.sureAddr,fieldPlace,hs,hfd,hsz,h2,go_sem]
theorem Eu {t e:TypeId}{p:Addr}{n cap size:Nat}{i:Int}{k:IntKind}(hs:∀ w,(underlying t).run P w=.ok (.slice e) w) (hz:∀ w,(sizeOf e).run P w=.ok size w)
  (hx:evL L x=some (.slice (some p) n cap)) (hy:evL L y=some (.int k i)) (h0:0<=i) (h1:i<(n:Int)) :
  YP rd P ⟨d,.indexAddr t x y,ty,ps,af,g⟩ L (.pointer (some (p.add (i.toNat*size)))):=dG (by simp) fun a w ha=>by
 simp only [execOp,ha.ev hx,ha.ev hy];simp [Instr.indexAt,asIntOf,hs,hz,h0,h1,go_sem]
theorem bB {t:TypeId}{o:Option Addr}{n cap:Nat}{e:TypeId}{ts:Array TypeId}(hs:∀ w,(underlying t).run P w=.ok (.slice e) w) (hx:evL L x=some (.slice o n cap)) :
  YP rd P ⟨d,.call { callee:=.builtin .len,args:=#[x],argTypes:=#[t] },ty,ps,af,g⟩ L (.int .i64 n):=dG (by simp) fun a w ha=>by
 simp only [execOp,resolve,List.map_toArray,List.map_cons,List.map_nil,ha.ev hx];simp [invoke,builtin,Builtin.len_,hs,goInt,go_sem]
theorem jG {t:TypeId}{s:ByteArray}(hs:∀ w,(underlying t).run P w=.ok .string w) (hx:evL L x=some (.string s)) :
  YP rd P ⟨d,.call { callee:=.builtin .len,args:=#[x],argTypes:=#[t] },ty,ps,af,g⟩ L (.int .i64 s.size):=dG (by simp) fun a w ha=>by
 simp only [execOp,resolve,List.map_toArray,List.map_cons,List.map_nil,ha.ev hx];simp [invoke,builtin,Builtin.len_,hs,goInt,go_sem]
theorem bE {t t':TypeId}{k:IntKind}{m n:Int}(hx:evL L x=some (.int k m)) (hy:evL L y=some (.int k n)):YP rd P ⟨d,.binOp .add t x y t',ty,ps,af,g⟩ L (.int k (k.wrap (m+n))):=dG (by simp) fun a w ha=>by
 simp only [execOp,ha.ev hx,ha.ev hy];simp [eqGuard,binOp,Op.intArith,go_sem]
theorem cJ {t t':TypeId}{k:IntKind}{m n:Int}(hx:evL L x=some (.int k m)) (hy:evL L y=some (.int k n)):YP rd P ⟨d,.binOp .sub t x y t',ty,ps,af,g⟩ L (.int k (k.wrap (m-n))):=dG (by simp) fun a w ha=>by
 simp only [execOp,ha.ev hx,ha.ev hy];simp [eqGuard,binOp,Op.intArith,go_sem]
theorem i8 {t t':TypeId}{k:IntKind}{m n:Int}(hx:evL L x=some (.int k m)) (hy:evL L y=some (.int k n)):YP rd P ⟨d,.binOp .mul t x y t',ty,ps,af,g⟩ L (.int k (k.wrap (m*n))):=dG (by simp) fun a w ha=>by
 simp only [execOp,ha.ev hx,ha.ev hy];simp [eqGuard,binOp,Op.intArith,go_sem]
theorem Cv {t t':TypeId}{k:IntKind}{m n:Int}(hx:evL L x=some (.int k m)) (hy:evL L y=some (.int k n)) (h0:n≠0):YP rd P ⟨d,.binOp .quo t x y t',ty,ps,af,g⟩ L (.int k (k.wrap (m.tdiv n))):=dG (by simp) fun a w ha=>by
 simp only [execOp,ha.ev hx,ha.ev hy];simp [eqGuard,binOp,Op.intDiv,h0,go_sem]
theorem pz {t t':TypeId}{k:IntKind}{m n:Int}(hx:evL L x=some (.int k m)) (hy:evL L y=some (.int k n)) (h0:n≠0):YP rd P ⟨d,.binOp .rem t x y t',ty,ps,af,g⟩ L (.int k (m.tmod n)):=dG (by simp) fun a w ha=>by
 simp only [execOp,ha.ev hx,ha.ev hy];simp [eqGuard,binOp,Op.intDiv,h0,go_sem]
theorem Ee {t t':TypeId}{k k':IntKind}{m n:Int}(hx:evL L x=some (.int k m)) (hy:evL L y=some (.int k' n)) (h0:0<=n):YP rd P ⟨d,.binOp .shl t x y t',ty,ps,af,g⟩ L (.int k (k.wrap (m*2 ^ (min n.toNat k.bits)))):=dG (by simp) fun a w ha=>by
 have h0':¬ n<0:=by omega
 simp only [execOp,ha.ev hx,ha.ev hy];simp [eqGuard,binOp,Op.shift,h0',go_sem]
theorem li {t t':TypeId}{k k':IntKind}{m n:Int}(hx:evL L x=some (.int k m)) (hy:evL L y=some (.int k' n)) (h0:0<=n):YP rd P ⟨d,.binOp .shr t x y t',ty,ps,af,g⟩ L (.int k (m.fdiv (2 ^ (min n.toNat k.bits)))):=dG (by simp) fun a w ha=>by
 have h0':¬ n<0:=by omega
 simp only [execOp,ha.ev hx,ha.ev hy];simp [eqGuard,binOp,Op.shift,h0',go_sem]
def cj (op:BinOp) (k:IntKind) (m n:Int):Int:=
 let a:=BitVec.ofInt k.bits m
 let b:=BitVec.ofInt k.bits n
 match op with
 | .and=>k.wrap (a &&& b).toNat
 | .or=>k.wrap (a ||| b).toNat
 | .xor=>k.wrap (a ^^^ b).toNat
 | _=>k.wrap (a &&& ~~~b).toNat
theorem tc {t t':TypeId}{k:IntKind}{m n:Int}(hx:evL L x=some (.int k m)) (hy:evL L y=some (.int k n)):YP rd P ⟨d,.binOp .and t x y t',ty,ps,af,g⟩ L (.int k (cj .and k m n)):=dG (by simp) fun a w ha=>by
 simp only [execOp,ha.ev hx,ha.ev hy];simp [eqGuard,binOp,Op.intBits,cj,go_sem]
theorem Ev {t t':TypeId}{k:IntKind}{m n:Int}(hx:evL L x=some (.int k m)) (hy:evL L y=some (.int k n)):YP rd P ⟨d,.binOp .or t x y t',ty,ps,af,g⟩ L (.int k (cj .or k m n)):=dG (by simp) fun a w ha=>by
 simp only [execOp,ha.ev hx,ha.ev hy];simp [eqGuard,binOp,Op.intBits,cj,go_sem]
theorem Cw {t t':TypeId}{k:IntKind}{m n:Int}(hx:evL L x=some (.int k m)) (hy:evL L y=some (.int k n)):YP rd P ⟨d,.binOp .xor t x y t',ty,ps,af,g⟩ L (.int k (cj .xor k m n)):=dG (by simp) fun a w ha=>by
 simp only [execOp,ha.ev hx,ha.ev hy];simp [eqGuard,binOp,Op.intBits,cj,go_sem]
theorem ct {t t':TypeId}{k:IntKind}{m n:Int}(hx:evL L x=some (.int k m)) (hy:evL L y=some (.int k n)):YP rd P ⟨d,.binOp .eql t x y t',ty,ps,af,g⟩ L (.bool (m == n)):=dG (by simp) fun a w ha=>by
 simp only [execOp,ha.ev hx,ha.ev hy];simp [eqGuard,binOp,Op.intCmp,go_sem]
theorem ey {t t':TypeId}{k:IntKind}{m n:Int}(hx:evL L x=some (.int k m)) (hy:evL L y=some (.int k n)):YP rd P ⟨d,.binOp .neq t x y t',ty,ps,af,g⟩ L (.bool (m != n)):=dG (by simp) fun a w ha=>by
 simp only [execOp,ha.ev hx,ha.ev hy];simp [eqGuard,binOp,Op.intCmp,go_sem]
theorem bN {t t':TypeId}{k:IntKind}{m n:Int}(hx:evL L x=some (.int k m)) (hy:evL L y=some (.int k n)):YP rd P ⟨d,.binOp .lss t x y t',ty,ps,af,g⟩ L (.bool (decide (m<n))):=dG (by simp) fun a w ha=>by
 simp only [execOp,ha.ev hx,ha.ev hy];simp [eqGuard,binOp,Op.intCmp,go_sem]
theorem lh {t t':TypeId}{k:IntKind}{m n:Int}(hx:evL L x=some (.int k m)) (hy:evL L y=some (.int k n)):YP rd P ⟨d,.binOp .leq t x y t',ty,ps,af,g⟩ L (.bool (decide (m<=n))):=dG (by simp) fun a w ha=>by
 simp only [execOp,ha.ev hx,ha.ev hy];simp [eqGuard,binOp,Op.intCmp,go_sem]
theorem df {t t':TypeId}{k:IntKind}{m n:Int}(hx:evL L x=some (.int k m)) (hy:evL L y=some (.int k n)):YP rd P ⟨d,.binOp .gtr t x y t',ty,ps,af,g⟩ L (.bool (decide (m > n))):=dG (by simp) fun a w ha=>by
 simp only [execOp,ha.ev hx,ha.ev hy];simp [eqGuard,binOp,Op.intCmp,go_sem]
theorem jT {t t':TypeId}{k:IntKind}{m n:Int}(hx:evL L x=some (.int k m)) (hy:evL L y=some (.int k n)):YP rd P ⟨d,.binOp .geq t x y t',ty,ps,af,g⟩ L (.bool (decide (m>=n))):=dG (by simp) fun a w ha=>by
 simp only [execOp,ha.ev hx,ha.ev hy];simp [eqGuard,binOp,Op.intCmp,go_sem]
theorem A2 {t t':TypeId}{m n:ByteArray}(hx:evL L x=some (.string m)) (hy:evL L y=some (.string n)):YP rd P ⟨d,.binOp .eql t x y t',ty,ps,af,g⟩ L (.bool (m.toList == n.toList)):=dG (by simp) fun a w ha=>by
 simp only [execOp,ha.ev hx,ha.ev hy];simp [eqGuard,binOp,Op.stringOp,go_sem]
theorem Dy {t t':TypeId}{m n:ByteArray}(hx:evL L x=some (.string m)) (hy:evL L y=some (.string n)):YP rd P ⟨d,.binOp .neq t x y t',ty,ps,af,g⟩ L (.bool (!(m.toList == n.toList))):=dG (by simp) fun a w ha=>by
 simp only [execOp,ha.ev hx,ha.ev hy];simp [eqGuard,binOp,Op.stringOp,go_sem]
theorem eI {b:Bool}(hx:evL L x=some (.bool b)){t:TypeId}:YP rd P ⟨d,.unOp .not t x,ty,ps,af,g⟩ L (.bool (!b)):=dG (by simp) fun a w ha=>by
 simp only [execOp,ha.ev hx];simp [Op.unary,go_sem]
theorem fN {k k':IntKind}{n:Int}{s t:TypeId}{e:TypeDesc}(hs:∀ w,(underlying s).run P w=.ok e w) (ht:∀ w,(underlying t).run P w=.ok (.int k') w) (hx:evL L x=some (.int k n)) :
  YP rd P ⟨d,.convert s t x,ty,ps,af,g⟩ L (.int k' (k'.wrap n)):=dG (by simp) fun a w ha=>by
 simp only [execOp,ha.ev hx];cases e <;> simp [convert,hs,ht,Conv.intToInt,go_sem]
theorem bW {vs:Array Value}{i:Nat}(hx:evL L x=some (.tuple vs)) (hi:vs[i]?=some v):YP rd P ⟨d,.extract x i,ty,ps,af,g⟩ L v:=dG (by simp) fun a w ha=>by
 simp only [execOp,ha.ev hx];simp [Instr.extract,hi,go_sem]
theorem Dw {fn:Go.Fn}{fi ca:Array Operand}{vf vc:Array Value}(h1:∀ a,Ag a L->fi.map a.eval=vf) (h2:∀ a,Ag a L->ca.map a.eval=vc):YP rd P ⟨d,.makeFunc fn fi ca,ty,ps,af,g⟩ L (.func fn vf vc):=dG (by simp) fun a w ha=>by
 simp only [execOp];simp [Instr.makeFunc,h1 a ha,h2 a ha,go_sem]
theorem aD {t:TypeId}{p:Addr}(hs:∀ w,(isAgg t).run P w=.ok false w) (hx:evL L x=some (.pointer (some p))):YH rd P ⟨d,.load t x,ty,ps,af,g⟩ L (fun h=>aA h p=some v) v:=Cx (by simp) fun a w ha hc=>by
 have hc':w.cell? p=some v:=hc
 simp only [execOp,ha.ev hx];simp [Instr.loadAt,Instr.sureAddr,loadVar,hs,load,Sem.run,hc',go_sem]
def Cells (h:H) (p:Addr) (cs:List Value):Prop:=∀ i v,cs[i]?=some v->aA h (p.add i)=some v
theorem aQ {t:TypeId}{p:Addr}{cs:List Value}{n:Nat}(hs:∀ w,(isAgg t).run P w=.ok true w) (hz:∀ w,(sizeOf t).run P w=.ok n w) (hn:cs.length=n) (hx:evL L x=some (.pointer (some p))):YH rd P ⟨d,.load t x,ty,ps,af,g⟩ L (fun h=>Cells h p cs) (.agg cs.toArray):=Cx (by simp) fun a w ha hc=>by
 have hr:=run_loadCells_list (P:=P) (w:=w) p cs fun j v hj=>hc j v hj
 subst hn
 unfold loadCells at hr
 simp only [execOp,ha.ev hx];simp [loadCells,Instr.loadAt,Instr.sureAddr,loadVar,hs,hz,hr,go_sem]
end
def cY {α:Type}(P:Program) (s:Sem α) (h:H) (K:α->H->Prop):Prop:=
 ∀ w:World,w.heap=h->∃ v w',s.run P w=.ok v w'∧eJ w w'∧K v w'.heap
theorem cY.mono {α:Type}{P:Program}{s:Sem α}{h:H}{K K':α->H->Prop}(hr:cY P s h K) (hk:∀ v h',K v h'->K' v h'):cY P s h K':=fun w hw =>
 let ⟨v,w',e,l,k⟩:=hr w hw;⟨v,w',e,l,hk _ _ k⟩
theorem cY.pure {α:Type}{P:Program}{a:α}{h:H}{K:α->H->Prop}(k:K a h):cY P (Pure.pure a:Sem α) h K:=fun w hw=>⟨a,w,by simp [go_sem],eJ.refl w,hw ▸ k⟩
theorem cY.bind {α β:Type}{P:Program}{s:Sem α}{f:α->Sem β}{h:H}{K:β->H->Prop}(k:cY P s h fun v h'=>cY P (f v) h' K):cY P (s >>= f) h K:=fun w hw=>by
 obtain ⟨v,w1,e1,l1,k1⟩:=k w hw
 obtain ⟨u,w2,e2,l2,k2⟩:=k1 w1 rfl
 exact ⟨u,w2,by simp [go_sem,e1,e2],l1.trans l2,k2⟩
theorem cY.of_run {α:Type}{P:Program}{s:Sem α}{v:α}{h:H}{K:α->H->Prop}(hr:∀ w:World,w.heap=h->s.run P w=.ok v w) (k:K v h):cY P s h K:=fun w hw=>⟨v,w,hr w hw,eJ.refl w,hw ▸ k⟩
section
variable {P:Program}{rd:Option Nat}{L:List (Nat×Value)}{h:H}{d:Option Tmp}{ty:TypeId}{ps:String}{af:Array Edge}{g:Option (Nat×Bool)}{x y c:Operand}{vx vy v:Value}
theorem lb {o:Oper}{K:Value->H->Prop}(hd:∀ c,o.op≠.defer c){s:Sem Value}(he:∀ a,Ag a L->execOp a.eval o=(do pure (.value (← s)):Sem Next)) (hs:cY P s h K):EV rd P o L h K:=fun a w ha hw=>by
 obtain ⟨v,w',e,l,k⟩:=hs w hw
 unfold fa
 rw [Oper.semAt_eq rd _ o hd,he a ha]
 simp only [show ((do pure (.value (← s)):Sem Next)).run P w=.ok (.value v) w' from by simp [go_sem,e]]
 exact ⟨l,k⟩
theorem Cf {o:Oper}{K:Value->H->Prop}(hd:∀ c,o.op≠.defer c){s:Sem Unit}(he:∀ a,Ag a L->execOp a.eval o=(do s;pure .skip:Sem Next)) (hs:cY P s h fun _ h'=>K undef h'):EV rd P o L h K:=fun a w ha hw=>by
 obtain ⟨v,w',e,l,k⟩:=hs w hw
 unfold fa
 rw [Oper.semAt_eq rd _ o hd,he a ha]
 simp only [show ((do s;pure .skip:Sem Next)).run P w=.ok .skip w' from by simp [go_sem,e]]
 exact ⟨l,k⟩
theorem cY.newObj {o:Obj}{K:Nat->H->Prop}(k:K h.size (h.push o)):cY P (newObj o) h K:=fun w hw=>⟨w.heap.size,{ w with heap:=w.heap.push o },rfl,⟨rfl,rfl,rfl,by first | exact Nat.le_refl _ | exact Nat.le_succ _ | exact Nat.le_add_right _ _⟩,by subst hw;exact k⟩
theorem cY.newRow {e:TypeId}{cs:Array Value}{K:Addr->H->Prop}(k:K ⟨h.size,0,none⟩ (h.push (.cells cs e))):cY P (newRow e cs) h K:=cY.bind (cY.newObj (cY.pure k))
theorem DQ {e:TypeId}{K:Value->H->Prop}(hx:evL L x=some vx) (k:K (.pointer (some ⟨h.size,0,none⟩)) (h.push (.cells vx.cells e))):EV rd P ⟨d,.box e x,ty,ps,af,g⟩ L h K:=
 lb (by simp) (s:=Instr.box e vx) (fun a ha=>by simp only [execOp,ha.ev hx]) (cY.bind (cY.newRow (cY.pure k)))
theorem Bk {e:TypeId}{z:Value}{K:Value->H->Prop}(hz:∀ w,(zeroValue e).run P w=.ok z w) (k:K (.pointer (some ⟨h.size,0,none⟩)) (h.push (.cells z.cells e))):EV rd P ⟨d,.alloc e,ty,ps,af,g⟩ L h K:=
 lb (by simp) (s:=Instr.alloc e true (.tuple #[])) (fun a ha=>by simp only [execOp]) (cY.bind (cY.of_run (fun w _=>hz w) (cY.bind (cY.newRow (cY.pure k)))))
theorem cY.store {a:Addr}{v old:Value}{K:Unit->H->Prop}(hv:v.oneCell'=true) (hc:aA h a=some old) (hf:je h a=false) (k:K () (oR h a v)):cY P (store a v) h K:=fun w hw=>by
 subst hw
 have hc':w.cell? a=some old:=hc
 have hf':w.frozen? a=false:=hf
 refine ⟨(),w.setCell a v,?_,⟨rfl,rfl,rfl,by first | exact Nat.le_refl _ | exact Nat.le_succ _ | exact Nat.le_add_right _ _⟩,k⟩
 cases v <;> simp [Value.oneCell'] at hv <;> simp [store,Sem.run,hc',hf']
def mv (h:H) (p:Addr):List Value->Nat->H
 | [],_=>h
 | v :: r,i=>mv (oR h (p.add i) v) p r (i+1)
theorem pE {h:H}{a b:Addr}{v:Value}(hne:a.block≠b.block∨a.off≠b.off):aA (oR h a v) b=aA h b:=by
 unfold aA oR
 by_cases e:a.block=b.block
 ·rw [e]
  cases hb:h[b.block]? with
  | none=>simp [Array.getElem?_modify,hb]
  | some o =>
   have ho:a.off≠b.off:=hne.resolve_left fun k=>k e
   cases o <;> simp [Array.getElem?_modify,hb]
   split
   ·rfl
   ·split
    ·rfl
    ·rw [Array.getElem?_setIfInBounds_ne ho]
 ·simp [Array.getElem?_modify,e]
theorem uI {h:H}{a b:Addr}{v:Value}:je (oR h a v) b=je h b:=by
 unfold je oR
 by_cases e:a.block=b.block
 ·rw [e]
  cases hb:h[b.block]? with
  | none=>simp [Array.getElem?_modify,hb]
  | some o=>cases o <;> simp [Array.getElem?_modify,hb]
 ·simp [Array.getElem?_modify,e]
theorem Addr.add_off (p:Addr) (i:Nat):(p.add i).off=p.off+i:=by unfold Addr.add;split <;> simp_all
theorem Addr.add_block (p:Addr) (i:Nat):(p.add i).block=p.block:=by unfold Addr.add;split <;> rfl
theorem cY.storeCells {p:Addr}{K:Unit->H->Prop}:∀ (vs:List Value) (i:Nat) (h:H),(∀ v∈vs,v.oneCell'=true)->(∀ j,j<vs.length->(aA h (p.add (i+j))).isSome=true∧je h (p.add (i+j))=false)->K () (mv h p vs i)->cY P (storeCells p vs i) h K
 | [],i,h,_,_,k=>cY.pure k
 | v :: r,i,h,ho,hc,k=>by
  obtain ⟨h0,f0⟩:=hc 0 (by simp)
  obtain ⟨old,hold⟩:=Option.isSome_iff_exists.1 h0
  rw [Nat.add_zero] at hold f0
  refine cY.bind (cY.store (ho v (by simp)) hold f0 ?_)
  refine cY.storeCells r (i+1) _ (fun u hu=>ho u (List.mem_cons_of_mem _ hu)) (fun j hj=>?_) k
  obtain ⟨h1,f1⟩:=hc (j+1) (by simp;omega)
  rw [show i+(j+1)=i+1+j from by omega] at h1 f1
  rw [pE (.inr (by simp only [Addr.add_off];omega)),uI]
  exact ⟨h1,f1⟩
theorem Bl {t:TypeId}{p:Addr}{n:Nat}{K:Value->H->Prop}(hz:∀ w,(sizeOf t).run P w=.ok n w) (hx:evL L x=some (.pointer (some p))) (hy:evL L y=some vy) (hn:vy.cells.size=n)
  (ho:∀ v∈vy.cells.toList,v.oneCell'=true) (hc:∀ j,j<n->(aA h (p.add j)).isSome=true∧je h (p.add j)=false) (k:K undef (mv h p vy.cells.toList 0)):EV rd P ⟨d,.store t x y,ty,ps,af,g⟩ L h K:=
 Cf (by simp) (s:=Instr.storeAt t (.pointer (some p)) vy) (fun a ha=>by simp only [execOp,ha.ev hx,ha.ev hy]) (by
  unfold Instr.storeAt
  refine cY.bind (cY.pure ?_)
  unfold storeVar
  refine cY.bind (cY.of_run (fun w _=>hz w) ?_)
  simp only [hn,ne_eq,not_true_eq_false,if_false]
  refine cY.bind (cY.pure ?_)
  refine cY.storeCells _ 0 _ ho (fun j hj=>?_) k
  rw [Nat.zero_add]
  exact hc j (by simpa [hn] using hj))
def kO (L:List (Nat×Value)):List Operand->Option (List Value)
 | []=>some []
 | x :: r=>match evL L x,kO L r with
  | some v,some vs=>some (v :: vs)
  | _,_=>none
theorem Ag.evs {a:Act}(ha:Ag a L):∀ {xs:List Operand}{vs:List Value},kO L xs=some vs->xs.map a.eval=vs:=by
 intro xs
 induction xs with
 | nil=>intro vs h;simp [kO] at h;subst h;rfl
 | cons x r ih =>
  intro vs h
  unfold kO at h
  split at h
  ·rename_i v vs' h1 h2
   simp at h;subst h
   simp [ha.ev h1,ih h2]
  ·cases h
theorem av {f:FuncId}{asL:List Operand}{ts:Array TypeId}{vs:List Value}{K:Value->H->Prop}(hc:∀ args w,(callFunc f args).run P w=.ok (.enter f args) w) (ha:kO L asL=some vs) (hF:Fn P f vs.toArray h K) :
  EV rd P ⟨d,.call { callee:=.value (.func f),args:=asL.toArray,argTypes:=ts },ty,ps,af,g⟩ L h K:=fun a w hag hw=>by
 unfold fa
 rw [Oper.semAt_eq rd _ _ (by simp)]
 have hr:(execOp a.eval ⟨d,.call { callee:=.value (.func f),args:=asL.toArray,argTypes:=ts },ty,ps,af,g⟩).run P w=.ok (.enter f vs.toArray) w:=by
  simp only [execOp,resolve,List.map_toArray,hag.evs ha,Act.eval,Deferred.ofValue]
  simp [invoke,go_sem,hc]
 rw [hr]
 exact CallsIn.mono (hF w hw) fun e w' ⟨r,he,hl,q⟩=>⟨r,he,hl,q⟩
end
theorem rz {P:Program}{rd:Option Nat}{L:List (Nat×Value)}{h:H}{o:Oper}{v:Value}(hy:YP rd P o L v):EV rd P o L h fun u h'=>u=v∧h'=h:=
 YH.ev (S:=fun _=>True) (fun a w ha _=>hy a w ha) trivial
def sx:List Value->Nat->List (Nat×Value)
 | [],_=>[]
 | v :: r,i=>(i,v) :: sx r (i+1)
theorem qE:∀ (vs:List Value) (i t:Nat) (v:Value),lk (sx vs i) t=some v->i<=t∧vs[t-i]?=some v
 | [],i,t,v,h=>by simp [sx,lk] at h
 | u :: r,i,t,v,h=>by
  rw [sx,md] at h
  by_cases e:i=t
  ·subst e;simp at h;subst h;simp
  ·simp [e] at h
   obtain ⟨h1,h2⟩:=qE r (i+1) t v h
   refine ⟨by omega,?_⟩
   rw [show t-i=(t-(i+1))+1 from by omega,List.getElem?_cons_succ]
   exact h2
def mY (P:Program) (fn:Func) (Q:Value->H->Prop) (w0:World):Exit->Act->World->Prop:=
 bodyPost P fn fun e w'=>∃ r,e=.returned r∧eJ w0 w'∧Q r w'.heap
theorem aV {P:Program}{f:FuncId}{fn:Func}{c:Code}{vs:List Value}{h:H}{Q:Value->H->Prop}{N:Nat}(hf:P.funcs[f]?=some fn) (hN:fn.ntmps=N) (hb:fn.body=some c) (hn:Nat.ble vs.length N=true)
  (k:∀ w0,Tr w0 N [] (sx vs 0) h (c.wpIn (Fz none) 0 P (mY P fn Q w0))):Fn P f vs.toArray h Q:=fun w hw=>by
 subst hN
 refine callsIn_of_wp hf hb trivial ?_
 refine k w _ w ⟨?_,rfl,fun t v ht=>?_⟩ hw (eJ.refl w)
 ·have:=Nat.le_of_ble_eq_true hn
  simp;omega
 ·obtain ⟨_,h2⟩:=qE vs 0 t v ht
  rw [Nat.sub_zero] at h2
  have hlt:t<vs.length:=(List.getElem?_eq_some_iff.1 h2).1
  rw [Array.getD_eq_getD_getElem?,Array.getElem?_append_left (by simpa using hlt)]
  simp [h2]
section
variable {w0:World}{N:Nat}{L:List (Nat×Value)}{h:H}{P:Program}{fn:Func}{Q:Value->H->Prop}{v:Value}
theorem uj (hr:fn.results=#[]) (k:Q (.tuple #[]) h):Tr w0 N [] L h (mY P fn Q w0 .ret):=fun a w ha hh hl =>
 ⟨ha.defers,_,results_none hr _ _ _,_,rfl,hl,hh ▸ k⟩
theorem jk (hr:fn.results=#[]) (k:Q (.tuple #[]) h):Tr w0 N [] L h (mY P fn Q w0 .normal):=fun a w ha hh hl =>
 ⟨ha.defers,_,results_none hr _ _ _,_,rfl,hl,hh ▸ k⟩
theorem an {t:Tmp}(hr:fn.results=#[.tmp t]) (hv:lk L t=some v) (k:Q v h):Tr w0 N [] L h (mY P fn Q w0 .ret):=fun a w ha hh hl=>by
 refine ⟨ha.defers,_,results_tmp hr _ _ _,_,rfl,hl,?_⟩
 rw [ha.get _ _ hv,hh];exact k
theorem cw {t u:Tmp}{v1 v2:Value}(hr:fn.results=#[.tmp t,.tmp u]) (h1:lk L t=some v1) (h2:lk L u=some v2) (k:Q (.tuple #[v1,v2]) h):Tr w0 N [] L h (mY P fn Q w0 .ret):=fun a w ha hh hl=>by
 refine ⟨ha.defers,_,results_tmp2 hr _ _ _,_,rfl,hl,?_⟩
 rw [ha.get _ _ h1,ha.get _ _ h2,hh];exact k
end
structure Sl where
 ptr:Option Addr
 len:Nat
 cap:Nat
abbrev Sl.enc (s:Sl):Value:=.slice s.ptr s.len s.cap
def ldI (k:IntKind) (h:H) (a:Addr) (K:Int->Prop):Prop:=∃ n,aA h a=some (.int k n)∧K n
def ldB (h:H) (a:Addr) (K:Bool->Prop):Prop:=∃ n,aA h a=some (.bool n)∧K n
def ldS (h:H) (a:Addr) (K:ByteArray->Prop):Prop:=∃ n,aA h a=some (.string n)∧K n
def ldP (h:H) (a:Addr) (K:Option Addr->Prop):Prop:=∃ n,aA h a=some (.pointer n)∧K n
def ldL (h:H) (a:Addr) (K:Sl->Prop):Prop:=∃ n:Sl,aA h a=some n.enc∧K n
def ldV (h:H) (a:Addr) (K:Value->Prop):Prop:=∃ n,aA h a=some n∧K n
def nn (p:Option Addr) (K:Addr->Prop):Prop:=∃ a,p=some a∧K a
def B9 (s:Sl) (i:Int) (size:Nat) (a:Addr):Prop:=∃ p,s.ptr=some p∧0<=i∧i<(s.len:Int)∧a=p.add (i.toNat*size)
def bD (s:Sl) (i:Int) (size:Nat) (K:Addr->Prop):Prop:=∃ a,B9 s i size a∧K a
def zd (s:ByteArray) (i:Int) (n:Int):Prop:=∃ b:UInt8,0<=i∧s[i.toNat]?=some b∧n=(b.toNat:Int)
def rH (s:ByteArray) (i:Int) (K:Int->Prop):Prop:=∃ n,zd s i n∧K n
def stH (h:H) (a:Addr) (vs:List Value) (K:H->Prop):Prop:=(∀ j,j<vs.length->(aA h (a.add j)).isSome=true∧je h (a.add j)=false)∧K (mv h a vs 0)
def new (h:H) (cs:Array Value) (e:TypeId) (K:Addr->H->Prop):Prop:=K ⟨h.size,0,none⟩ (h.push (.cells cs e))
def fv (h:H) (cs:Array Value) (e:TypeId) (n:Nat) (K:Sl->H->Prop):Prop:=K ⟨some ⟨h.size,0,none⟩,n,n⟩ (h.push (.cells cs e))
def cS (s:Sl) (lo hi size:Nat):Sl:=⟨if s.cap=lo then s.ptr else s.ptr.map (·.add (lo*size)),hi-lo,s.cap-lo⟩
def Dz (s:Sl) (lo hi:Int) (size:Nat) (r:Sl):Prop:=0<=lo∧lo<=hi∧hi<=(s.cap:Int)∧r=cS s lo.toNat hi.toNat size
def ly (s:Sl) (lo hi:Int) (size:Nat) (K:Sl->Prop):Prop:=∃ r,Dz s lo hi size r∧K r
def dA (P:Program) (s:Sem Value) (h:H) (K:Sl->H->Prop):Prop:=cY P s h fun v h'=>∃ r:Sl,v=r.enc∧K r h'
def BS (P:Program) (s:Sem Value) (h:H) (k:IntKind) (K:Int->H->Prop):Prop:=cY P s h fun v h'=>∃ r,v=.int k r∧K r h'
def BT (P:Program) (s:Sem Value) (h:H) (K:ByteArray->H->Prop):Prop:=cY P s h fun v h'=>∃ r,v=.string r∧K r h'
section
variable {P:Program}{rd:Option Nat}{L:List (Nat×Value)}{h:H}{d:Option Tmp}{ty:TypeId}{ps:String}{af:Array Edge}{g:Option (Nat×Bool)}{x y c:Operand}{vx vy v:Value}
theorem cb {e:TypeId}{cs:Array Value}{K:Addr->H->Prop}(hx:evL L x=some vx) (hc:vx.cells=cs) (k:new h cs e K):EV rd P ⟨d,.box e x,ty,ps,af,g⟩ L h fun v h'=>∃ a,v=.pointer (some a)∧K a h':=
 DQ hx ⟨_,rfl,by rw [hc];exact k⟩
theorem bJ {e:TypeId}{z:Value}{cs:Array Value}{K:Addr->H->Prop}(hz:∀ w,(zeroValue e).run P w=.ok z w) (hc:z.cells=cs) (k:new h cs e K):EV rd P ⟨d,.alloc e,ty,ps,af,g⟩ L h fun v h'=>∃ a,v=.pointer (some a)∧K a h':=
 Bk hz ⟨_,rfl,by rw [hc];exact k⟩
theorem aK {t:TypeId}{p:Addr}{n:Nat}{vs:List Value}{K:H->Prop}(hz:∀ w,(sizeOf t).run P w=.ok n w) (hx:evL L x=some (.pointer (some p))) (hy:evL L y=some vy) (hc:vy.cells.toList=vs) (hn:vs.length=n) (ho:∀ v∈vs,v.oneCell'=true) (k:stH h p vs K) :
  EV rd P ⟨d,.store t x y,ty,ps,af,g⟩ L h fun v h'=>v=undef∧K h':=by
 subst hc
 exact Bl hz hx hy (by rw [← hn];simp) ho (fun j hj=>k.1 j (by omega)) ⟨rfl,k.2⟩
theorem bf {t e:TypeId}{s:Sl}{size:Nat}{i:Int}{k:IntKind}{a:Addr}(hs:∀ w,(underlying t).run P w=.ok (.slice e) w) (hz:∀ w,(sizeOf e).run P w=.ok size w)
  (hx:evL L x=some s.enc) (hy:evL L y=some (.int k i)) (ha:B9 s i size a) :
  YP rd P ⟨d,.indexAddr t x y,ty,ps,af,g⟩ L (.pointer (some a)):=by
 obtain ⟨p,hp,h0,h1,rfl⟩:=ha
 exact Eu hs hz (by rw [hx,Sl.enc,hp]) hy h0 h1
theorem bG {p:Option Addr}{a:Addr}(hx:evL L x=some (.pointer p)) (ha:p=some a):YP rd P ⟨d,.nilCheck x,ty,ps,af,g⟩ L (.pointer (some a)):=nX (by rw [hx,ha])
theorem kP {t:TypeId}{s:ByteArray}{i n:Int}{k:IntKind}(hs:∀ w,(underlying t).run P w=.ok .string w) (hx:evL L x=some (.string s)) (hy:evL L y=some (.int k i)) (hb:zd s i n) :
  YP rd P ⟨d,.index t x y,ty,ps,af,g⟩ L (.int .u8 n):=dG (by simp) fun a w ha=>by
 obtain ⟨b,h0,hb,rfl⟩:=hb
 simp only [execOp,ha.ev hx,ha.ev hy]
 simp [Instr.index,asIntOf,hs,h0,hb,go_sem]
theorem ax {cs:List Value}:(Value.agg cs.toArray).cells.toList=cs:=by simp [Value.cells]
theorem Cg {o:Option Operand}{vo:Option Value}{a:Act}(ha:Ag a L) (h:o.map (evL L)=vo.map some):o.map a.eval=vo:=by
 cases o with
 | none=>cases vo <;> simp at h ⊢
 | some x=>cases vo with
  | none=>simp at h
  | some v=>simp at h ⊢;exact ha.ev h
theorem mw {k:IntKind}{i:Int}{y:Nat}{cd:BoundsCode}(h0:0<=i) (h1:i<=(y:Int)) (w:World):(Instr.sliceBound (.int k i) y cd).run P w=.ok i.toNat w:=by
 simp [Instr.sliceBound,asIntOf,h0,h1,go_sem]
def rJ (lo:Option (IntKind×Int)):Int:=match lo with | some p=>p.2 | none=>0
def rG (hi:Option (IntKind×Int)) (n:Nat):Int:=match hi with | some p=>p.2 | none=>n
def vOf (o:Option (IntKind×Int)):Option Value:=o.map fun p=>.int p.1 p.2
theorem ye {sl:Bool}{lo hi:Option (IntKind×Int)}{n cap:Nat}(h0:0<=rJ lo) (h1:rJ lo<=rG hi n) (h2:rG hi n<=(cap:Int)) (w:World) :
  (Instr.sliceBounds sl n cap (vOf lo) (vOf hi) none).run P w=.ok ((rJ lo).toNat,(rG hi n).toNat,cap) w:=by
 unfold Instr.sliceBounds
 have e1:∀ q:IntKind×Int,0<=q.2->q.2<=(cap:Int)->∀ cd w,(Instr.sliceBound (.int q.1 q.2) cap cd).run P w=.ok q.2.toNat w:=fun q a b cd w=>mw a b w
 have e2:∀ (p:IntKind×Int) (m:Nat),0<=p.2->p.2<=(m:Int)->∀ cd w,(Instr.sliceBound (.int p.1 p.2) m cd).run P w=.ok p.2.toNat w:=fun q m a b cd w=>mw a b w
 cases hi with
 | none =>
  cases lo with
  | none=>rfl
  | some p =>
   simp only [rJ,rG] at h0 h1
   simp only [vOf,Option.map_some,Option.map_none,rJ,rG,Sem.run_bind,Sem.run_pure,Result.andThen,e2 p n h0 h1,Int.toNat_natCast]
 | some q =>
  cases lo with
  | none =>
   simp only [rJ,rG] at h1 h2
   simp only [vOf,Option.map_some,Option.map_none,rJ,rG,Sem.run_bind,Sem.run_pure,Result.andThen,e1 q h1 h2,Int.toNat_zero]
  | some p =>
   simp only [rJ,rG] at h0 h1 h2
   have hq:0<=q.2:=by omega
   simp only [vOf,Option.map_some,rJ,rG,Sem.run_bind,Sem.run_pure,Result.andThen,e1 q hq h2,e2 p q.2.toNat h0 (by omega)]
theorem pZ {s:Sem Value}{v:Value}{w:World}(h:s.run P w=.ok v w):(do pure (.value (← s)):Sem Next).run P w=.ok (.value v) w:=by
 show (s >>= fun v=>pure (Next.value v)).run P w=_
 simp only [Sem.run_bind,h,Result.andThen,Sem.run_pure]
theorem gU {t e:TypeId}{s:Sl}{size:Nat}{lo hi:Option Operand}(lv hv:Option (IntKind×Int)) (hs:∀ w,(underlying t).run P w=.ok (.slice e) w) (hz:∀ w,(sizeOf e).run P w=.ok size w)
  (hx:evL L x=some s.enc) (hl:lo.map (evL L)=(vOf lv).map some) (hh:hi.map (evL L)=(vOf hv).map some){r:Sl}(hc:Dz s (rJ lv) (rG hv s.len) size r) :
  YP rd P ⟨d,.slice t x lo hi none,ty,ps,af,g⟩ L r.enc:=dG (by simp) fun a w ha=>by
 obtain ⟨h0,h1,h2,rfl⟩:=hc
 have hb:=fun w=>ye (P:=P) (sl:=true) h0 h1 h2 w
 simp only [execOp,ha.ev hx,Cg ha hl,Cg ha hh]
 refine pZ ?_
 simp only [Option.map_none,Instr.sliceAt,Instr.slice,Sem.run_bind,hs,Result.andThen,Sl.enc,hb,hz,Sem.run_pure,cS]
theorem tF {b:Builtin}{asL:List Operand}{ts:Array TypeId}{vs:List Value}{a:Act}(hag:Ag a L) (ha:kO L asL=some vs) :
  execOp a.eval ⟨d,.call { callee:=.builtin b,args:=asL.toArray,argTypes:=ts },ty,ps,af,g⟩=builtin b ts ty (asL.toArray.map fun | .const _=>true | _=>false) vs.toArray:=by
 simp only [execOp,resolve,List.map_toArray,hag.evs ha]
 rfl
theorem CU {b:Builtin}{asL:List Operand}{ts:Array TypeId}{vs:List Value}{s:Sem Value}{K:Value->H->Prop}(ha:kO L asL=some vs) (hb:∀ cs,builtin b ts ty cs vs.toArray=(do pure (.value (← s)):Sem Next)) (k:cY P s h K) :
  EV rd P ⟨d,.call { callee:=.builtin b,args:=asL.toArray,argTypes:=ts },ty,ps,af,g⟩ L h K:=lb (by simp) (fun a hag=>by rw [tF hag ha,hb]) k
theorem dV {asL:List Operand}{ts:Array TypeId}{vs:List Value}{K:Sl->H->Prop}(ha:kO L asL=some vs) (k:dA P (Builtin.append_ ts ty vs.toArray) h K) :
  EV rd P ⟨d,.call { callee:=.builtin .append,args:=asL.toArray,argTypes:=ts },ty,ps,af,g⟩ L h fun v h'=>∃ r:Sl,v=r.enc∧K r h':=CU ha (fun _=>rfl) k
theorem mD {t:TypeId}{K:Sl->H->Prop}(hx:evL L x=some vx) (hy:evL L y=some vy) (k:dA P (Instr.makeSlice t vx vy) h K):EV rd P ⟨d,.makeSlice t x y,ty,ps,af,g⟩ L h fun v h'=>∃ r:Sl,v=r.enc∧K r h':=
 lb (by simp) (fun a ha=>by simp only [execOp,ha.ev hx,ha.ev hy]) k
def yn (L:List (Nat×Value)):List (Nat×Operand)->Option (List (Nat×Value))
 | []=>some []
 | p :: r=>match evL L p.2,yn L r with
  | some v,some vs=>some ((p.1,v) :: vs)
  | _,_=>none
theorem Ag.eps {a:Act}(ha:Ag a L):∀ {xs:List (Nat×Operand)}{vs:List (Nat×Value)},yn L xs=some vs->xs.map (fun (i,x)=>(i,a.eval x))=vs:=by
 intro xs
 induction xs with
 | nil=>intro vs h;simp [yn] at h;subst h;rfl
 | cons x r ih =>
  intro vs h
  unfold yn at h
  split at h
  ·rename_i v vs' h1 h2
   simp at h;subst h
   simp only [List.map_cons,ha.ev h1,ih h2]
  ·cases h
theorem bO {t:TypeId}{parts:List (Nat×Operand)}{vs:List (Nat×Value)}(hp:yn L parts=some vs) (hr:∀ w,(Instr.build t vs.toArray).run P w=.ok v w):YP rd P ⟨d,.build t parts.toArray,ty,ps,af,g⟩ L v:=dG (by simp) fun a w ha=>by
 have h1:(parts.toArray.map fun (i,x)=>(i,a.eval x))=vs.toArray:=by rw [List.map_toArray,ha.eps hp]
 simp only [execOp,h1]
 exact pZ (hr w)
theorem co {t e:TypeId}{n:Nat}{parts:List (Nat×Operand)}{vs:List (Nat×Value)}{cs:Array Value}{K:Sl->H->Prop}(hp:yn L parts=some vs) (hr:Instr.buildSlice t n vs.toArray=Instr.buildSlice t n vs.toArray)
  (hb:∀ w,(Instr.buildSlice t n vs.toArray).run P w=.ok (.slice (some ⟨w.heap.size,0,none⟩) n n) { w with heap:=w.heap.push (.cells cs e) }) (k:fv h cs e n K) :
  EV rd P ⟨d,.buildSlice t n parts.toArray,ty,ps,af,g⟩ L h fun v h'=>∃ r:Sl,v=r.enc∧K r h':=lb (by simp) (s:=Instr.buildSlice t n vs.toArray) (fun a ha=>by
  have h1:(parts.toArray.map fun (i,x)=>(i,a.eval x))=vs.toArray:=by rw [List.map_toArray,ha.eps hp]
  simp only [execOp,h1]) fun w hw=>⟨_,_,hb w,⟨rfl,rfl,rfl,by first | exact Nat.le_refl _ | exact Nat.le_succ _ | exact Nat.le_add_right _ _⟩,⟨some ⟨h.size,0,none⟩,n,n⟩,by rw [hw],by subst hw;exact k⟩
theorem zN {s t:TypeId}{K:ByteArray->H->Prop}(hx:evL L x=some vx) (k:BT P (convert s t vx) h K):EV rd P ⟨d,.convert s t x,ty,ps,af,g⟩ L h fun v h'=>∃ r,v=.string r∧K r h':=
 lb (by simp) (fun a ha=>by simp only [execOp,ha.ev hx]) k
theorem CW {s t:TypeId}{K:Sl->H->Prop}(hx:evL L x=some vx) (k:dA P (convert s t vx) h K):EV rd P ⟨d,.convert s t x,ty,ps,af,g⟩ L h fun v h'=>∃ r:Sl,v=r.enc∧K r h':=
 lb (by simp) (fun a ha=>by simp only [execOp,ha.ev hx]) k
theorem zM {asL:Array Operand}{vs:List Value}{a:Act}(ha:Ag a L) (h:kO L asL.toList=some vs):asL.map a.eval=vs.toArray:=by
 have:=ha.evs h
 apply Array.toList_inj.1
 simp [this]
theorem Dv {fn:Go.Fn}{fi ca:Array Operand}{vf vc:List Value}(h1:kO L fi.toList=some vf) (h2:kO L ca.toList=some vc):YP rd P ⟨d,.makeFunc fn fi ca,ty,ps,af,g⟩ L (.func fn vf.toArray vc.toArray):=
 Dw (fun a ha=>zM ha h1) (fun a ha=>zM ha h2)
theorem nI {op:BinOp}{t t':TypeId}{r:Value}(hx:evL L x=some vx) (hy:evL L y=some vy) (hr:∀ w,((do eqGuard op t x y vx vy;binOp op t vx vy):Sem Value).run P w=.ok r w):YP rd P ⟨d,.binOp op t x y t',ty,ps,af,g⟩ L r:=dG (by simp) fun a w ha=>by
 simp only [execOp,ha.ev hx,ha.ev hy]
 exact pZ (hr w)
theorem Ce {t:TypeId}{b:Bool}(h:∀ n w,(Op.equalIn (n+1) t vx vy).run P w=.ok b w) (w:World):(Op.equal t vx vy).run P w=.ok b w:=h 9999 w
theorem tU {t t':TypeId}{b:Bool}(hx:evL L x=some vx) (hy:evL L y=some vy) (h:∀ n w,(Op.equalIn (n+1) t vx vy).run P w=.ok b w) (hg:∀ op,eqGuard op t x y vx vy=pure ()∨eqGuard op t x y vx vy=(if !(op matches .eql | .neq) then pure () else pure ()))
  (hb:binOp .eql t vx vy=(do pure (.bool (← Op.equal t vx vy)))):YP rd P ⟨d,.binOp .eql t x y t',ty,ps,af,g⟩ L (.bool b):=nI hx hy fun w=>by
 have:eqGuard .eql t x y vx vy=pure ():=by rcases hg .eql with h | h <;> rw [h] <;> rfl
 rw [this,hb]
 show ((pure ():Sem Unit) >>= fun _=>Op.equal t vx vy >>= fun r=>pure (Value.bool r)).run P w=_
 simp only [Sem.run_bind,Sem.run_pure,Result.andThen,Ce h w]
theorem xw {t t':TypeId}{b:Bool}(hx:evL L x=some vx) (hy:evL L y=some vy) (h:∀ n w,(Op.equalIn (n+1) t vx vy).run P w=.ok b w) (hg:∀ op,eqGuard op t x y vx vy=pure ()∨eqGuard op t x y vx vy=(if !(op matches .eql | .neq) then pure () else pure ()))
  (hb:binOp .neq t vx vy=(do pure (.bool (!(← Op.equal t vx vy))))):YP rd P ⟨d,.binOp .neq t x y t',ty,ps,af,g⟩ L (.bool (!b)):=nI hx hy fun w=>by
 have:eqGuard .neq t x y vx vy=pure ():=by rcases hg .neq with h | h <;> rw [h] <;> rfl
 rw [this,hb]
 show ((pure ():Sem Unit) >>= fun _=>Op.equal t vx vy >>= fun r=>pure (Value.bool (!r))).run P w=_
 simp only [Sem.run_bind,Sem.run_pure,Result.andThen,Ce h w]
theorem xB {t e:TypeId}{p:Option Addr}(hs:∀ w,(underlying t).run P w=.ok (.pointer e) w) (n:Nat) (w:World):(Op.equalIn (n+1) t (.pointer p) (.pointer none)).run P w=.ok p.isNone w:=by
 cases p <;> unfold Op.equalIn <;> simp only [Sem.run_bind,hs,Result.andThen,Sem.run_pure,Option.isNone_none,Option.isNone_some]
theorem iG {t t' e:TypeId}{p:Option Addr}(hs:∀ w,(underlying t).run P w=.ok (.pointer e) w) (hx:evL L x=some (.pointer p)) (hy:evL L y=some (.pointer none)):YP rd P ⟨d,.binOp .eql t x y t',ty,ps,af,g⟩ L (.bool p.isNone):=
 tU hx hy (xB hs) (fun op=>.inr (by cases op <;> rfl)) (by cases p <;> rfl)
theorem mW {t t' e:TypeId}{p:Option Addr}(hs:∀ w,(underlying t).run P w=.ok (.pointer e) w) (hx:evL L x=some (.pointer p)) (hy:evL L y=some (.pointer none)):YP rd P ⟨d,.binOp .neq t x y t',ty,ps,af,g⟩ L (.bool (!p.isNone)):=
 xw hx hy (xB hs) (fun op=>.inr (by cases op <;> rfl)) (by cases p <;> rfl)
theorem Df {t e:TypeId}{s:Sl}(hs:∀ w,(underlying t).run P w=.ok (.slice e) w) (n:Nat) (w:World):(Op.equalIn (n+1) t s.enc (.slice none 0 0)).run P w=.ok s.ptr.isNone w:=by
 obtain ⟨p,l,c⟩:=s
 cases p <;> unfold Op.equalIn <;> simp only [Sl.enc,Sem.run_bind,hs,Result.andThen,Sem.run_pure,Option.isNone_none,Option.isNone_some]
theorem wR {t t' e:TypeId}{s:Sl}(hs:∀ w,(underlying t).run P w=.ok (.slice e) w) (hx:evL L x=some s.enc) (hy:evL L y=some (.slice none 0 0)):YP rd P ⟨d,.binOp .eql t x y t',ty,ps,af,g⟩ L (.bool s.ptr.isNone):=
 tU hx hy (Df hs) (fun op=>.inr (by cases op <;> rfl)) rfl
def RV (P:Program) (L:List (Nat×Value)) (h:H) (r:ResultVar) (v:Value):Prop:=
 ∀ (a:Act) (w:World),Ag a L->w.heap=h->Sem.run P (match r with
  | .tmp t=>(pure (a.tmps.getD t undef):Sem Value)
  | .cell b t=>do loadVar t (← asAddr (a.tmps.getD b undef))) w=.ok v w
theorem fm {t:Tmp}(hv:lk L t=some v):RV P L h (.tmp t) v:=fun a w ha hh=>by
 show (pure (a.tmps.getD t undef):Sem Value).run P w=_
 rw [ha _ _ hv];rfl
theorem bY {t:Tmp}{e:TypeId}{p:Addr}{cs:List Value}{n:Nat}(hs:∀ w,(isAgg e).run P w=.ok true w) (hz:∀ w,(sizeOf e).run P w=.ok n w) (hn:cs.length=n) (hv:lk L t=some (.pointer (some p))) (hc:Cells h p cs):RV P L h (.cell t e) (.agg cs.toArray):=fun a w ha hh=>by
 subst hh
 have hr:=run_loadCells_list (P:=P) (w:=w) p cs fun j v hj=>hc j v hj
 subst hn
 unfold loadCells at hr
 show ((asAddr (a.tmps.getD t undef)) >>= fun b=>loadVar e b).run P w=_
 rw [ha _ _ hv]
 simp [asAddr,loadVar,loadCells,hs,hz,hr,go_sem]
section
variable {w0:World}{N:Nat}{fn:Func}{Q:Value->H->Prop}{r1 r2 r3:ResultVar}{v1 v2 v3:Value}
theorem eY (hr:fn.results=#[r1]) (h1:RV P L h r1 v1) (k:Q v1 h):Tr w0 N [] L h (mY P fn Q w0 .ret):=fun a w ha hh hl=>by
 refine ⟨ha.defers,v1,?_,_,rfl,hl,hh ▸ k⟩
 have h1:=h1 a w ha.get hh
 cases r1 <;> simp [results,hr] <;> simp [go_sem] at h1 <;> simp [go_sem,h1]
end
end
def ze (P:Program) (v:Value) (args:Array Value) (w:World) (K:Value->World->Prop):Prop:=
 match ((do let d ← Deferred.ofValue v args;invoke d.target d.args):Sem Next).run P w with
 | .ok (.value u) w'=>K u w'
 | .ok .skip w'=>K undef w'
 | .ok (.enter f args) w'=>CallsIn Fence.wide 0 P f args w' fun e w''=>∃ v,e=.returned v∧K v w''
 | .ok (.row row args) w'=>RowsIn Fence.wide 0 P row args w' K
 | .ok (.round l f tmps assign body) w'=>RoundIn Fence.wide 0 P l f tmps assign body w' fun e w''=>∃ v,e=.returned v∧K v w''
 | _=>False
def CV (P:Program) (v:Value) (args:List Value) (h:H) (K:Value->H->Prop):Prop:=
 ∀ w:World,w.heap=h->ze P v args.toArray w fun u w'=>eJ w w'∧K u w'.heap
theorem wS {P:Program}{f:FuncId}{fi ca:Array Value}{args:List Value}{h:H}{K:Value->H->Prop}(hc:∀ args w,(callFunc f args).run P w=.ok (.enter f args) w) (k:Fn P f (fi ++ args.toArray ++ ca) h K):CV P (.func (.func f) fi ca) args h K:=fun w hw=>by
 have hr:((do let d ← Deferred.ofValue (.func (.func f) fi ca) args.toArray;invoke d.target d.args):Sem Next).run P w=.ok (.enter f (fi ++ args.toArray ++ ca)) w:=by
  show (callFunc f (fi ++ args.toArray ++ ca)).run P w=_
  exact hc _ _
 unfold ze
 rw [hr]
 exact CallsIn.mono (k w hw) fun e w' ⟨r,he,hl,q⟩=>⟨r,he,hl,q⟩
section
variable {P:Program}{rd:Option Nat}{L:List (Nat×Value)}{h:H}{d:Option Tmp}{ty:TypeId}{ps:String}{af:Array Edge}{g:Option (Nat×Bool)}{x y c:Operand}{vx vy v:Value}
theorem nk {asL:List Operand}{ts:Array TypeId}{vs:List Value}{K:Value->H->Prop}(hx:evL L x=some v) (ha:kO L asL=some vs) (k:CV P v vs h K) :
  EV rd P ⟨d,.call { callee:=.value x,args:=asL.toArray,argTypes:=ts },ty,ps,af,g⟩ L h K:=fun a w hag hw=>by
 have k:=k w hw
 have he:execOp a.eval ⟨d,.call { callee:=.value x,args:=asL.toArray,argTypes:=ts },ty,ps,af,g⟩=(do let d ← Deferred.ofValue v vs.toArray;invoke d.target d.args):=by
  simp only [execOp,resolve,List.map_toArray,hag.evs ha,hag.ev hx]
 unfold fa
 rw [Oper.semAt_eq rd _ _ (by simp),he]
 exact k
def za (P:Program) (w:World) (tmps:Array Value):List ResultVar->List Value->Prop
 | [],[]=>True
 | r :: l,v :: vs=>Sem.run P (match r with
  | ResultVar.tmp t=>(pure (tmps.getD t undef):Sem Value)
  | .cell b t=>do loadVar t (← asAddr (tmps.getD b undef))) w=.ok v w∧za P w tmps l vs
 | _,_=>False
theorem tY {tmps:Array Value}{P:Program}{w:World}:∀ (l:List ResultVar) (vs:List Value),za P w tmps l vs->Sem.run P (l.mapM fun r=>match r with
  | ResultVar.tmp t=>(pure (tmps.getD t undef):Sem Value)
  | .cell b t=>do loadVar t (← asAddr (tmps.getD b undef))) w=.ok vs w:=by
 intro l
 induction l with
 | nil=>intro vs h;cases vs with
  | nil=>rfl
  | cons v vs=>exact h.elim
 | cons r l ih =>
  intro vs h
  cases vs with
  | nil=>exact h.elim
  | cons v vs =>
   rw [List.mapM_cons,Sem.run_bind,h.1]
   simp only [Result.andThen]
   rw [Sem.run_bind,ih _ h.2]
   rfl
theorem pp {fn:Func}{l:List ResultVar}{vs:List Value}{tmps:Array Value}{P:Program}{w:World}(hr:fn.results=l.toArray) (hv:za P w tmps l vs) (hn:vs.length≠1):(results fn tmps).run P w=.ok (.tuple vs.toArray) w:=by
 unfold results
 rw [hr,List.mapM_toArray,Sem.run_bind,Sem.run_map]
 refine Eq.trans (congrArg (fun r=>Result.andThen (Result.andThen r _) _) (tY l vs hv)) ?_
 simp only [Result.andThen,List.size_toArray,hn,dite_false,Sem.run_pure]
section
variable {w0:World}{N:Nat}{fn:Func}{Q:Value->H->Prop}{r1 r2 r3:ResultVar}{v1 v2 v3:Value}
theorem gG (hr:fn.results=#[r1,r2]) (h1:RV P L h r1 v1) (h2:RV P L h r2 v2) (k:Q (.tuple #[v1,v2]) h):Tr w0 N [] L h (mY P fn Q w0 .ret):=fun a w ha hh hl =>
 ⟨ha.defers,.tuple #[v1,v2],pp (l:=[r1,r2]) (vs:=[v1,v2]) hr ⟨h1 a w ha.get hh,h2 a w ha.get hh,tv⟩ (by simp),_,rfl,hl,hh ▸ k⟩
theorem AU (hr:fn.results=#[r1,r2,r3]) (h1:RV P L h r1 v1) (h2:RV P L h r2 v2) (h3:RV P L h r3 v3) (k:Q (.tuple #[v1,v2,v3]) h):Tr w0 N [] L h (mY P fn Q w0 .ret):=fun a w ha hh hl =>
 ⟨ha.defers,.tuple #[v1,v2,v3],pp (l:=[r1,r2,r3]) (vs:=[v1,v2,v3]) hr ⟨h1 a w ha.get hh,h2 a w ha.get hh,h3 a w ha.get hh,tv⟩ (by simp),_,rfl,hl,hh ▸ k⟩
end
end
structure bI (S:Nat->Prop) (h h':H):Prop where
 size:h.size<=h'.size
 same:∀ b,b<h.size->¬ S b->h'[b]?=h[b]?
abbrev Ext (h h':H):Prop:=bI (fun _=>False) h h'
theorem bI.refl {S:Nat->Prop}(h:H):bI S h h:=⟨Nat.le_refl _,fun _ _ _=>rfl⟩
theorem bI.mono {S S':Nat->Prop}{h h':H}(o:bI S h h') (hs:∀ b,b<h.size->S b->S' b):bI S' h h':=⟨o.size,fun b hb hn=>o.same b hb fun s=>hn (hs b hb s)⟩
theorem bI.trans {S S':Nat->Prop}{a b c:H}(o:bI S a b) (p:bI S' b c) (hs:∀ n,n<a.size->S' n->S n):bI S a c:=
 ⟨Nat.le_trans o.size p.size,fun n hn hS=>(p.same n (Nat.lt_of_lt_of_le hn o.size) fun s=>hS (hs n hn s)).trans (o.same n hn hS)⟩
theorem bI.ext {S:Nat->Prop}{a b c:H}(o:bI S a b) (p:Ext b c):bI S a c:=o.trans p fun _ _ f=>f.elim
theorem Ext.only {S:Nat->Prop}{a b:H}(o:Ext a b):bI S a b:=o.mono fun _ _ f=>f.elim
theorem Ext.trans {a b c:H}(o:Ext a b) (p:Ext b c):Ext a c:=bI.trans o p fun _ _ f=>f
theorem bI.push {S:Nat->Prop}(h:H) (o:Obj):bI S h (h.push o):=⟨by simp,fun b hb _=>by rw [Array.getElem?_push,if_neg (by omega)]⟩
theorem bI.block {S:Nat->Prop}{h h':H}(o:bI S h h'){b:Nat}{x:Obj}(hb:h[b]?=some x) (hn:¬ S b):h'[b]?=some x:=
 (o.same b (Array.getElem?_eq_some_iff.1 hb).1 hn).trans hb
theorem dx {h:H}{b:Nat}{x:Obj}(hb:h[b]?=some x):b<h.size:=(Array.getElem?_eq_some_iff.1 hb).1
theorem vS {h h':H}{a:Addr}(e:h'[a.block]?=h[a.block]?):aA h' a=aA h a:=by unfold aA;rw [e]
theorem Be {h:H}{a:Addr}{v:Value}(hc:aA h a=some v):a.block<h.size:=by
 unfold aA at hc
 cases hb:h[a.block]? with
 | none=>simp [hb] at hc
 | some o=>exact dx hb
theorem bI.cell {S:Nat->Prop}{h h':H}(o:bI S h h'){a:Addr}{v:Value}(hc:aA h a=some v) (hn:¬ S a.block):aA h' a=some v:=
 (vS (o.same _ (Be hc) hn)).trans hc
abbrev Blk (h:H) (b:Nat) (c:Array Value) (e:TypeId):Prop:=h[b]?=some (.cells c e (0,0))
theorem Blk.cell {h:H}{b i:Nat}{c:Array Value}{e:TypeId}{v:Value}(k:Blk h b c e) (hv:c[i]?=some v):aA h ⟨b,i,none⟩=some v:=by
 unfold aA;rw [show h[(⟨b,i,none⟩:Addr).block]?=_ from k];exact hv
theorem Blk.frozen {h:H}{b i:Nat}{c:Array Value}{e:TypeId}(k:Blk h b c e):je h ⟨b,i,none⟩=false:=by
 unfold je;rw [show h[(⟨b,i,none⟩:Addr).block]?=_ from k];simp
theorem Blk.new (h:H) (c:Array Value) (e:TypeId):Blk (h.push (.cells c e)) h.size c e:=by simp [Blk]
theorem aC (b o i:Nat):(⟨b,o,none⟩:Addr).add i=⟨b,o+i,none⟩:=by
 unfold Addr.add;split
 ·subst_vars;rfl
 ·rfl
def iF (c:Array Value):Nat->List Value->Array Value
 | _,[]=>c
 | i,v :: r=>iF (c.setIfInBounds i v) (i+1) r
theorem lV (c:Array Value) (i:Nat) (vs:List Value):(iF c i vs).size=c.size:=by
 induction vs generalizing c i with
 | nil=>rfl
 | cons v r ih=>simp [iF,ih]
theorem mV {c:Array Value}{i:Nat}{vs:List Value}(hl:i+vs.length<=c.size) (j:Nat):(iF c i vs)[j]?=if j<i then c[j]? else if j<i+vs.length then vs[j-i]? else c[j]?:=by
 induction vs generalizing c i with
 | nil=>simp [iF];intros;omega
 | cons v r ih =>
  simp only [List.length_cons] at hl
  rw [iF,ih (by simp;omega)]
  by_cases h1:j<i
  ·simp [h1,show j<i+1 by omega,Array.getElem?_setIfInBounds_ne (show i≠j by omega)]
  ·by_cases h2:j=i
   ·subst h2
    simp [show j<c.size by omega]
   ·have h3:¬ j<i+1:=by omega
    simp only [h1,h3,if_false,List.length_cons]
    by_cases h4:j<i+(r.length+1)
    ·rw [if_pos (by omega),if_pos h4]
     rw [show j-i=(j-(i+1))+1 from by omega,List.getElem?_cons_succ]
    ·rw [if_neg (by omega),if_neg h4,Array.getElem?_setIfInBounds_ne (by omega)]
theorem sS {h:H}{b:Nat}{c:Array Value}{e:TypeId}(k:Blk h b c e) (off:Nat) (vs:List Value) (i:Nat):Blk (mv h ⟨b,off,none⟩ vs i) b (iF c (off+i) vs) e∧bI (·=b) h (mv h ⟨b,off,none⟩ vs i)∧(mv h ⟨b,off,none⟩ vs i).size=h.size:=by
 induction vs generalizing h c i with
 | nil=>exact ⟨k,.refl _,rfl⟩
 | cons v r ih =>
  have k1:Blk (oR h ((⟨b,off,none⟩:Addr).add i) v) b (c.setIfInBounds (off+i) v) e:=by
   rw [aC]
   have hk:h[b]?=some (.cells c e (0,0)):=k
   simp [Blk,oR,Array.getElem?_modify,hk]
  have o1:bI (·=b) h (oR h ((⟨b,off,none⟩:Addr).add i) v):=⟨by simp [oR],fun n hn hne=>by
   rw [aC]
   have hne':¬ b=n:=fun e=>hne e.symm
   simp [oR,Array.getElem?_modify,hne']⟩
  obtain ⟨a1,a2,a3⟩:=ih k1 (i+1)
  exact ⟨a1,o1.trans a2 (fun _ _ s=>s),by rw [mv,a3];simp [oR]⟩
theorem aW {k:IntKind}{h:H}{a:Addr}{n:Int}{K:Int->Prop}(hc:aA h a=some (.int k n)) (kk:K n):ldI k h a K:=⟨n,hc,kk⟩
theorem hQ {h:H}{a:Addr}{n:Bool}{K:Bool->Prop}(hc:aA h a=some (.bool n)) (kk:K n):ldB h a K:=⟨n,hc,kk⟩
theorem jU {h:H}{a:Addr}{n:ByteArray}{K:ByteArray->Prop}(hc:aA h a=some (.string n)) (kk:K n):ldS h a K:=⟨n,hc,kk⟩
theorem Ad {h:H}{a:Addr}{n:Option Addr}{K:Option Addr->Prop}(hc:aA h a=some (.pointer n)) (kk:K n):ldP h a K:=⟨n,hc,kk⟩
theorem dJ {h:H}{a:Addr}{n:Sl}{K:Sl->Prop}(hc:aA h a=some n.enc) (kk:K n):ldL h a K:=⟨n,hc,kk⟩
theorem aN {h:H}{cs:Array Value}{e:TypeId}{K:Addr->H->Prop}(k:∀ n h',n=h.size->Blk h' n cs e->Ext h h'->h'.size=h.size+1->K ⟨n,0,none⟩ h'):new h cs e K:=
 k _ _ rfl (Blk.new h cs e) (.push h _) (by simp)
theorem dT {h:H}{cs:Array Value}{e:TypeId}{m:Nat}{K:Sl->H->Prop}(k:∀ n h',n=h.size->Blk h' n cs e->Ext h h'->h'.size=h.size+1->K ⟨some ⟨n,0,none⟩,m,m⟩ h'):fv h cs e m K:=
 k _ _ rfl (Blk.new h cs e) (.push h _) (by simp)
theorem cC {h:H}{b off:Nat}{c:Array Value}{e:TypeId}{vs:List Value}{K:H->Prop}(kb:Blk h b c e) (hl:off+vs.length<=c.size) (k:∀ h',Blk h' b (iF c off vs) e->bI (·=b) h h'->h'.size=h.size->K h'):stH h ⟨b,off,none⟩ vs K:=by
 refine ⟨fun j hj=>?_,?_⟩
 ·rw [aC,kb.frozen]
  refine ⟨?_,rfl⟩
  obtain ⟨v,hv⟩:∃ v,c[off+j]?=some v:=⟨c[off+j]'(by omega),Array.getElem?_eq_getElem _⟩
  rw [kb.cell hv];rfl
 ·obtain ⟨a1,a2,a3⟩:=sS kb off vs 0
  exact k _ a1 a2 a3
def Sl.blk (s:Sl):Option Nat:=s.ptr.map (·.block)
def aU (h:H) (s:Sl) (e:TypeId) (size:Nat) (cs:List Value):Prop:=
 cs.length=s.len*size∧((s.ptr=none∧s.len=0∧s.cap=0) ∨
  ∃ b c,s.ptr=some ⟨b,0,none⟩∧Blk h b c e∧c.size=s.cap*size∧s.len<=s.cap∧s.cap<=maxLen∧c.toList.take cs.length=cs)
def bS (h:H) (s:Sl) (size:Nat) (cs:List Value):Prop:=
 cs.length=s.len*size∧(s.ptr=none->s.len=0∧s.cap=0)∧∀ i v,cs[i]?=some v->∃ p,s.ptr=some p∧p.spot=none∧aA h (p.add i)=some v
theorem aU.nil (h:H) (e:TypeId) (size:Nat):aU h ⟨none,0,0⟩ e size []:=⟨by simp,.inl ⟨rfl,rfl,rfl⟩⟩
theorem aU.get {h:H}{s:Sl}{e:TypeId}{size:Nat}{cs:List Value}(o:aU h s e size cs){i:Nat}{v:Value}(hv:cs[i]?=some v):∃ b,s.ptr=some ⟨b,0,none⟩∧aA h ⟨b,i,none⟩=some v:=by
 obtain ⟨hl,⟨h1,h2,h3⟩ | ⟨b,c,h1,h2,h3,h4,_,h5⟩⟩:=o
 ·rw [h2,Nat.zero_mul] at hl
  rw [List.eq_nil_of_length_eq_zero hl] at hv;simp at hv
 ·refine ⟨b,h1,h2.cell ?_⟩
  have hlt:i<cs.length:=(List.getElem?_eq_some_iff.1 hv).1
  have:(c.toList.take cs.length)[i]?=some v:=by rw [h5];exact hv
  rw [List.getElem?_take_of_lt hlt] at this
  simpa using this
theorem aU.reads {h:H}{s:Sl}{e:TypeId}{size:Nat}{cs:List Value}(o:aU h s e size cs):bS h s size cs:=⟨o.1,(fun hp=>by
 obtain ⟨_,⟨_,h2,h3⟩ | ⟨b,c,h1,_⟩⟩:=o
 ·exact ⟨h2,h3⟩
 ·rw [h1] at hp;cases hp),fun i v hv=>by
 obtain ⟨b,h1,h2⟩:=o.get hv
 exact ⟨_,h1,rfl,by rw [aC,Nat.zero_add];exact h2⟩⟩
theorem aU.only {S:Nat->Prop}{h h':H}{s:Sl}{e:TypeId}{size:Nat}{cs:List Value}(o:aU h s e size cs) (k:bI S h h') (hn:∀ b,s.blk=some b->¬ S b):aU h' s e size cs:=by
 obtain ⟨hl,h1 | ⟨b,c,h1,h2,h3⟩⟩:=o
 ·exact ⟨hl,.inl h1⟩
 ·exact ⟨hl,.inr ⟨b,c,h1,k.block h2 (hn b (by simp [Sl.blk,h1])),h3⟩⟩
theorem bS.only {S:Nat->Prop}{h h':H}{s:Sl}{size:Nat}{cs:List Value}(o:bS h s size cs) (k:bI S h h') (hn:∀ b,s.blk=some b->¬ S b):bS h' s size cs:=
 ⟨o.1,o.2.1,fun i v hv=>by
  obtain ⟨p,h1,h2,h3⟩:=o.2.2 i v hv
  exact ⟨p,h1,h2,k.cell h3 (by rw [Addr.add_block];exact hn _ (by simp [Sl.blk,h1]))⟩⟩
theorem aU.blk_lt {h:H}{s:Sl}{e:TypeId}{size:Nat}{cs:List Value}(o:aU h s e size cs){b:Nat}(hb:s.blk=some b):b<h.size:=by
 obtain ⟨hl,⟨h1,_⟩ | ⟨b',c,h1,h2,h3⟩⟩:=o
 ·simp [Sl.blk,h1] at hb
 ·simp [Sl.blk,h1] at hb;subst hb;exact dx h2
section
variable {P:Program}{h:H}
theorem st {n:Nat}:∀ (r c:Nat),c<=n->Builtin.growBy n r c<=n+n / 4+256
 | 0,c,hc=>by unfold Builtin.growBy;omega
 | r+1,c,hc=>by
  unfold Builtin.growBy
  split
  ·omega
  ·by_cases h:c+(c+768) / 4<=n
   ·exact st r _ h
   ·cases r with
    | zero=>unfold Builtin.growBy;omega
    | succ r =>
     unfold Builtin.growBy
     rw [if_pos (by omega)];omega
theorem qQ {n c:Nat}(h:c<n):Builtin.nextslicecap n c<=n+n / 4+256:=by
 unfold Builtin.nextslicecap
 split
 ·omega
 ·split
  ·omega
  ·exact Nat.le_trans (st 4 c (by omega)) (by omega)
structure El (P:Program) (t e:TypeId) (size bytes:Nat) (z:Value):Prop where
 slice:P.underlying t=some (.slice e)
 info:∃ i,P.info? e=some i∧i.zero=some z∧i.size=size∧i.bytes=bytes
 zero:z.cells.size=size
 pos:0<size
 bpos:0<bytes
theorem kn {w w':World}{row:Option Nat}(hg:w.grownBy w' row):bI (fun b=>row=some b) w.heap w'.heap:=
 ⟨hg.size,fun b hb hn=>hg.block b hb fun e=>hn e.symm⟩
theorem vM {t e ty:TypeId}{s x:Sl}{size bytes:Nat}{cs ys:List Value}{z:Value}{K:Sl->H->Prop}(el:El P t e size bytes z)
  (hs:aU h s e size cs) (hx:bS h x size ys) (ho:∀ v∈ys,v.oneCell'=true) (hlim:(s.len+x.len+(s.len+x.len) / 4+256)*bytes<=281474976710656)
  (k:∀ r h',aU h' r e size (cs ++ ys)->r.len=s.len+x.len->bI (fun b=>s.blk=some b) h h'->(r.blk=s.blk∨∃ b,r.blk=some b∧h.size<=b)->K r h') :
  dA P (Builtin.append_ #[t,t] ty #[s.enc,x.enc]) h K:=by
 obtain ⟨i,hi,hz,hsz,hby⟩:=el.info
 have hpos:=el.pos
 have hlx:ys.length=x.len*size:=hx.1
 have hlc:cs.length=s.len*size:=hs.1
 have hbp:=el.bpos
 have hsum:s.len+x.len<=9223372036854775807:=by
  have:s.len+x.len<=(s.len+x.len+(s.len+x.len) / 4+256)*bytes:=Nat.le_trans (by omega) (Nat.le_mul_of_pos_right _ hbp)
  omega
 intro w hw
 subst hw
 suffices hsuf:∃ (r:Sl) (w':World),(Builtin.append_ #[t,t] ty #[s.enc,x.enc]).run P w=.ok r.enc w'∧eJ w w'∧aU w'.heap r e size (cs ++ ys)∧r.len=s.len+x.len∧bI (fun b=>s.blk=some b) w.heap w'.heap∧(r.blk=s.blk∨∃ b,r.blk=some b∧w.heap.size<=b) by
  obtain ⟨r,w',h1,h2,h3,h4,h5,h6⟩:=hsuf
  exact ⟨r.enc,w',h1,h2,r,rfl,k r _ h3 h4 h5 h6⟩
 obtain ⟨xp,xl,xc⟩:=x
 obtain ⟨sp,sl,sc⟩:=s
 simp only at *
 -- what is owned,in the kit's words
 have hown:w.ownsRow 0 e size (.slice sp sl sc) sl cs:=by
  refine ⟨hlc,?_⟩
  obtain ⟨_,⟨h1,h2,h3⟩ | ⟨b,c,h1,h2,h3,h4,hcap,h5⟩⟩:=hs
  ·simp only at h1 h2 h3;subst h1;subst h2;subst h3;exact .inl ⟨rfl,rfl⟩
  ·simp only at h1 h3 h4 hcap;subst h1
   exact .inr ⟨b,sc,c,rfl,Nat.zero_le _,h2,h4,hcap,h3,by rw [← hlc];exact h5⟩
 cases xp with
 | none =>
  obtain ⟨e1,e2⟩:=hx.2.1 rfl
  simp only at e1 e2;subst e1;subst e2
  have hy:ys=[]:=List.eq_nil_of_length_eq_zero (by simpa using hlx)
  subst hy
  refine ⟨⟨sp,sl,sc⟩,w,run_append_owned_none w 0 t ty e i size el.slice hi (.slice sp sl sc) sl cs hown,eJ.refl w,by simpa using hs,rfl,.refl _,.inl rfl⟩
 | some a =>
  have hc:∀ j u,ys[j]?=some u->w.cell? (a.add j)=some u:=fun j u hu=>by
   obtain ⟨p,hp,_,h2⟩:=hx.2.2 j u hu
   cases hp;exact h2
  obtain ⟨_,⟨h1,h2,h3⟩ | ⟨b,c,h1,h2,h3,h4,hcap,h5⟩⟩:=hs
  ·simp only at h1 h2 h3;subst h1;subst h2;subst h3
   have hcs:cs=[]:=List.eq_nil_of_length_eq_zero (by simpa using hlc)
   subst hcs
   by_cases h0:xl=0
   ·subst h0
    have hy:ys=[]:=List.eq_nil_of_length_eq_zero (by simpa using hlx)
    subst hy
    obtain ⟨v',w',r1,r2,r3,r4⟩:=run_append_own (P:=P) w 0 t ty e i z size bytes el.slice hi hz hsz hby el.zero hpos (.slice none 0 0) 0 [] hown a 0 xc [] (by simp) (by simp) (by simp) (by simp [maxLen]) (by simp) (Nat.zero_le _)
    have:v'=.slice none 0 0:=r4.2 ⟨rfl,rfl⟩
    subst this
    refine ⟨⟨none,0,0⟩,w',r1,⟨r3.os,r3.tape,r3.output,dg _ r1⟩,aU.nil _ _ _,rfl,(kn r3).mono (fun b _ e=>by simp [Value.ownBlock] at e),.inl rfl⟩
   ·have hr:=run_append_nil (P:=P) w t ty e i z el.slice hi hz a xl xc ys (by rw [hlx,hsz]) hc (by omega) (by simp only [Nat.zero_add] at hsum;omega) (by
     rw [hby];have:xl*bytes<=(0+xl+(0+xl) / 4+256)*bytes:=Nat.mul_le_mul_right _ (by omega)
     omega)
    refine ⟨⟨some ⟨w.heap.size,0,none⟩,xl,grownCap w xl 0 e⟩,w.drew.alloc (.cells (ys.toArray ++ Builtin.zeroCells z.cells (grownCap w xl 0 e-xl)) e),hr,⟨rfl,rfl,rfl,by first | exact Nat.le_refl _ | exact Nat.le_succ _ | exact Nat.le_add_right _ _⟩,⟨by simp [hlx],.inr ⟨w.heap.size,_,rfl,Blk.new _ _ _,?_,grownCap_ge w xl 0 e,grownCap_le_maxLen w xl 0 e (by simp only [maxLen,Nat.zero_add] at *;omega),?_⟩⟩,by simp,.push _ _,.inr ⟨_,rfl,Nat.le_refl _⟩⟩
    ·have:=grownCap_ge w xl 0 e
     simp only [Array.size_append,List.size_toArray,hlx,Builtin.zeroCells,Array.size_map,Array.size_range,el.zero]
     rw [← Nat.add_mul];congr 1;omega
    ·simp
  ·simp only at h1 h3 h4 hcap;subst h1
   by_cases hfit:sl+xl<=sc
   ·obtain ⟨w',r1,r2,r3⟩:=run_append_fits (P:=P) w 0 t ty e i size el.slice hi hsz b sl sc cs hown a xl xc ys hlx hc ho hfit
    refine ⟨⟨some ⟨b,0,none⟩,sl+xl,sc⟩,w',r1,⟨r3.os,r3.tape,r3.output,dg _ r1⟩,?_,rfl,(kn r3).mono (fun n _ e=>by simpa [Sl.blk] using e),.inl rfl⟩
    obtain ⟨q1,⟨q2,_⟩ | ⟨g,cap,cur,q2,_,q3,q4,q7,q5,q6⟩⟩:=r2
    ·cases q2
    ·cases q2
     exact ⟨q1,.inr ⟨b,cur,rfl,q3,q5,q4,q7,by rw [q1];exact q6⟩⟩
   ·have hnc:=qQ (n:=sl+xl) (c:=sc) (by omega)
    have hold:∀ j v,cs[j]?=some v->w.cell? ((⟨b,0,none⟩:Addr).add j)=some v:=fun j v hv=>by
     have hlt:j<cs.length:=(List.getElem?_eq_some_iff.1 hv).1
     have hc2:c[j]?=some v:=by
      have h6:(c.toList.take cs.length)[j]?=some v:=by rw [h5];exact hv
      rw [List.getElem?_take_of_lt hlt] at h6
      simpa using h6
     rw [aC,Nat.zero_add]
     exact Blk.cell (h:=w.heap) h2 hc2
    have hr:=run_append_grow (P:=P) w t ty e i z el.slice hi hz ⟨b,0,none⟩ sl sc cs (by rw [hlc,hsz]) hold a xl xc ys (by rw [hlx,hsz]) hc (by omega) (by omega) (by
     rw [hby];have:Builtin.nextslicecap (sl+xl) sc*bytes<=(sl+xl+(sl+xl) / 4+256)*bytes:=Nat.mul_le_mul_right _ hnc
     omega)
    refine ⟨⟨some ⟨w.heap.size,0,none⟩,sl+xl,grownCap w (sl+xl) sc e⟩,w.drew.alloc (.cells (cs.toArray ++ ys.toArray ++ Builtin.zeroCells z.cells (grownCap w (sl+xl) sc e-(sl+xl))) e),hr,⟨rfl,rfl,rfl,by first | exact Nat.le_refl _ | exact Nat.le_succ _ | exact Nat.le_add_right _ _⟩,⟨by simp [hlx,hlc,Nat.add_mul],.inr ⟨w.heap.size,_,rfl,Blk.new _ _ _,?_,grownCap_ge w (sl+xl) sc e,grownCap_le_maxLen w (sl+xl) sc e (by simp only [maxLen];omega),?_⟩⟩,rfl,.push _ _,.inr ⟨_,rfl,Nat.le_refl _⟩⟩
    ·have:=grownCap_ge w (sl+xl) sc e
     simp only [Array.size_append,List.size_toArray,hlx,hlc,Builtin.zeroCells,Array.size_map,Array.size_range,el.zero]
     rw [← Nat.add_mul,← Nat.add_mul];congr 1;omega
    ·simp only [Array.toList_append,List.length_append]
     rw [← List.length_append,List.take_left]
end
theorem aZ {a:Addr}{K:Addr->Prop}:nn (some a) K↔K a:=⟨fun ⟨_,e,k⟩=>by cases e;exact k,fun k=>⟨a,rfl,k⟩⟩
theorem nq {s t:Sl}:s.enc=t.enc↔s=t:=⟨fun h=>by cases s;cases t;simp [Sl.enc] at h;obtain ⟨rfl,rfl,rfl⟩:=h;rfl,fun h=>by rw [h]⟩
theorem bA {k:IntKind}{h:H}{a:Addr}{n:Int}{K:Int->Prop}(hc:aA h a=some (.int k n)):ldI k h a K↔K n:=⟨fun ⟨m,e,kk⟩=>by rw [hc] at e;cases e;exact kk,fun kk=>⟨n,hc,kk⟩⟩
theorem tM {h:H}{a:Addr}{n:Bool}{K:Bool->Prop}(hc:aA h a=some (.bool n)):ldB h a K↔K n:=⟨fun ⟨m,e,kk⟩=>by rw [hc] at e;cases e;exact kk,fun kk=>⟨n,hc,kk⟩⟩
theorem eP {h:H}{a:Addr}{n:ByteArray}{K:ByteArray->Prop}(hc:aA h a=some (.string n)):ldS h a K↔K n:=⟨fun ⟨m,e,kk⟩=>by rw [hc] at e;cases e;exact kk,fun kk=>⟨n,hc,kk⟩⟩
theorem gB {h:H}{a:Addr}{n:Option Addr}{K:Option Addr->Prop}(hc:aA h a=some (.pointer n)):ldP h a K↔K n:=⟨fun ⟨m,e,kk⟩=>by rw [hc] at e;cases e;exact kk,fun kk=>⟨n,hc,kk⟩⟩
theorem bj {h:H}{a:Addr}{n:Sl}{K:Sl->Prop}(hc:aA h a=some n.enc):ldL h a K↔K n:=⟨fun ⟨m,e,kk⟩=>by rw [hc,Option.some.injEq,nq] at e;subst e;exact kk,fun kk=>⟨n,hc,kk⟩⟩
theorem cl {s:Sl}{b i size:Nat}{n:Int}{K:Addr->Prop}(hp:s.ptr=some ⟨b,0,none⟩) (hi:i<s.len) (hn:n=(i:Int)) (k:K ⟨b,i*size,none⟩):bD s n size K:=
 ⟨_,⟨⟨b,0,none⟩,hp,by omega,by omega,rfl⟩,by rw [aC,Nat.zero_add,hn,Int.toNat_natCast];exact k⟩
theorem w64 {n:Int}(h0:-9223372036854775808<=n) (h1:n<9223372036854775808):IntKind.wrap .i64 n=n:=by
 unfold IntKind.wrap
 simp [IntKind.bits,IntKind.signed]
 omega
theorem gV {α:Type}(f:α->List Value) (k:Nat) (hf:∀ x,(f x).length=k):∀ (L:List α) (i:Nat) (x:α),L[i]?=some x->∀ j,j<k->(L.flatMap f)[i*k+j]?=(f x)[j]?
 | [],i,x,hx=>by simp at hx
 | y :: r,0,x,hx=>fun j hj=>by
  simp at hx;subst hx
  simp only [List.flatMap_cons,Nat.zero_mul,Nat.zero_add]
  rw [List.getElem?_append_left (by rw [hf];exact hj)]
 | y :: r,i+1,x,hx=>fun j hj=>by
  simp only [List.getElem?_cons_succ] at hx
  simp only [List.flatMap_cons]
  rw [List.getElem?_append_right (by rw [hf,Nat.add_mul];omega),hf,show (i+1)*k+j-k=i*k+j from by rw [Nat.add_mul];omega]
  exact gV f k hf r i x hx j hj
theorem cq {α:Type}(f:α->List Value) (k:Nat) (hf:∀ x,(f x).length=k) (L:List α):(L.flatMap f).length=L.length*k:=by
 induction L with
 | nil=>simp
 | cons y r ih=>simp [hf,ih,Nat.add_mul];omega
theorem qB {α:Type}(f:α->List Value) (k:Nat) (hf:∀ x,(f x).length=k):∀ (L:List α) (i:Nat) (x:α),i<L.length->(L.set i x).flatMap f=(L.flatMap f).take (i*k) ++ f x ++ (L.flatMap f).drop (i*k+(f x).length)
 | [],i,x,hx=>by simp at hx
 | y :: r,0,x,hx=>by
  have hk:(f y).length=k:=hf y
  rw [hf x,Nat.zero_mul,Nat.zero_add,← hk]
  simp only [List.set_cons_zero,List.flatMap_cons,List.take_zero,List.nil_append,List.drop_left]
 | y :: r,i+1,x,hx=>by
  have hk:(f y).length=k:=hf y
  have e1:(i+1)*k=(f y).length+i*k:=by rw [Nat.add_mul,hk];omega
  have e2:(i+1)*k+(f x).length=(f y).length+(i*k+(f x).length):=by omega
  rw [e2,e1]
  simp only [List.set_cons_succ,List.flatMap_cons,List.take_length_add_append,List.drop_length_add_append,qB f k hf r i x (by simpa using hx)]
  simp
theorem cE {c:Array Value}{vs:List Value}(hl:vs.length=c.size):iF c 0 vs=vs.toArray:=by
 apply Array.ext_getElem?
 intro i
 rw [mV (by omega)]
 by_cases hi:i<vs.length
 ·rw [if_neg (by omega),if_pos (by omega)];simp
 ·rw [if_neg (by omega),if_neg (by omega),Array.getElem?_eq_none (by omega)];simp;omega
theorem Cells.ext {h h':H}{a:Addr}{cs:List Value}(c:Cells h a cs) (o:Ext h h'):Cells h' a cs:=fun j v hv=>o.cell (c j v hv) (fun f=>f)
theorem Cells.only {S:Nat->Prop}{h h':H}{a:Addr}{cs:List Value}(c:Cells h a cs) (o:bI S h h') (hn:¬ S a.block):Cells h' a cs:=fun j v hv=>o.cell (c j v hv) (by rw [Addr.add_block];exact hn)
section
variable {P:Program}{h:H}
theorem pY {h:H}{s:Sl}{e:TypeId}{size:Nat}{cs vs:List Value}{b o:Nat}{K:H->Prop}(ow:aU h s e size cs) (hp:s.ptr=some ⟨b,0,none⟩) (ho:o+vs.length<=cs.length)
  (k:∀ h',aU h' s e size (cs.take o ++ vs ++ cs.drop (o+vs.length))->bI (fun b=>s.blk=some b) h h'->h'.size=h.size->K h'):stH h ⟨b,o,none⟩ vs K:=by
 obtain ⟨hl,⟨h1,_⟩ | ⟨b',c,h1,h2,h3,h4,h5,h6⟩⟩:=ow
 ·rw [h1] at hp;cases hp
 ·rw [h1] at hp;cases hp
  have hcl:cs.length<=c.size:=by
   have:=congrArg List.length h6
   simp at this;omega
  refine cC h2 (by omega) fun h' k1 k2 k3=>k h' ⟨by simp;omega,.inr ⟨b,_,h1,k1,by rw [lV];exact h3,h4,h5,?_⟩⟩ (k2.mono fun n _ e=>by simp [Sl.blk,h1,e]) k3
  apply List.ext_getElem?
  intro i
  have hlen:(cs.take o ++ vs ++ cs.drop (o+vs.length)).length=cs.length:=by simp;omega
  rw [hlen]
  by_cases hi:i<cs.length
  ·rw [List.getElem?_take_of_lt hi]
   have hcs:∀ i,i<cs.length->c[i]?=cs[i]?:=fun i hi=>by
    have:(c.toList.take cs.length)[i]?=cs[i]?:=by rw [h6]
    rw [List.getElem?_take_of_lt hi] at this
    simpa using this
   have hw:=mV (c:=c) (i:=o) (vs:=vs) (by omega) i
   rw [Array.getElem?_toList,hw]
   by_cases h1:i<o
   ·rw [if_pos h1,hcs i hi,List.append_assoc,List.getElem?_append_left (by simp;omega),List.getElem?_take_of_lt h1]
   ·rw [if_neg h1]
    by_cases h2:i<o+vs.length
    ·rw [if_pos h2,List.getElem?_append_left (by simp;omega),List.getElem?_append_right (by simp;omega)]
     congr 1;simp;omega
    ·rw [if_neg h2,hcs i hi,List.getElem?_append_right (by simp;omega),List.getElem?_drop]
     congr 1;simp;omega
  ·rw [List.getElem?_eq_none (by simp;omega),List.getElem?_eq_none (by omega)]
theorem dB {h:H}{n size m:Nat}{e:TypeId}{cs:List Value}(k:Blk h n cs.toArray e) (hl:cs.length=m*size):bS h ⟨some ⟨n,0,none⟩,m,m⟩ size cs:=
 ⟨hl,(fun h=>by cases h),fun i v hv=>⟨_,rfl,rfl,by rw [aC,Nat.zero_add];exact k.cell (by simpa using hv)⟩⟩
theorem uy {h:H}{n size m:Nat}{e:TypeId}{cs:List Value}(k:Blk h n cs.toArray e) (hl:cs.length=m*size) (hm:m<=maxLen):aU h ⟨some ⟨n,0,none⟩,m,m⟩ e size cs:=
 ⟨hl,.inr ⟨n,_,rfl,k,by simpa using hl,Nat.le_refl _,hm,by simp⟩⟩
variable {α:Type}{f:α->List Value}{k:Nat}{s:Sl}{e:TypeId}{L:List α}
theorem bH (hf:∀ x,(f x).length=k) (hk:0<k) (o:aU h s e k (L.flatMap f)):s.len=L.length:=by
 have:=o.1
 rw [cq _ k hf] at this
 exact (Nat.eq_of_mul_eq_mul_right hk this).symm
theorem cz (hf:∀ x,(f x).length=k) (hk:0<k) (o:bS h s k (L.flatMap f)):s.len=L.length:=by
 have:=o.1
 rw [cq _ k hf] at this
 exact (Nat.eq_of_mul_eq_mul_right hk this).symm
theorem jz (hf:∀ x,(f x).length=k) (hk:0<k) (o:aU h s e k (L.flatMap f)){i:Nat}{x:α}(hx:L[i]?=some x):∃ b,s.ptr=some ⟨b,0,none⟩∧Cells h ⟨b,i*k,none⟩ (f x):=by
 have g:=gV f k hf L i x hx
 have h0:∃ v,(f x)[0]?=some v:=⟨_,List.getElem?_eq_getElem (by rw [hf];exact hk)⟩
 obtain ⟨v,hv⟩:=h0
 obtain ⟨b,h1,h2⟩:=o.get (i:=i*k+0) (v:=v) (by rw [g 0 hk];exact hv)
 refine ⟨b,h1,fun j v hv=>?_⟩
 have hj:j<k:=by rw [← hf x];exact (List.getElem?_eq_some_iff.1 hv).1
 obtain ⟨b',h1',h3⟩:=o.get (i:=i*k+j) (v:=v) (by rw [g j hj];exact hv)
 rw [h1] at h1';cases h1'
 rw [aC];exact h3
theorem gw (hf:∀ x,(f x).length=k) (hk:0<k) (o:bS h s k (L.flatMap f)){i:Nat}{x:α}(hx:L[i]?=some x):∃ p,s.ptr=some p∧p.spot=none∧Cells h (p.add (i*k)) (f x):=by
 have g:=gV f k hf L i x hx
 have h0:∃ v,(f x)[0]?=some v:=⟨_,List.getElem?_eq_getElem (by rw [hf];exact hk)⟩
 obtain ⟨v,hv⟩:=h0
 obtain ⟨p,h1,h2,h3⟩:=o.2.2 (i*k+0) v (by rw [g 0 hk];exact hv)
 refine ⟨p,h1,h2,fun j v hv=>?_⟩
 have hj:j<k:=by rw [← hf x];exact (List.getElem?_eq_some_iff.1 hv).1
 obtain ⟨p',h1',h2',h3'⟩:=o.2.2 (i*k+j) v (by rw [g j hj];exact hv)
 rw [h1] at h1';cases h1'
 obtain ⟨b,o',sp⟩:=p
 simp only at h2;subst h2
 simp only [aC] at h3' ⊢
 rw [Nat.add_assoc];exact h3'
theorem dK {s:Sl}{p:Addr}{i size:Nat}{n:Int}{K:Addr->Prop}(hp:s.ptr=some p) (hi:i<s.len) (hn:n=(i:Int)) (k:K (p.add (i*size))):bD s n size K:=
 ⟨_,⟨p,hp,by omega,by omega,rfl⟩,by rw [hn,Int.toNat_natCast];exact k⟩
theorem ix {b i:Nat}{x:α}{K:H->Prop}(hf:∀ x,(f x).length=k) (o:aU h s e k (L.flatMap f)) (hp:s.ptr=some ⟨b,0,none⟩) (hi:i<L.length)
  (kk:∀ h',aU h' s e k ((L.set i x).flatMap f)->bI (fun b=>s.blk=some b) h h'->h'.size=h.size->K h'):stH h ⟨b,i*k,none⟩ (f x) K:=
 pY o hp (by
  rw [cq f k hf,hf]
  have:(i+1)*k<=L.length*k:=Nat.mul_le_mul_right _ hi
  rw [Nat.add_mul] at this;omega) fun h' h1 h2 h3=>kk h' (by rw [qB f k hf L i x hi];exact h1) h2 h3
theorem nF {t e:TypeId}{size bytes n:Nat}{z:Value}{kl kc:IntKind}{K:Sl->H->Prop}(el:El P t e size bytes z) (hlim:bytes*n<=281474976710656) (hn:n<=maxLen)
  (k:∀ b h',b=h.size->aU h' ⟨some ⟨b,0,none⟩,n,n⟩ e size (madeCells z.cells (n*size)).toList->Ext h h'->K ⟨some ⟨b,0,none⟩,n,n⟩ h'):dA P (Instr.makeSlice t (.int kl (n:Int)) (.int kc (n:Int))) h K:=by
 obtain ⟨i,hi,hz,hsz,hby⟩:=el.info
 intro w hw
 subst hw
 have hr:=run_make (P:=P) w t e i z el.slice hi hz kl kc n n (by omega) (Int.le_refl _) (by
  rw [hby]
  have:((bytes*n:Nat):Int)<=281474976710656:=by omega
  rwa [Int.natCast_mul] at this) (by simp only [maxLen] at hn;omega)
 simp only [Int.toNat_natCast] at hr
 refine ⟨_,_,hr,⟨rfl,rfl,rfl,by first | exact Nat.le_refl _ | exact Nat.le_succ _ | exact Nat.le_add_right _ _⟩,⟨some ⟨w.heap.size,0,none⟩,n,n⟩,rfl,k _ _ rfl ⟨?_,.inr ⟨_,_,rfl,Blk.new _ _ _,?_,Nat.le_refl _,hn,?_⟩⟩ (.push _ _)⟩
 ·simp [size_madeCells]
 ·rw [size_madeCells,hsz]
 ·rw [hsz];exact List.take_of_length_le (by simp)
theorem uR (z:Value) (n:Nat):(madeCells #[z] n).toList=List.replicate n z:=by
 apply List.ext_getElem?
 intro j
 by_cases hj:j<n
 ·simp [madeCells,hj,Nat.mod_one]
 ·simp [madeCells,hj]
theorem jx {α:Type}(f:α->List Value) (x:α) (v:Value) (hv:f x=[v]):∀ n,(List.replicate n x).flatMap f=List.replicate n v
 | 0=>rfl
 | n+1=>by rw [List.replicate_succ,List.flatMap_cons,hv,jx f x v hv n];rfl
end
abbrev cI (n:Int):List Value:=[.int .i64 n]
abbrev cB (b:Bool):List Value:=[.bool b]
abbrev cT (s:ByteArray):List Value:=[.string s]
theorem fZ (n:Int):(cI n).length=1:=rfl
theorem kH (n:Bool):(cB n).length=1:=rfl
theorem i4 (n:ByteArray):(cT n).length=1:=rfl
theorem Cells.one {h:H}{a:Addr}{v:Value}(c:Cells h a [v]):aA h a=some v:=by have:=c 0 v rfl;rw [show a.add 0=a from by unfold Addr.add;simp] at this;exact this
theorem Ext.step {S:Nat->Prop}{a b c:H}(e:Ext a b) (o:bI S b c) (hs:∀ n,n<a.size->¬ S n):Ext a c:=bI.trans e o fun n hn s=>hs n hn s
abbrev cU (b:UInt8):List Value:=[.int .u8 (b.toNat:Int)]
theorem ip (b:UInt8):(cU b).length=1:=rfl
def dL (h0:H) (s:Sl):Prop:=∀ b,s.blk=some b->h0.size<=b
theorem dL.nil (h0:H) (n m:Nat):dL h0 ⟨none,n,m⟩:=fun b hb=>by simp [Sl.blk] at hb
theorem dL.older {h0 h1:H}{s:Sl}(m:dL h1 s) (e:Ext h0 h1):dL h0 s:=fun b hb=>Nat.le_trans e.size (m b hb)
theorem Ext.mine {h0 h h':H}{s:Sl}(e:Ext h0 h) (m:dL h0 s) (o:bI (fun b=>s.blk=some b) h h'):Ext h0 h':=e.step o fun n hn hb=>by have:=m n hb;omega
section
variable {P:Program}{h:H}{α:Type}{f:α->List Value}{k:Nat}{s:Sl}{L:List α}{t e:TypeId}{bytes:Nat}{z:Value}
theorem fI {x:Sl}{M:List α}{ty:TypeId}{K:Sl->H->Prop}(hf:∀ x,(f x).length=k) (hk:0<k) (el:El P t e k bytes z) (hs:aU h s e k (L.flatMap f)) (hx:bS h x k (M.flatMap f)) (ho:∀ x,∀ v∈f x,v.oneCell'=true)
  (hlim:(L.length+M.length+(L.length+M.length) / 4+256)*bytes<=281474976710656)
  (kk:∀ r h',aU h' r e k ((L ++ M).flatMap f)->bI (fun b=>s.blk=some b) h h'->(r.blk=s.blk∨∃ b,r.blk=some b∧h.size<=b)->K r h') :
  dA P (Builtin.append_ #[t,t] ty #[s.enc,x.enc]) h K:=by
 have h1:=bH hf hk hs
 have h2:=cz hf hk hx
 refine vM el hs hx (fun v hv=>?_) (by rw [h1,h2];exact hlim) fun r h' q1 q2 q3 q4=>kk r h' (by rw [List.flatMap_append];exact q1) q3 q4
 obtain ⟨x,_,hx⟩:=List.mem_flatMap.1 hv
 exact ho x v hx
theorem fJ {h0:H}{x:Sl}{M:List α}{ty:TypeId}{K:Sl->H->Prop}(e0:Ext h0 h) (m:dL h0 s) (hf:∀ x,(f x).length=k) (hk:0<k) (el:El P t e k bytes z) (hs:aU h s e k (L.flatMap f)) (hx:bS h x k (M.flatMap f)) (ho:∀ x,∀ v∈f x,v.oneCell'=true)
  (hlim:(L.length+M.length+(L.length+M.length) / 4+256)*bytes<=281474976710656)
  (kk:∀ r h',aU h' r e k ((L ++ M).flatMap f)->Ext h0 h'->dL h0 r->bI (fun b=>s.blk=some b) h h'->(r.blk=s.blk∨∃ b,r.blk=some b∧h.size<=b)->K r h') :
  dA P (Builtin.append_ #[t,t] ty #[s.enc,x.enc]) h K:=
 fI hf hk el hs hx ho hlim fun r h' q1 q2 q3=>kk r h' q1 (e0.mine m q2) (fun b hb=>by
  rcases q3 with q3 | ⟨b',q3,q4⟩
  ·exact m b (by rw [← q3];exact hb)
  ·rw [q3] at hb;cases hb;exact Nat.le_trans e0.size q4) q2 q3
theorem eA {h0:H}{ty:TypeId}(x:α){K:Sl->H->Prop}(e0:Ext h0 h) (m:dL h0 s) (hf:∀ x,(f x).length=k) (hk:0<k) (el:El P t e k bytes z) (hs:aU h s e k (L.flatMap f)) (ho:∀ x,∀ v∈f x,v.oneCell'=true)
  (hlim:(L.length+1+(L.length+1) / 4+256)*bytes<=281474976710656)
  (kk:∀ r h',aU h' r e k ((L ++ [x]).flatMap f)->Ext h0 h'->dL h0 r->bI (fun b=>s.blk=some b) h h'->(r.blk=s.blk∨∃ b,r.blk=some b∧h.size<=b)->K r h') :
  fv h (f x).toArray e 1 fun s1 h1=>dA P (Builtin.append_ #[t,t] ty #[s.enc,s1.enc]) h1 K:=by
 refine dT fun n h1 e1 e2 e3 e4=>?_
 refine fJ (M:=[x]) (e0.trans e3) m hf hk el (hs.only e3 fun _ _ f=>f) (dB (by simpa using e2) (by simp [hf])) ho hlim fun r h' q1 q2 q3 q4 q5=>kk r h' q1 q2 q3 ((e3.only (S:=fun b=>s.blk=some b)).trans q4 fun _ _ e=>e) ?_
 rcases q5 with q5 | ⟨b,q5,q6⟩
 ·exact .inl q5
 ·have:=e3.size;exact .inr ⟨b,q5,by omega⟩
theorem bS.ext {h':H}{size:Nat}{cs:List Value}(o:bS h s size cs) (e:Ext h h'):bS h' s size cs:=o.only e fun _ _ f=>f
theorem bS.keep {S:Nat->Prop}{h':H}(o:bS h s k (L.flatMap f)) (e:bI S h h') (hn:L≠[]->∀ b,s.blk=some b->¬ S b):bS h' s k (L.flatMap f):=by
 by_cases hA:L=[]
 ·subst hA;exact ⟨o.1,o.2.1,fun i v hv=>by simp at hv⟩
 ·exact o.only e (hn hA)
theorem aU.ext {h':H}{size:Nat}{cs:List Value}(o:aU h s e size cs) (x:Ext h h'):aU h' s e size cs:=o.only x fun _ _ f=>f
theorem iq {lo hi:Nat}(hf:∀ x,(f x).length=k) (hk:0<k) (rd:bS h s k (L.flatMap f)) (h1:lo<=hi) (h2:hi<=L.length) (hc:s.len<=s.cap):bS h (cS s lo hi k) k (((L.drop lo).take (hi-lo)).flatMap f):=by
 have hl:=cz hf hk rd
 refine ⟨?_,fun hp=>?_,fun i v hv=>?_⟩
 ·rw [cq f k hf,List.length_take,List.length_drop];simp only [cS];congr 1;omega
 ·simp only [cS] at hp ⊢
  split at hp
  ·rename_i hcc
   have:=rd.2.1 hp;omega
  ·simp only [Option.map_eq_none_iff] at hp
   have:=rd.2.1 hp;omega
 ·have hidx:(L.flatMap f)[lo*k+i]?=some v:=by
   have e1:((L.drop lo).take (hi-lo)).flatMap f=((L.flatMap f).drop (lo*k)).take ((hi-lo)*k):=by
    have:L=L.take lo ++ L.drop lo:=(List.take_append_drop lo L).symm
    have e2:(L.flatMap f).drop (lo*k)=(L.drop lo).flatMap f:=by
     conv=>lhs;rw [this,List.flatMap_append]
     have hlen:((L.take lo).flatMap f).length=lo*k:=by rw [cq f k hf,List.length_take,Nat.min_eq_left (by omega)]
     rw [← hlen,List.drop_left]
    rw [e2]
    have e3:L.drop lo=(L.drop lo).take (hi-lo) ++ (L.drop lo).drop (hi-lo):=(List.take_append_drop _ _).symm
    conv=>rhs;rw [e3,List.flatMap_append]
    have hlen:(((L.drop lo).take (hi-lo)).flatMap f).length=(hi-lo)*k:=by rw [cq f k hf,List.length_take,List.length_drop,Nat.min_eq_left (by omega)]
    rw [← hlen,List.take_left]
   rw [e1] at hv
   have hlt:i<(hi-lo)*k:=by
    have:=(List.getElem?_eq_some_iff.1 hv).1
    rw [List.length_take] at this;omega
   rw [List.getElem?_take_of_lt hlt,List.getElem?_drop] at hv
   exact hv
  obtain ⟨p,q1,q2,q3⟩:=rd.2.2 _ v hidx
  have hlt:lo<L.length:=by
   have hle:lo*k+i<(L.flatMap f).length:=(List.getElem?_eq_some_iff.1 hidx).1
   rw [cq f k hf] at hle
   exact Nat.lt_of_mul_lt_mul_right (a:=k) (by omega)
  refine ⟨p.add (lo*k),?_,?_,?_⟩
  ·simp only [cS];rw [if_neg (by omega),q1];rfl
  ·obtain ⟨b,o,sp⟩:=p
   simp only at q2;subst q2
   rw [aC]
  ·obtain ⟨b,o,sp⟩:=p
   simp only at q2;subst q2
   simp only [aC] at q3 ⊢
   rw [Nat.add_assoc];exact q3
theorem fQ {lo hi:Nat}{nl nh:Int}{K:Sl->Prop}{size:Nat}(e1:nl=(lo:Int)) (e2:nh=(hi:Int)) (h1:lo<=hi) (h2:hi<=s.cap) (kk:K (cS s lo hi size)):ly s nl nh size K:=
 ⟨_,⟨by omega,by omega,by omega,rfl⟩,by subst e1;subst e2;simpa using kk⟩
theorem aU.le_cap {size:Nat}{cs:List Value}(o:aU h s e size cs):s.len<=s.cap:=by
 obtain ⟨_,⟨_,h2,h3⟩ | ⟨b,c,_,_,_,h4,_⟩⟩:=o
 ·omega
 ·exact h4
theorem zW {s:ByteArray}{i:Nat}:s[i]?=s.data.toList[i]?:=by
 obtain ⟨d⟩:=s
 show (ByteArray.mk d)[i]?=d.toList[i]?
 rw [Array.getElem?_toList]
 by_cases h:i<d.size
 ·have h':i<(ByteArray.mk d).size:=h
  rw [Array.getElem?_eq_getElem h,getElem?_pos (ByteArray.mk d) i h']
  rfl
 ·have h':¬ i<(ByteArray.mk d).size:=h
  rw [Array.getElem?_eq_none (Nat.le_of_not_lt h),getElem?_neg (ByteArray.mk d) i h']
theorem dC {s:ByteArray}:s.size=s.data.toList.length:=by rw [Array.length_toList];rfl
theorem dF {s:ByteArray}:s.toList=s.data.toList:=by rw [ByteArray.toList_eq]
theorem jf {s:ByteArray}{i:Nat}{n:Int}{b:UInt8}{K:Int->Prop}(hb:s.data.toList[i]?=some b) (hn:n=(i:Int)) (k:K (b.toNat:Int)):rH s n K:=
 ⟨_,⟨b,by omega,by subst hn;rw [Int.toNat_natCast,zW];exact hb,rfl⟩,k⟩
theorem cY.of_eq {s:Sem Value}{K:Value->H->Prop}{v:Value}(hr:∀ w:World,w.heap=h->s.run P w=.ok v w) (k:K v h):cY P s h K:=fun w hw=>⟨v,w,hr w hw,eJ.refl w,by rw [hw];exact k⟩
theorem xb {l:List UInt8}{d:TypeId}{K:ByteArray->H->Prop}(hs:P.underlying t=some (.slice e)) (he:P.underlying e=some (.int .u8)) (hd:P.underlying d=some .string) (rd:bS h s 1 (l.flatMap cU)) (k:K ⟨l.toArray⟩ h):BT P (convert t d s.enc) h K:=by
 have hl:=cz ip (by omega) rd
 obtain ⟨p,n,c⟩:=s
 simp only at hl;subst hl
 refine cY.of_eq (v:=.string ⟨l.toArray⟩) (fun w hw=>?_) ⟨_,rfl,k⟩
 subst hw
 cases p with
 | none =>
  have hl:l=[]:=List.eq_nil_of_length_eq_zero (rd.2.1 rfl).1
  subst hl
  have h1:=run_convert_bytes_string w t d e none 0 c hs he hd
  exact h1.trans (by simp [Conv.bytesToString];rfl)
 | some a =>
  refine run_convert_bytes_back w t d e a c l hs he hd fun j hj=>?_
  obtain ⟨p,q1,q2,q3⟩:=gw ip (by omega) rd (List.getElem?_eq_getElem hj)
  simp only [Option.some.injEq] at q1;subst q1
  have:=q3.one
  rwa [Nat.mul_one] at this
theorem Bi {b:ByteArray}{d:TypeId}{K:Sl->H->Prop}(hs:P.underlying t=some .string) (hd:P.underlying d=some (.slice e)) (he:P.underlying e=some (.int .u8))
  (k:∀ r h',bS h' r 1 (b.data.toList.flatMap cU)->r.len<=r.cap->Ext h h'->(∀ x,r.blk=some x->h.size<=x)->K r h'):dA P (convert t d (.string b)) h K:=fun w hw=>by
 subst hw
 refine ⟨_,_,run_bytes_of_string w t d e b hs hd he,⟨rfl,rfl,rfl,by first | exact Nat.le_refl _ | exact Nat.le_succ _ | exact Nat.le_add_right _ _⟩,⟨some ⟨w.heap.size,0,none⟩,b.size,grownCap w b.size 0 e⟩,rfl,k _ _ ⟨?_,(fun h=>by cases h),fun i v hv=>⟨_,rfl,rfl,?_⟩⟩ (grownCap_ge w b.size 0 e) (.push _ _) fun x hx=>?_⟩
 ·rw [cq cU 1 ip,← dC]
 ·rw [aC,Nat.zero_add]
  have hl:i<b.data.toList.length:=by
   have:=(List.getElem?_eq_some_iff.1 hv).1
   rw [cq cU 1 ip] at this;omega
  have h2:=gV cU 1 ip b.data.toList i _ (List.getElem?_eq_getElem hl) 0 (by omega)
  rw [Nat.mul_one,Nat.add_zero,hv] at h2
  simp only [aA,World.alloc]
  have h3:(w.heap.push (.cells (bytesRow b (grownCap w b.size 0 e)) e ((bytesRow b (grownCap w b.size 0 e)).size,(bytesRow b (grownCap w b.size 0 e)).size+1)))[w.heap.size]?=some (.cells (bytesRow b (grownCap w b.size 0 e)) e ((bytesRow b (grownCap w b.size 0 e)).size,(bytesRow b (grownCap w b.size 0 e)).size+1)):=by simp
  have h4:(w.drew.heap.push (.cells (bytesRow b (grownCap w b.size 0 e)) e ((bytesRow b (grownCap w b.size 0 e)).size,(bytesRow b (grownCap w b.size 0 e)).size+1)))[w.heap.size]?=_:=h3
  rw [h4]
  simp only [Option.isSome_none,Bool.false_eq_true,if_false,bytesRow]
  rw [Array.getElem?_append_left (by simpa using hl),h2]
  simp only [Array.length_toList] at hl
  simp [hl]
  exact ⟨_,Array.getElem?_eq_getElem hl,rfl⟩
 ·simp [Sl.blk] at hx;omega
end
section
variable {P:Program}{rd:Option Nat}{L:List (Nat×Value)}{h:H}{d:Option Tmp}{ty:TypeId}{ps:String}{af:Array Edge}{g:Option (Nat×Bool)}{x y c:Operand}{vx vy v:Value}
theorem Dx {t t':TypeId}{m n:ByteArray}(hx:evL L x=some (.string m)) (hy:evL L y=some (.string n)):YP rd P ⟨d,.binOp .lss t x y t',ty,ps,af,g⟩ L (.bool (Op.bytesLess m.toList n.toList)):=dG (by simp) fun a w ha=>by
 simp only [execOp,ha.ev hx,ha.ev hy];simp [eqGuard,binOp,Op.stringOp,go_sem]
theorem A1 {t t':TypeId}{m n:Bool}(hu:P.underlying t=some .bool) (hx:evL L x=some (.bool m)) (hy:evL L y=some (.bool n)):YP rd P ⟨d,.binOp .eql t x y t',ty,ps,af,g⟩ L (.bool (m == n)):=
 tU hx hy (fun k w=>run_equalIn_bool' w k t m n hu) (fun op=>.inr (by cases op <;> rfl)) rfl
theorem wQ {t t':TypeId}{m n:Bool}(hu:P.underlying t=some .bool) (hx:evL L x=some (.bool m)) (hy:evL L y=some (.bool n)):YP rd P ⟨d,.binOp .neq t x y t',ty,ps,af,g⟩ L (.bool (!(m == n))):=
 xw hx hy (fun k w=>run_equalIn_bool' w k t m n hu) (fun op=>.inr (by cases op <;> rfl)) rfl
theorem kX {t t':TypeId}{xs ys:Array Value}{b:Bool}(hm:P.eqGuardType P.depth t=false) (he:∀ w,(Op.equalIn 10000 t (.agg xs) (.agg ys)).run P w=.ok b w) (hx:evL L x=some (.agg xs)) (hy:evL L y=some (.agg ys)):YP rd P ⟨d,.binOp .eql t x y t',ty,ps,af,g⟩ L (.bool b):=
 nI hx hy fun w=>by
  rw [Sem.run_bind,run_eqGuard_agg w .eql t x y xs ys hm,Result.andThen_ok,run_eql_struct w,he w];rfl
theorem AK {t t':TypeId}{xs ys:Array Value}{b:Bool}(hm:P.eqGuardType P.depth t=false) (he:∀ w,(Op.equalIn 10000 t (.agg xs) (.agg ys)).run P w=.ok b w) (hx:evL L x=some (.agg xs)) (hy:evL L y=some (.agg ys)):YP rd P ⟨d,.binOp .neq t x y t',ty,ps,af,g⟩ L (.bool (!b)):=
 nI hx hy fun w=>by
  rw [Sem.run_bind,run_eqGuard_agg w .neq t x y xs ys hm,Result.andThen_ok,run_neq_struct w,he w];rfl
theorem tD {k:Nat}{xs ys:Array Value}(w:World):(Op.eqFields k xs ys []).run P w=.ok true w:=rfl
theorem gS {k:Nat}{xs ys:Array Value}{f:Field}{fs:List Field}{a b:Value}{r c:Bool}{w:World}(hn:f.name≠ "_") (ha:(part f.type xs f.offset).run P w=.ok a w) (hb:(part f.type ys f.offset).run P w=.ok b w) (hr:(Op.equalIn k f.type a b).run P w=.ok r w) (hc:(Op.eqFields k xs ys fs).run P w=.ok c w) :
  (Op.eqFields k xs ys (f :: fs)).run P w=.ok (r && c) w:=by
 simp only [Op.eqFields,hn,ne_eq,not_false_eq_true,if_true,Sem.run_bind,ha,hb,hr,Result.andThen_ok]
 cases r
 ·simp [Sem.run_pure]
 ·simp [hc]
end
section
variable {w0:World}{N:Nat}{D:List Deferred}{L:List (Nat×Value)}{h:H}{P:Program}{rd:Option Nat}{Q:Exit->Act->World->Prop}{ops:Array Oper}{A:List Nat}{pend:List (Nat×(H->Prop))}{m m' j:Nat}{o:Oper}
def xe (ops:Array Oper) (A:List Nat) (m j:Nat):Bool:=
 match ops[j]? with
 | none=>false
 | some o=>!m.testBit j && nf o m && (List.range ops.size).all fun i=>match ops[i]? with
  | none=>true
  | some x=>Nat.beq i j || !m.testBit i || (A.getD j 0).testBit i || x.apart ops o
def xf (ops:Array Oper) (A:List Nat) (m:Nat) (J:List Nat):Bool:=
 J.all (xe ops A m) && (List.range ops.size).all fun i=>match ops[i]? with
  | none=>true
  | some x=>J.any (Nat.beq i) || m.testBit i || !nf x m
theorem sa (hb:xe ops A m j=true) (ho:ops[j]?=some o):m.testBit j=false∧(∀ e∈ek o,m.testBit e=true) ∧
  ∀ i x,ops[i]?=some x->i≠j->m.testBit i=true->(A.getD j 0).testBit i=true∨x.apart ops o=true:=by
 simp only [xe,ho,Bool.and_eq_true,Bool.not_eq_true',nf,List.all_eq_true,List.mem_range] at hb
 refine ⟨hb.1.1,hb.1.2,fun i x hx hne hm=>?_⟩
 have h1:=hb.2 i (Array.getElem?_eq_some_iff.1 hx).1
 simp only [hx,Bool.or_eq_true,Nat.beq_eq,hne,false_or,hm,Bool.not_true,Bool.false_eq_true] at h1
 exact h1
theorem yl {J:List Nat}(hb:xf ops A m J=true):(∀ j∈J,xe ops A m j=true)∧∀ i x,ops[i]?=some x->i∈J∨m.testBit i=true∨¬ ∀ e∈ek x,m.testBit e=true:=by
 simp only [xf,Bool.and_eq_true,List.all_eq_true,List.mem_range] at hb
 refine ⟨hb.1,fun i x hx=>?_⟩
 have h1:=hb.2 i (Array.getElem?_eq_some_iff.1 hx).1
 simp only [hx,Bool.or_eq_true,List.any_eq_true,Nat.beq_eq,nf,Bool.not_eq_true',List.all_eq_false] at h1
 rcases h1 with (⟨y,h1,h2⟩ | h1) | ⟨e,h1,h2⟩
 ·subst h2;exact .inl h1
 ·exact .inr (.inl h1)
 ·exact .inr (.inr fun h=>h2 (h e h1))
theorem G.effs {a:Act}{w:World}{J:List Nat}(j0:Nat) (hj0:j0∈J) (hA:pD ops A=true) (hb:xf ops A m J=true)
  (k:∀ j∈J,∃ o,ops[j]?=some o∧Region.wanted o (yielded ops a.tmps)=true∧fa rd P o a.eval w fun v w'=>iH (pend.filter fun p=>!(A.getD j 0).testBit p.1) w'.heap∧G rd P ops A Q (pend.filter fun p=>!(A.getD j 0).testBit p.1) (m ||| 2 ^ j) (a.put o.dst v) w') :
  G rd P ops A Q pend m a w:=by
 obtain ⟨hJ,hR⟩:=yl hb
 obtain ⟨o0,ho0,_,_⟩:=k j0 hj0
 have h10:=(sa (hJ j0 hj0) ho0).1
 have hjs:j0<ops.size:=(Array.getElem?_eq_some_iff.1 ho0).1
 intro hH fuel
 induction fuel with
 | zero =>
  intro lr ar hr
  have hju:¬ inR lr j0:=fun h=>by have:=hr.sub j0 h;rw [h10] at this;cases this
  have:=ot (by rw [hr.len];exact hjs) hju
  have:=hr.fuel
  omega
 | succ fuel ih =>
  intro lr ar hr
  have hju0:¬ inR lr j0:=fun h=>by have:=hr.sub j0 h;rw [h10] at this;cases this
  refine ⟨fun h=>absurd h (qY hA hr.len hjs hju0),fun i hi=>?_⟩
  by_cases hm:m.testBit i=true
  ·exact qZ hA hr hH hi hm ih
  ·obtain ⟨hu,x,hx,hdeps⟩:=(iu hr.len).1 hi
   have hiJ:i∈J:=(hR i x hx).resolve_right fun h=>h.elim (fun h=>hm h) fun h=>h fun e he=>hr.sub e (hdeps e he)
   obtain ⟨o,ho,hw,k⟩:=k i hiJ
   obtain ⟨h1,h3,h4⟩:=sa (hJ i hiJ) ho
   obtain rfl:x=o:=by rw [ho] at hx;exact (Option.some.inj hx).symm
   have hju:¬ inR lr i:=fun h=>by have:=hr.sub i h;rw [h1] at this;cases this
   have hjl:i<lr.size:=by rw [hr.len];exact (Array.getElem?_eq_some_iff.1 ho).1
   have hpa:∀ q y,ops[q]?=some y->m.testBit q=true->¬ inR lr q->y.apart ops x=true∧(A.getD i 0).testBit q=false:=fun q y hy hmq hnq=>by
    have hqs:q<ops.size:=(Array.getElem?_eq_some_iff.1 hy).1
    have hna:¬ (A.getD i 0).testBit q=true:=fun h=>hnq (kF hA (p:=inR lr) hr.closed (i+1) i x (by omega) ho hdeps q hqs h)
    have hqi:q≠i:=fun e=>by subst e;rw [h1] at hmq;cases hmq
    exact ⟨((h4 q y hy hqi) hmq).resolve_left hna,by simpa using hna⟩
   have hag:∀ t∈x.looksAt ops,ar.tmps.getD t undef=a.tmps.getD t undef:=fun t ht=>hr.get t fun q y hy hmq hnq hd =>
    (Oper.apart_spec (hpa q y hy hmq hnq).1).1 t hd ht
   have hsem:x.semAt rd ar.eval=x.semAt rd a.eval:=iW x (fo hA ho).2.1 (fo hA ho).2.2.1 (lA hag)
   unfold wpOpIn
   simp only [ho]
   rw [if_pos (by rw [ik hr.size hag];exact hw)]
   refine fa.wp ?_
   refine (fa.congr hsem k).mono fun v w' ⟨hh,hg⟩=>hg hh fuel _ _ ⟨by simpa using hr.len,fun q y hy hq e he=>?_,fun q hq=>?_,fun q y hy hmq e he=>?_,fun q hq hmq hnq=>?_,by rw [fw,fw];exact hr.size,by rw [iA,iA];exact hr.defers,fun t ht=>?_,ov hjl hju hr.fuel⟩
   ·rw [fD hjl] at hq ⊢
    rcases hq with rfl | hq
    ·obtain rfl:y=x:=by rw [ho] at hy;exact (Option.some.inj hy).symm
     exact .inr (hdeps e he)
    ·exact .inr (hr.closed q y hy hq e he)
   ·rw [fD hjl] at hq
    rw [cL]
    rcases hq with rfl | hq
    ·simp
    ·rw [hr.sub q hq];rfl
   ·rw [cL,Bool.or_eq_true,decide_eq_true_iff] at hmq
    rw [cL,Bool.or_eq_true]
    rcases hmq with hmq | rfl
    ·exact .inl (hr.below q y hy hmq e he)
    ·obtain rfl:y=x:=by rw [ho] at hy;exact (Option.some.inj hy).symm
     exact .inl (h3 e he)
   ·have hnq':¬ inR lr q:=fun h=>hnq ((fD hjl).2 (.inr h))
    have hqi:q≠i:=fun e=>hnq ((fD hjl).2 (.inl e))
    rw [cL,Bool.or_eq_true,decide_eq_true_iff] at hmq
    have hmq:=hmq.resolve_right hqi
    obtain ⟨g1,g2⟩:=hr.held q hq hmq hnq'
    have hy:ops[q]?=some ops[q]:=Array.getElem?_eq_getElem hq
    obtain ⟨p1,p2⟩:=hpa q _ hy hmq hnq'
    have hput:∀ w,YAt rd P ops q a w->YAt rd P ops q (a.put x.dst v) w:=fun w h =>
     YAt.put hA hy (fun t ht=>⟨(Oper.apart_spec p1).2.2 t ht,fun e=>(Oper.apart_spec p1).2.1 t e ht⟩) h
    refine ⟨g1,?_⟩
    rcases g2 with ⟨s,hs,g2⟩ | g2
    ·exact .inl ⟨s,List.mem_filter.2 ⟨hs,by show (!(A.getD i 0).testBit q)=true;rw [p2];rfl⟩,fun w h=>hput w (g2 w h)⟩
    ·exact .inr fun w=>hput w (g2 w)
   ·by_cases e:x.dst=some t
    ·rcases Nat.lt_or_ge t a.tmps.size with hlt | hge
     ·rw [e,kz hlt,kz (by rw [hr.size];exact hlt)]
     ·have h1:∀ b:Act,b.tmps.size<=t->(b.put x.dst v).tmps.getD t undef=undef:=fun b hb=>by
       rw [Array.getD_eq_getD_getElem?,Array.getElem?_eq_none (by rw [fw];exact hb)];rfl
      rw [h1 a hge,h1 ar (by rw [hr.size];exact hge)]
    ·rw [ji e,ji e]
     refine hr.get t fun q y hy hmq hnq hd=>?_
     refine ht q y hy (by rw [cL,hmq];rfl) (fun h=>?_) hd
     rcases (fD hjl).1 h with rfl | h
     ·rw [h1] at hmq;cases hmq
     ·exact hnq h
theorem rF (j1 m1 j2 m2:Nat) (p1 p2:List (Nat×(H->Prop))){o1 o2:Oper}(hb:xf ops A m [j1,j2]=true) (e1:m1=m ||| 2 ^ j1) (e2:m2=m ||| 2 ^ j2) (hp1:pend.filter (fun p=>!(A.getD j1 0).testBit p.1)=p1) (hp2:pend.filter (fun p=>!(A.getD j2 0).testBit p.1)=p2)
  (ho1:ops[j1]?=some o1) (ho2:ops[j2]?=some o2) (hw1:gW ops o1 L=some true) (hw2:gW ops o2 L=some true) (hd1:ltB o1.dst N=true) (hd2:ltB o2.dst N=true)
  (s1:∃ K:Value->H->Prop,EV rd P o1 L h K∧∀ v h',K v h'->iH p1 h'∧TG w0 N D (ky o1.dst v L) h' rd P ops A Q p1 m1)
  (s2:∃ K:Value->H->Prop,EV rd P o2 L h K∧∀ v h',K v h'->iH p2 h'∧TG w0 N D (ky o2.dst v L) h' rd P ops A Q p2 m2):TG w0 N D L h rd P ops A Q pend m:=fun hA a w ha hh hl=>by
 subst hp1;subst hp2;subst e1;subst e2
 obtain ⟨K1,v1,k1⟩:=s1
 obtain ⟨K2,v2,k2⟩:=s2
 refine G.effs j1 (by simp) hA hb fun j hj=>?_
 simp only [List.mem_cons,List.not_mem_nil,or_false] at hj
 rcases hj with rfl | rfl
 ·exact ⟨o1,ho1,gK hw1 ha.get,(v1 a w ha.get hh).mono fun v w' ⟨l,kk⟩=>⟨(k1 v _ kk).1,(k1 v _ kk).2 hA _ _ (ha.putL hd1 v) rfl (hl.trans l)⟩⟩
 ·exact ⟨o2,ho2,gK hw2 ha.get,(v2 a w ha.get hh).mono fun v w' ⟨l,kk⟩=>⟨(k2 v _ kk).1,(k2 v _ kk).2 hA _ _ (ha.putL hd2 v) rfl (hl.trans l)⟩⟩
end
def put (h:H) (l:Nat) (o:Obj):H:=h.setIfInBounds l o
abbrev RB:=(H->(H->Prop)->Prop)->Nat->List Value->H->(H->Prop)->(Nat->H->Prop)->Prop
def BP (P:Program) (v arg:Value) (h:H) (K:H->Prop):Prop:=
 ∃ f fi ca,v=.func (.func f) fi ca∧(∀ args w,(callFunc f args).run P w=.ok (.enter f args) w)∧Fn P f (fi ++ #[arg] ++ ca) h fun _ h'=>K h'
def uo (P:Program) (R:LoopState->Option Code->Obj) (l:Nat) (js:List Code) (B:RB):Prop:=
 ∀ (h':H) (args:List Value) (K:Value->H->Prop),h'[l]?=some (R .ready none) ->
  B (fun h4 k=>h4[l]?=some (R .ready none)∧k (put h4 l (R .busy none))) l args h' (fun h2=>h2[l]?=some (R .busy none)∧K (.bool true) (put h2 l (R .ready none)))
   (fun j h2=>∃ c,js[j]?=some c∧h2[l]?=some (R .busy none)∧K (.bool false) (put h2 l (R .done (some c)))) ->
  CV P (.func (.yield l) #[] #[]) args h' K
def q9 (R:LoopState->Option Code->Obj) (l:Nat) (js:List Code) (Kn:H->Prop) (Kj:Nat->H->Prop) (h2:H):Prop:=
 (h2[l]?=some (R .ready none)∧Kn (put h2 l (R .exhausted none)))∨∃ j c,js[j]?=some c∧h2[l]?=some (R .done (some c))∧Kj j (put h2 l (R .exhausted (some c)))
def rng (P:Program) (v:Value) (h:H) (js:List Code) (B:RB) (Kn:H->Prop) (Kj:Nat->H->Prop):Prop:=
 ∀ (R:LoopState->Option Code->Obj),(∀ s p,∃ r,R s p=.loop r)->uo P R (h.size+1) js B ->
  BP P v (.func (.yield (h.size+1)) #[] #[]) ((h.push (.deferred (some []))).push (R .ready none)) (q9 R (h.size+1) js Kn Kj)
def B8:List Tmp->List Value->List (Nat×Value)->List (Nat×Value)
 | t :: ts,v :: vs,L=>B8 ts vs ((t,v) :: L)
 | _,_,L=>L
def tg (w0:World) (K:H->Prop) (J:Nat->H->Prop) (js:List Code):Exit->Act->World->Prop
 | .normal,_,w=>eJ w0 w∧K w.heap
 | .ret,_,w=>eJ w0 w∧∃ j,js[j]?=some .ret∧J j w.heap
 | .exit id,_,w=>eJ w0 w∧∃ j,js[j]?=some (.exit id)∧J j w.heap
 | _,_,_=>False
def td (P:Program) (bg:H->(H->Prop)->Prop) (l:Nat):Prop:=∀ (w:World) (k:H->Prop),bg w.heap k->∃ w₂,(Instr.beginRound l).run P w=.ok () w₂∧eJ w w₂∧k w₂.heap
section
variable {w0:World}{N:Nat}{D:List Deferred}{L:List (Nat×Value)}{h:H}{P:Program}{rd:Option Nat}{Q:Exit->Act->World->Prop}
theorem ui {bg:H->(H->Prop)->Prop}{l:Nat}{k:H->Prop}{Y:Act->World->Prop}(hbg:td P bg l) (H:bg h k) (hk:∀ h5,k h5->Tr w0 N D L h5 Y):Tr w0 N D L h (fun a₁ w₁=>∃ w₂,(Instr.beginRound l).run P w₁=.ok () w₂∧Y a₁ w₂):=fun a w ha hh hl=>by
 subst hh
 obtain ⟨w₂,h1,h2,h3⟩:=hbg w k H
 exact ⟨w₂,h1,hk _ h3 a w₂ ha rfl (hl.trans h2)⟩
theorem sX {K:H->Prop}{J:Nat->H->Prop}{js:List Code}(k:K h):Tr w0 N D L h (tg w0 K J js .normal):=fun a w ha hh hl=>⟨hl,hh ▸ k⟩
theorem D9 {K:H->Prop}{J:Nat->H->Prop}{js:List Code}{id:Nat}(j:Nat) (hj:js[j]?=some (.exit id)) (k:J j h):Tr w0 N D L h (tg w0 K J js (.exit id)):=fun a w ha hh hl=>⟨hl,j,hj,hh ▸ k⟩
theorem xK:∀ (ts:List Tmp) (vs:List Value) (L:List (Nat×Value)) (tm:Array Value),tm.size=N->ts.length=vs.length->ts.all (fun t=>Nat.blt t N)=true->(∀ t v,lk L t=some v->tm.getD t undef=v) ->
  ((ts.zip vs).foldl (fun tm p=>tm.setIfInBounds p.1 p.2) tm).size=N∧∀ t v,lk (B8 ts vs L) t=some v->((ts.zip vs).foldl (fun tm p=>tm.setIfInBounds p.1 p.2) tm).getD t undef=v
 | [],[],L,tm,hs,_,_,hl=>⟨hs,hl⟩
 | t :: ts,[],L,tm,_,hlen,_,_=>by simp at hlen
 | [],v :: vs,L,tm,_,hlen,_,_=>by simp at hlen
 | t :: ts,v :: vs,L,tm,hs,hlen,hb,hl=>by
  simp only [List.all_cons,Bool.and_eq_true,Nat.blt_eq] at hb
  refine xK ts vs ((t,v) :: L) (tm.setIfInBounds t v) (by simpa using hs) (by simpa using hlen) hb.2 fun t' v' h'=>?_
  rw [md] at h'
  by_cases e:t=t'
  ·subst e
   simp at h';subst h'
   have ht:(t:Nat)<tm.size:=by rw [hs];exact hb.1
   simp [ht]
  ·simp [e] at h'
   have:=hl t' v' h'
   simpa [Array.getElem?_setIfInBounds_ne e] using this
theorem yZ {fn:FuncId}{tm:Array Value}{ps:Array Tmp}{assign body:Code}{D0:Nat}{js:List Code}{B:RB}{l:Nat}(hs:tm.size=N) (hL:∀ t v,lk L t=some v->tm.getD t undef=v) (hps:ps.toList.all (fun t=>Nat.blt t N)=true)
  (hb:∀ bg args h' K J w0',td P bg l->B bg l args h' K J->args.length=ps.size∧Tr w0' N [] (B8 ps.toList args L) h' (assign.wpIn (Fz (some l)) 0 P (Exit.then (fun a₁ w₁=>∃ w₂,(Instr.beginRound l).run P w₁=.ok () w₂∧body.wpIn (Fz (some l)) 0 P (tg w0' K J js) a₁ w₂) (fun _ _ _=>False)))) :
  uo P (fun s p=>.loop { state:=s,pending:=p,fn,tmps:=tm,params:=ps,assign,body,defers:=D0 }) l js B:=fun h' args K hl hB w hw=>by
 subst hw
 have hbg:td P (fun h4 k=>h4[l]?=some (.loop { state:=.ready,pending:=none,fn,tmps:=tm,params:=ps,assign,body,defers:=D0 })∧k (put h4 l (.loop { state:=.busy,pending:=none,fn,tmps:=tm,params:=ps,assign,body,defers:=D0 }))) l:=fun w k ⟨h1,h2⟩ =>
  ⟨_,run_beginRound h1 rfl,⟨rfl,rfl,rfl,by first | exact Nat.le_refl _ | exact Nat.le_succ _ | exact Nat.le_add_right _ _⟩,h2⟩
 obtain ⟨hlen,htr⟩:=hb _ args w.heap _ _ w hbg hB
 have hr:((do let d ← Deferred.ofValue (.func (.yield l) #[] #[]) args.toArray;invoke d.target d.args):Sem Next).run P w=.ok (.round l fn ((ps.zip args.toArray).foldl (fun tmps (t,a)=>tmps.setIfInBounds t a) tm) assign body) w:=by
  have:=run_yield (P:=P) (args:=args.toArray) hl (by simpa using hlen)
  simp only at this
  show (Instr.yield l (#[] ++ args.toArray ++ #[])).run P w=_
  simpa using this
 unfold ze
 rw [hr]
 refine roundIn_of_wpIn (F:=Fence.wide) trivial ?_
 have hfold:(ps.zip args.toArray).foldl (fun tmps (t,a)=>tmps.setIfInBounds t a) tm=(ps.toList.zip args).foldl (fun tm p=>tm.setIfInBounds p.1 p.2) tm:=by
  rw [← Array.foldl_toList];simp
 obtain ⟨z1,z2⟩:=xK (N:=N) ps.toList args L tm hs (by simpa using hlen.symm) hps hL
 rw [hfold]
 refine wpIn_mono (htr { tmps:=_,defers:=[] } w ⟨z1,rfl,z2⟩ rfl (eJ.refl w)) fun e a1 w1 q=>?_
 cases e with
 | normal =>
  obtain ⟨w2,hbr,hbody⟩:=q
  refine ⟨w2,hbr,wpIn_mono hbody fun e a3 w3 q=>?_⟩
  cases e with
  | normal =>
   obtain ⟨hlk,h1,h2⟩:=q
   exact ⟨_,_,run_endRound none h1,_,rfl,⟨hlk.os,hlk.tape,hlk.output,hlk.drawn⟩,h2⟩
  | ret =>
   obtain ⟨hlk,j,hj,c,hc,h1,h2⟩:=q
   rw [hj] at hc;cases hc
   exact ⟨_,_,run_endRound (some .ret) h1,_,rfl,⟨hlk.os,hlk.tape,hlk.output,hlk.drawn⟩,h2⟩
  | exit id =>
   obtain ⟨hlk,j,hj,c,hc,h1,h2⟩:=q
   rw [hj] at hc;cases hc
   exact ⟨_,_,run_endRound (some (.exit id)) h1,_,rfl,⟨hlk.os,hlk.tape,hlk.output,hlk.drawn⟩,h2⟩
  | _=>exact q.elim
 | _=>exact q.elim
abbrev lf (d:Nat):Deferred:={ target:=.collected d,args:=#[] }
theorem nU {g:Operand}{ps:Array Tmp}{assign body:Code}{v:Value}{js:List Code}{B:RB}{Kn:H->Prop}{Kj:Nat->H->Prop}(hv:evL L g=some v) (hps:ps.toList.all (fun t=>Nat.blt t N)=true) (H:rng P v h js B Kn Kj)
  (hb:∀ bg l args h' K J w0',td P bg l->B bg l args h' K J->args.length=ps.size∧Tr w0' N [] (B8 ps.toList args L) h' (assign.wpIn (Fz (some l)) 0 P (Exit.then (fun a₁ w₁=>∃ w₂,(Instr.beginRound l).run P w₁=.ok () w₂∧body.wpIn (Fz (some l)) 0 P (tg w0' K J js) a₁ w₂) (fun _ _ _=>False))))
  (hn:∀ h',Kn h'->Tr w0 N (lf h.size :: D) L h' (Q .normal))
  (hj:∀ j c h',js[j]?=some c->Kj j h'->Tr w0 N (lf h.size :: D) L h' (c.wpIn (Fz none) 0 P Q)) :
  Tr w0 N D L h ((Code.rangeFunc g ps assign body).wpIn (Fz none) 0 P Q):=fun a w ha hh hl=>by
 subst hh
 refine wpIn_rangeFunc fun fn _=>?_
 obtain ⟨f,fi,ca,rfl,hc,hfn⟩:=H (fun s p=>.loop { state:=s,pending:=p,fn,tmps:=a.tmps,params:=ps,assign,body,defers:=w.heap.size }) (fun s p=>⟨_,rfl⟩)
  (yZ (N:=N) (L:=L) ha.size ha.get hps fun bg args h' K J w0'=>hb bg _ args h' K J w0')
 obtain ⟨W1,hW1⟩:∃ W1,(w.alloc (.deferred (some []))).alloc (.loop { state:=.ready,pending:=none,fn,tmps:=a.tmps,params:=ps,assign,body,defers:=w.heap.size })=W1:=⟨_,rfl⟩
 have hl1:eJ w W1:=by subst hW1;exact ⟨rfl,rfl,rfl,by first | exact Nat.le_refl _ | exact Nat.le_succ _ | exact Nat.le_add_right _ _⟩
 refine ⟨w.heap.size+1,[lf w.heap.size],W1,{ target:=.fn (.func f) (fi,ca).2,args:=fi ++ #[.func (.yield (w.heap.size+1)) #[] #[]] },W1,f,fi ++ #[.func (.yield (w.heap.size+1)) #[] #[]] ++ ca,W1,hW1 ▸ run_enterLoop_outer _ _ _ _ _,?_,fun _ _=>trivial,?_,(fun h=>by cases h),?_⟩
 ·have he:=ha.get.ev hv
  simp only [resolve,he]
  simp [go_sem,Deferred.ofValue]
 ·simp [invoke,hc]
 ·refine CallsIn.mono (hfn W1 (by rw [← hW1];rfl)) fun e w3 ⟨r,he,hlk,hq⟩=>?_
  subst he
  have fr:Frm { a with defers:=[lf w.heap.size] ++ a.defers } N (lf w.heap.size :: D) L:=⟨ha.size,by rw [← ha.defers];rfl,ha.get⟩
  rcases hq with ⟨h1,h2⟩ | ⟨j,c,hjc,h1,h2⟩
  ·exact ⟨none,_,run_endLoop h1 (by simp),hn _ h2 _ _ fr rfl ((hl.trans hl1).trans ⟨hlk.os,hlk.tape,hlk.output,hlk.drawn⟩)⟩
  ·exact ⟨some c,_,run_endLoop h1 (by simp),hj j c _ hjc h2 _ _ fr rfl ((hl.trans hl1).trans ⟨hlk.os,hlk.tape,hlk.output,hlk.drawn⟩)⟩
def zh (w0:World) (N:Nat) (I:List Nat->List (Nat×Value)->H->Prop):Act->World->Prop:=fun a w=>∃ ds L,Frm a N (ds.map lf) L∧eJ w0 w∧I ds L w.heap
theorem rq {I:List Nat->List (Nat×Value)->H->Prop}(ds:List Nat) (L':List (Nat×Value)) (hD:D=ds.map lf) (hs:vE L' L) (k:I ds L' h):Tr w0 N D L h (zh w0 N I):=fun a w ha hh hl=>⟨ds,L',hD ▸ ha.sub hs,hl,hh ▸ k⟩
theorem yX {x y:Code}(I:List Nat->List (Nat×Value)->H->Prop) (hj:∀ ds L' h',I ds L' h'->Tr w0 N (ds.map lf) L' h' (y.wpIn (Fz rd) 0 P Q)) (k:Tr w0 N D L h (x.wpIn (Fz rd) 0 P (Exit.then (zh w0 N I) Q))):Tr w0 N D L h ((Code.seq x y).wpIn (Fz rd) 0 P Q):=
 fun a w ha hh hl=>wpIn_seq (wpIn_mono (k a w ha hh hl) fun e a' w' q=>by
  cases e with
  | normal=>obtain ⟨ds,L',hf,hk,hi⟩:=q;exact hj ds L' _ hi a' w' hf rfl hk
  | _=>exact q)
theorem wJ {c:Code}(I:Nat->List Nat->List (Nat×Value)->H->Prop) (h0:∀ ds L' h',¬ I 0 ds L' h') (hs:∀ m ds L' h',I (m+1) ds L' h'->Tr w0 N (ds.map lf) L' h' (c.wpIn (Fz rd) 0 P (Exit.then (zh w0 N (I m)) Q)))
  (m:Nat) (ds:List Nat) (hD:D=ds.map lf) (k:I m ds L h):Tr w0 N D L h ((Code.loop c).wpIn (Fz rd) 0 P Q):=xJ m (by
 subst hD
 induction m generalizing L h ds with
 | zero=>exact absurd k (h0 _ _ _)
 | succ m ih =>
  intro a w ha hh hl
  refine wpIn_mono (hs m ds L h k a w ha hh hl) fun e a' w' q=>?_
  cases e with
  | normal=>obtain ⟨ds',L',hf,hk,hi⟩:=q;exact ih ds' hi a' w' hf rfl hk
  | _=>exact q)
def lO:List Nat->H->(H->Prop)->Prop
 | [],h,K=>K h
 | d :: r,h,K=>h[d]?=some (.deferred (some []))∧lO r (put h d (.deferred none)) K
def zp (P:Program) (fn:Func) (Q:Value->H->Prop) (w0:World):Exit->Act->World->Prop:=
 bodyPostM (Fz none) 0 P fn fun e w'=>∃ r,e=.returned r∧eJ w0 w'∧Q r w'.heap
theorem tH {f:FuncId}{fn:Func}{c:Code}{vs:List Value}{Q:Value->H->Prop}(hf:P.funcs[f]?=some fn) (hN:fn.ntmps=N) (hb:fn.body=some c) (hn:Nat.ble vs.length N=true)
  (k:∀ w0,Tr w0 N [] (sx vs 0) h (c.wpIn (Fz none) 0 P (zp P fn Q w0))):Fn P f vs.toArray h Q:=fun w hw=>by
 subst hN
 refine callsIn_of_wp_marks hf hb trivial ?_
 refine k w _ w ⟨?_,rfl,fun t v ht=>?_⟩ hw (eJ.refl w)
 ·have:=Nat.le_of_ble_eq_true hn
  simp;omega
 ·obtain ⟨_,h2⟩:=qE vs 0 t v ht
  rw [Nat.sub_zero] at h2
  have hlt:t<vs.length:=(List.getElem?_eq_some_iff.1 h2).1
  rw [Array.getD_eq_getD_getElem?,Array.getElem?_append_left (by simpa using hlt)]
  simp [h2]
theorem sE {fn:Func}{tm:Array Value}{R:Ending->World->Prop}:∀ (ds:List Nat) (w:World) (K:H->Prop),lO ds w.heap K->(∀ w',eJ w w'->K w'.heap->∃ v,(results fn tm).run P w'=.ok v w'∧R (.returned v) w')->LeavesInM (Fz none) 0 P fn tm R (ds.map lf) .returning w
 | [],w,K,h,hk=>hk w (eJ.refl w) h
 | d :: r,w,K,h,hk=>⟨(fun h=>by cases h),.inl ⟨d,_,rfl,run_takeDeferred h.1,sE r (w.putObj d (.deferred none)) K h.2 fun w' hl hq=>hk w' ⟨hl.os,hl.tape,hl.output,hl.drawn⟩ hq⟩⟩
theorem nV {fn:Func}{Q:Value->H->Prop}{X:H->Prop}(ds:List Nat) (hD:D=ds.map lf) (H:lO ds h X) (hx:∀ h9,X h9->Tr w0 N [] L h9 (mY P fn Q w0 .ret)):Tr w0 N D L h (zp P fn Q w0 .ret):=fun a w ha hh hl=>by
 subst hh
 show LeavesInM (Fz none) 0 P fn a.tmps _ a.defers .returning w
 rw [ha.defers,hD]
 refine sE ds w X H fun w' hl' hq=>?_
 exact (hx _ hq { a with defers:=[] } w' ⟨ha.size,rfl,ha.get⟩ rfl (hl.trans hl')).2
end
section
variable {P:Program}{rd:Option Nat}{L:List (Nat×Value)}{h:H}{d:Option Tmp}{ty:TypeId}{ps:String}{af:Array Edge}{g:Option (Nat×Bool)}
def qv (a b:ByteArray):Int:=Lib.compareBytes a.data.toList b.data.toList
def Cy (P:Program) (f:FuncId):Prop:=∀ (a b:ByteArray) (w:World),(callFunc f #[.string a,.string b]).run P w=.ok (.value (.int .i64 (qv a b))) w
theorem Bh {f:FuncId}{fn:Func}(hf:P.funcs[f]?=some fn) (hname:(fn.name == "runtime.NumGoroutine")=false) (hb:fn.body.isNone=true) (hn:Extern.findNext fn=none) (he:Extern.find fn=some Extern.BytealgCompare.compare):Cy P f:=fun a b w=>by
 rw [run_callFunc_extern hf hname hb hn he,Lib.run_compareString]
 rfl
theorem Dt {f:FuncId}{asL:List Operand}{ts:Array TypeId}{a b:ByteArray}(hc:Cy P f) (ha:kO L asL=some [.string a,.string b]) :
  YP rd P ⟨d,.call { callee:=.value (.func f),args:=asL.toArray,argTypes:=ts },ty,ps,af,g⟩ L (.int .i64 (qv a b)):=fun ac w hag=>by
 rw [Oper.semAt_eq rd _ _ (by simp)]
 simp only [execOp,resolve,List.map_toArray,hag.evs ha,Act.eval,Deferred.ofValue]
 have:=hc a b w
 simp [invoke,go_sem,this]
end
section
variable {P:Program}{rd:Option Nat}{L:List (Nat×Value)}{h:H}{d:Option Tmp}{ty:TypeId}{ps:String}{af:Array Edge}{g:Option (Nat×Bool)}{x:Operand}{v:Value}
theorem Bp {asL:List Operand}{ts:Array TypeId}{vs:List Value}{K:Value->H->Prop}(ha:kO L asL=some vs) (k:cY P (Builtin.clear_ ts ty vs.toArray) h K):EV rd P ⟨d,.call { callee:=.builtin .clear,args:=asL.toArray,argTypes:=ts },ty,ps,af,g⟩ L h K:=CU ha (fun _=>rfl) k
end
section
variable {P:Program}{rd:Option Nat}{L:List (Nat×Value)}{h:H}{d:Option Tmp}{ty:TypeId}{ps:String}{af:Array Edge}{g:Option (Nat×Bool)}
def vI (x y:Int):Int:=(((x.toNat+y.toNat) % 18446744073709551616:Nat):Int)
def vH (x y:Int):Int:=(((x.toNat+y.toNat) / 18446744073709551616:Nat):Int)
def vr (P:Program) (f:FuncId):Prop:=∀ (x y:Int) (w:World),(callFunc f #[.int .u64 x,.int .u64 y,.int .u64 0]).run P w=.ok (.value (.tuple #[.int .u64 (vI x y),.int .u64 (vH x y)])) w
theorem xX {f:FuncId}{fn:Func}(hf:P.funcs[f]?=some fn) (hname:(fn.name == "runtime.NumGoroutine")=false) (hb:fn.body.isNone=true) (hn:Extern.findNext fn=none) (he:Extern.find fn=some add64Entry):vr P f:=fun x y w=>by
 rw [run_callFunc_extern hf hname hb hn he]
 rfl
theorem B7 {f:FuncId}{asL:List Operand}{ts:Array TypeId}{x y:Int}(hc:vr P f) (ha:kO L asL=some [.int .u64 x,.int .u64 y,.int .u64 0]) :
  YP rd P ⟨d,.call { callee:=.value (.func f),args:=asL.toArray,argTypes:=ts },ty,ps,af,g⟩ L (.tuple #[.int .u64 (vI x y),.int .u64 (vH x y)]):=fun ac w hag=>by
 rw [Oper.semAt_eq rd _ _ (by simp)]
 simp only [execOp,resolve,List.map_toArray,hag.evs ha,Act.eval,Deferred.ofValue]
 have:=hc x y w
 simp [invoke,go_sem,this]
end
open Go Go.ChangeMaps Go.MapKept
section
variable {P:Program}{rd:Option Nat}{L:List (Nat×Value)}{h:H}{d:Option Tmp}{ty:TypeId}{ps:String}{af:Array Edge}{g:Option (Nat×Bool)}{x y m:Operand}{vx vy vm:Value}{K:Value->H->Prop}
theorem DT {t:TypeId}(hx:evL L x=some vx) (k:cY P (Instr.makeMap t (some vx)) h K):EV rd P ⟨d,.makeMap t (some x),ty,ps,af,g⟩ L h K:=lb (by simp) (fun a ha=>by simp only [execOp,Option.map_some,ha.ev hx]) k
theorem En {t:TypeId}{K:H->Prop}(hm:evL L m=some vm) (hx:evL L x=some vx) (hy:evL L y=some vy) (k:cY P (Instr.mapUpdate t vm vx vy) h fun _ h'=>K h'):EV rd P ⟨d,.mapUpdate t m x y,ty,ps,af,g⟩ L h fun v h'=>v=undef∧K h':=
 Cf (by simp) (fun a ha=>by simp only [execOp,ha.ev hm,ha.ev hx,ha.ev hy]) (k.mono fun _ h' kk=>⟨rfl,kk⟩)
theorem Em {t:TypeId}{ok:Bool}(hm:evL L m=some vm) (hx:evL L x=some vx) (k:cY P (Instr.lookup t vm vx ok) h K):EV rd P ⟨d,.lookup t m x ok,ty,ps,af,g⟩ L h K:=lb (by simp) (fun a ha=>by simp only [execOp,ha.ev hm,ha.ev hx]) k
theorem Ep {t:TypeId}(hx:evL L x=some vx) (k:cY P (Instr.range t vx) h K):EV rd P ⟨d,.range t x,ty,ps,af,g⟩ L h K:=lb (by simp) (fun a ha=>by simp only [execOp,ha.ev hx]) k
theorem Eo {b:Bool}(hx:evL L x=some vx) (k:cY P (Instr.next vx b ty) h K):EV rd P ⟨d,.next x b,ty,ps,af,g⟩ L h K:=lb (by simp) (fun a ha=>by simp only [execOp,ha.ev hx]) k
theorem Ek (hx:evL L x=some vx) (k:cY P (Instr.entry vx) h K):EV rd P ⟨d,.entry x,ty,ps,af,g⟩ L h K:=lb (by simp) (fun a ha=>by simp only [execOp,ha.ev hx]) k
theorem Du {b:Bool}{t:Array Value}(hx:evL L x=some (.tuple (#[.bool b] ++ t))):YP rd P ⟨d,.extract x 0,ty,ps,af,g⟩ L (.bool b):=dG (by simp) fun a w ha=>by
 simp only [execOp,ha.ev hx]
 have h0:(#[Value.bool b] ++ t)[0]?=some (.bool b):=by rw [Array.getElem?_append_left (by simp)];rfl
 simp only [Instr.extract,h0]
 simp [go_sem]
end
theorem zv (a b:ByteArray):(a == b)=decide (a=b):=by
 cases a with | mk x=>cases b with | mk y =>
 rw [show ((⟨x⟩:ByteArray) == ⟨y⟩)=(x == y) from rfl]
 by_cases h:x=y
 ·subst h;simp
 ·simp [h]
theorem kG (k:ByteArray):(k == k)=true:=by rw [zv];simp
theorem wV {k p:ByteArray}(h:¬ k=p):(k == p)=false:=by rw [zv];simpa using h
structure pa (es:Array MapEntry) (clock:Nat) (M:List (ByteArray×Value)):Prop where
 eq:es.toList.map (fun e=>(e.key,e.val))=M.map fun p=>(.string p.1,p.2)
 old:∀ e∈es.toList,e.born<clock
 born:(es.toList.map (·.born)).Nodup
 keys:(M.map (·.1)).Nodup
def lj (h:H) (b:Nat) (M:List (ByteArray×Value)):Prop:=∃ es clock,h[b]?=some (.map es clock)∧pa es clock M
theorem lj.only {S:Nat->Prop}{h h':H}{b:Nat}{M:List (ByteArray×Value)}(m:lj h b M) (o:bI S h h') (hn:¬ S b):lj h' b M:=by
 obtain ⟨es,clock,hb,r⟩:=m
 exact ⟨es,clock,o.block hb hn,r⟩
theorem lj.lt {h:H}{b:Nat}{M:List (ByteArray×Value)}(m:lj h b M):b<h.size:=by
 obtain ⟨es,clock,hb,r⟩:=m;exact dx hb
theorem BO:pa #[] 0 []:=⟨rfl,by simp,by simp,by simp⟩
theorem pa.get {es:Array MapEntry}{clock:Nat}{M:List (ByteArray×Value)}(r:pa es clock M){i:Nat}{e:MapEntry}(h:es.toList[i]?=some e):∃ p,M[i]?=some p∧e.key=.string p.1∧e.val=p.2:=by
 have:=congrArg (fun l=>l[i]?) r.eq
 simp only [List.getElem?_map,h,Option.map_some] at this
 cases hp:M[i]? with
 | none=>rw [hp] at this;cases this
 | some p =>
  rw [hp] at this
  simp only [Option.map_some,Option.some.injEq,Prod.mk.injEq] at this
  exact ⟨p,rfl,this.1,this.2⟩
theorem pa.len {es:Array MapEntry}{clock:Nat}{M:List (ByteArray×Value)}(r:pa es clock M):es.size=M.length:=by
 have:=congrArg List.length r.eq
 simpa using this
theorem nJ {α β:Type}{f:α->β}:∀ {l:List α},(l.map f).Nodup->l.Nodup
 | [],_=>List.nodup_nil
 | a :: l,h=>by
  rw [List.map_cons,List.nodup_cons] at h
  rw [List.nodup_cons]
  exact ⟨fun hm=>h.1 (List.mem_map.2 ⟨a,hm,rfl⟩),nJ h.2⟩
def dI (M:List (ByteArray×Value)) (k:ByteArray):Option Value:=(M.find? fun p=>k == p.1).map (·.2)
theorem pj (k:ByteArray):∀ (es:List MapEntry) (M:List (ByteArray×Value)) (n:Nat),es.map (fun e=>(e.key,e.val))=M.map (fun p=>(.string p.1,p.2)) ->
  Instr.findNow .string (.string k) es n=some (match M.findIdx? fun p=>k == p.1,dI M k with | some i,some v=>some (n+i,v) | _,_=>none)
 | [],[],n,_=>rfl
 | [],p :: M,n,h=>by cases h
 | e :: es,[],n,h=>by cases h
 | e :: es,p :: M,n,h=>by
  simp only [List.map_cons,List.cons.injEq,Prod.mk.injEq] at h
  obtain ⟨⟨h1,h2⟩,h3⟩:=h
  unfold Instr.findNow
  rw [h1]
  simp only [Instr.sameNow]
  by_cases hk:k=p.1
  ·subst hk
   rw [kG]
   simp only [List.findIdx?_cons,kG,if_true,dI,List.find?_cons,Option.map_some,h2]
   rfl
  ·have hf:(k == p.1)=false:=wV hk
   rw [hf]
   simp only [List.findIdx?_cons,hf,Bool.false_eq_true,if_false,dI,List.find?_cons]
   rw [pj k es M (n+1) h3]
   unfold dI
   cases hi:M.findIdx? fun q=>k == q.1 with
   | none=>simp
   | some i =>
    cases hv:M.find? fun q=>k == q.1 with
    | none=>simp
    | some v=>simp;omega
theorem uJ {M:List (ByteArray×Value)}{k:ByteArray}:(M.findIdx? fun p=>k == p.1)=none∧dI M k=none∨∃ i p,(M.findIdx? fun p=>k == p.1)=some i∧M[i]?=some p∧k=p.1∧dI M k=some p.2:=by
 induction M with
 | nil=>exact .inl ⟨rfl,rfl⟩
 | cons p M ih =>
  by_cases hk:k=p.1
  ·subst hk
   exact .inr ⟨0,p,by simp [List.findIdx?_cons,kG],rfl,rfl,by simp [dI,List.find?_cons,kG]⟩
  ·have hf:(k == p.1)=false:=wV hk
   rcases ih with ⟨h1,h2⟩ | ⟨i,q,h1,h2,h3,h4⟩
   ·exact .inl ⟨by rw [List.findIdx?_cons,hf,h1];rfl,by unfold dI at *;rw [List.find?_cons,hf];exact h2⟩
   ·exact .inr ⟨i+1,q,by rw [List.findIdx?_cons,hf,h1];rfl,by simpa using h2,h3,by unfold dI at *;rw [List.find?_cons,hf];exact h4⟩
section
variable {P:Program}{h:H}{b:Nat}{M:List (ByteArray×Value)}{t kt et:TypeId}
theorem qA (hk:P.underlying kt=some .string) (k:ByteArray){es:Array MapEntry}{clock:Nat}(r:pa es clock M) (w:World) :
  (Instr.findKey kt (.string k) es.toList).run P w=.ok (match M.findIdx? fun p=>k == p.1,dI M k with | some i,some v=>some (i,v) | _,_=>none) w:=by
 simp only [Instr.findKey,Sem.run_bind,run_underlying hk,Result.andThen_ok,pj k es.toList M 0 r.eq]
 simp [go_sem]
theorem lY (hk:P.underlying kt=some .string) (k:ByteArray) (e:Bool) (w:World):(Instr.checkKey e 10000 kt (.string k)).run P w=.ok () w:=by
 show (Instr.checkKey e (9999+1) kt (.string k)).run P w=_
 unfold Instr.checkKey
 rw [Sem.run_bind,run_underlying hk,Result.andThen_ok]
 rfl
theorem Ai {r:Option Value}{K:Value->H->Prop}(hr:r=none∨((∃ n k,r=some (.int k n))∧P.underlying t=some (.map kt et))) (k:lj (h.push (.map #[] 0)) h.size []->Ext h (h.push (.map #[] 0))->K (.map (some h.size)) (h.push (.map #[] 0))):cY P (Instr.makeMap t r) h K:=fun w hw=>by
 subst hw
 have hrun:(Instr.makeMap t r).run P w=.ok (.map (some w.heap.size)) (w.alloc (.map #[] 0)):=by
  rcases hr with rfl | ⟨⟨n,q,rfl⟩,ht⟩
  ·simp [Instr.makeMap,go_sem]
  ·simp [Instr.makeMap,run_underlying ht,asInt,go_sem]
 exact ⟨_,_,hrun,⟨rfl,rfl,rfl,by first | exact Nat.le_refl _ | exact Nat.le_succ _ | exact Nat.le_add_right _ _⟩,k ⟨#[],0,by simp,BO⟩ (.push _ _)⟩
theorem Ae {k:ByteArray}{ok:Bool}{z:Value}{K:Value->H->Prop}(ht:P.underlying t=some (.map kt et)) (hk:P.underlying kt=some .string) (hz:∀ w,(zeroValue et).run P w=.ok z w) (m:lj h b M)
  (kk:K (if ok then .tuple #[(dI M k).getD z,.bool (dI M k).isSome] else (dI M k).getD z) h):cY P (Instr.lookup t (.map (some b)) (.string k) ok) h K:=fun w hw=>by
 subst hw
 obtain ⟨es,clock,hb,r⟩:=m
 refine ⟨_,w,?_,eJ.refl w,kk⟩
 have hf:=qA hk k r w
 rcases uJ (M:=M) (k:=k) with ⟨h1,h2⟩ | ⟨i,p,h1,_,_,h2⟩
 ·rw [h1,h2] at hf
  rw [h2]
  cases ok <;> simp [Instr.lookup,run_underlying ht,MapKept.run_getObj_map hb,lY hk,hf,hz,go_sem]
 ·rw [h1,h2] at hf
  rw [h2]
  cases ok <;> simp [Instr.lookup,run_underlying ht,MapKept.run_getObj_map hb,lY hk,hf,go_sem]
def ww (M:List (ByteArray×Value)) (k:ByteArray) (v:Value):List (ByteArray×Value):=match M.findIdx? fun p=>k == p.1 with
 | some i=>M.set i (k,v)
 | none=>M ++ [(k,v)]
theorem AP (k:ByteArray) (w:World):(Instr.keyThatStays (.string k) (.string k)).run P w=.ok (.string k) w:=by
 simp [Instr.keyThatStays,Instr.sameBits,kG,go_sem]
theorem yG {M:List (ByteArray×Value)}{k:ByteArray}(h:(M.findIdx? fun p=>k == p.1)=none):∀ p∈M,p.1≠k:=fun p hp e=>by
 rw [List.findIdx?_eq_none_iff] at h
 have:=h p hp
 subst e
 rw [kG] at this;cases this
theorem B5 {k:ByteArray}{v:Value}{K:Unit->H->Prop}(ht:P.underlying t=some (.map kt et)) (hk:P.underlying kt=some .string) (m:lj h b M)
  (kk:∀ h',lj h' b (ww M k v)->bI (·=b) h h'->h'.size=h.size->K () h'):cY P (Instr.mapUpdate t (.map (some b)) (.string k) v) h K:=fun w hw=>by
 subst hw
 obtain ⟨es,clock,hb,r⟩:=m
 have hset:∀ o:Obj,bI (·=b) w.heap (setBlock w b o).heap∧(setBlock w b o).heap.size=w.heap.size:=fun o=>by
  refine ⟨⟨by simp [setBlock],fun n hn hne=>?_⟩,by simp [setBlock]⟩
  exact heap_setBlock_other hb _ (fun e=>hne e)
 rcases uJ (M:=M) (k:=k) with ⟨h1,h2⟩ | ⟨i,p,h1,hp,hpk,h2⟩
 ·refine ⟨(),setBlock w b (.map (es.push { key:=.string k,val:=v,born:=clock }) (clock+1)),?_,⟨rfl,rfl,rfl,by first | exact Nat.le_refl _ | exact Nat.le_succ _ | exact Nat.le_add_right _ _⟩,kk _ ⟨_,_,heap_setBlock_same hb _,?_,?_,?_,?_⟩ (hset _).1 (hset _).2⟩
  ·simp only [Instr.mapUpdate,Sem.run_bind,run_underlying ht,Result.andThen_ok,MapKept.run_getObj_map hb,lY hk,qA hk k r,h1,h2,MapKept.run_setObj_map _ hb]
   rfl
  ·unfold ww;rw [h1]
   simp [r.eq]
  ·intro e he
   simp at he
   rcases he with he | rfl
   ·have:=r.old e (by simpa using he);omega
   ·simp
  ·simp only [Array.toList_push,List.map_append,List.map_cons,List.map_nil]
   rw [List.nodup_append]
   refine ⟨r.born,by simp,fun a ha c hc=>?_⟩
   simp at hc;subst hc
   obtain ⟨e,he,rfl⟩:=List.mem_map.1 ha
   have:=r.old e he;omega
  ·unfold ww;rw [h1]
   simp only [List.map_append,List.map_cons,List.map_nil]
   rw [List.nodup_append]
   refine ⟨r.keys,by simp,fun a ha c hc=>?_⟩
   simp at hc;subst hc
   obtain ⟨e,he,rfl⟩:=List.mem_map.1 ha
   exact yG h1 e he
 ·subst hpk
  have hil:i<es.size:=by rw [r.len];exact (List.getElem?_eq_some_iff.1 hp).1
  have hei:es[i]?=some es[i]:=Array.getElem?_eq_getElem hil
  obtain ⟨q,q1,q2,q3⟩:=r.get (i:=i) (e:=es[i]) (by simp [hil])
  rw [hp] at q1;cases q1
  have hnew:(es.modify i fun e=>{ e with key:=.string p.1,val:=v }).toList=es.toList.set i { es[i] with key:=.string p.1,val:=v }:=by
   rw [Array.toList_modify]
   apply List.ext_getElem?
   intro j
   rw [List.getElem?_modify,List.getElem?_set]
   by_cases hij:i=j
   ·subst hij;simp [hil]
   ·simp [hij]
  refine ⟨(),setBlock w b (.map (es.modify i fun e=>{ e with key:=.string p.1,val:=v }) clock),?_,⟨rfl,rfl,rfl,by first | exact Nat.le_refl _ | exact Nat.le_succ _ | exact Nat.le_add_right _ _⟩,kk _ ⟨_,_,heap_setBlock_same hb _,?_,?_,?_,?_⟩ (hset _).1 (hset _).2⟩
  ·simp only [Instr.mapUpdate,Sem.run_bind,run_underlying ht,Result.andThen_ok,MapKept.run_getObj_map hb,lY hk,qA hk p.1 r,h1,h2,hei,Option.map_some,Option.getD_some,q2,AP,MapKept.run_setObj_map _ hb]
   rfl
  ·unfold ww;rw [h1,hnew]
   simp only [List.map_set,r.eq]
  ·rw [hnew]
   intro e he
   rcases List.mem_or_eq_of_mem_set he with he | rfl
   ·exact r.old e he
   ·exact r.old es[i] (by simp)
  ·rw [hnew,List.map_set]
   have:(es.toList.map (·.born)).set i es[i].born=es.toList.map (·.born):=by
    apply List.ext_getElem?
    intro j
    rw [List.getElem?_set]
    split
    ·rename_i hij;subst hij
     simp [hil]
    ·rfl
   rw [this];exact r.born
  ·unfold ww;rw [h1]
   simp only [List.map_set]
   have:(M.map (·.1)).set i p.1=M.map (·.1):=by
    apply List.ext_getElem?
    intro j
    rw [List.getElem?_set]
    split
    ·rename_i hij;subst hij
     have hl:=(List.getElem?_eq_some_iff.1 hp).1
     rw [if_pos (by simpa using hl),List.getElem?_map,hp]
     rfl
    ·rfl
   rw [this];exact r.keys
def ItH (h:H) (r b:Nat) (M D:List (ByteArray×Value)):Prop:=r≠b∧∃ es clock since seen c0,h[b]?=some (.map es clock)∧pa es clock M∧h[r]?=some (.mapIter (some b) since seen c0)∧(∀ e∈es.toList,e.born<since)∧since<=c0∧since<=clock ∧
 ∃ E:List MapEntry,(∀ e∈E,e∈es.toList)∧E.map (·.born)=seen.toList∧(E.map (·.born)).Nodup∧E.map (fun e=>(e.key,e.val))=D.map fun p=>(.string p.1,p.2)
theorem ItH.only {S:Nat->Prop}{h h':H}{r b:Nat}{M D:List (ByteArray×Value)}(i:ItH h r b M D) (o:bI S h h') (h1:¬ S b) (h2:¬ S r):ItH h' r b M D:=by
 obtain ⟨hne,es,clock,since,seen,c0,hb,hr,hi,rest⟩:=i
 exact ⟨hne,es,clock,since,seen,c0,o.block hb h1,hr,o.block hi h2,rest⟩
theorem yJ {K:Value->H->Prop}(ht:P.underlying t=some (.map kt et)) (m:lj h b M)
  (kk:∀ h',ItH h' h.size b M []->Ext h h'->h'.size=h.size+1->K (.pointer (some ⟨h.size,0,none⟩)) h'):cY P (Instr.range t (.map (some b))) h K:=fun w hw=>by
 subst hw
 have hlt:=m.lt
 obtain ⟨es,clock,hb,r⟩:=m
 refine ⟨_,_,run_range_map w t kt et b es clock ht hb,⟨rfl,rfl,rfl,by first | exact Nat.le_refl _ | exact Nat.le_succ _ | exact Nat.le_add_right _ _⟩,kk _ ⟨by omega,es,clock,clock,#[],clock,?_,r,?_,r.old,Nat.le_refl _,Nat.le_refl _,[],by simp,by simp,by simp,rfl⟩ (.push _ _) (by simp)⟩
 ·exact ((MapKept.heap_alloc w _).2 b hlt).trans hb
 ·exact (MapKept.heap_alloc w _).1
theorem Ar {K:Value->H->Prop}{r:Nat}{D:List (ByteArray×Value)}{ty:TypeId}(i:ItH h r b M D)
  (k0:D.Perm M->K (.tuple #[.bool false]) h)
  (k1:∀ h' p,ItH h' r b M (D ++ [p])->p∈M->bI (·=r) h h'->h'.size=h.size->(∀ K2:Value->H->Prop,K2 (.tuple #[.string p.1,p.2]) h'->cY P (Instr.entry (.pointer (some ⟨r,0,none⟩))) h' K2)->K (.tuple #[.bool true,.string p.1,p.2]) h') :
  cY P (Instr.next (.pointer (some ⟨r,0,none⟩)) false ty) h K:=fun w hw=>by
 subst hw
 obtain ⟨hne,es,clock,since,seen,c0,hb,rp,hr,hold,hsc,hsk,E,e1,e2,e3,e4⟩:=i
 rcases run_next_at (P:=P) w ty r b since c0 seen es clock hr hb hold hsc with ⟨h0,hrun⟩ | ⟨e,he,w1,hal,hrun⟩
 ·refine ⟨_,w,hrun,eJ.refl w,k0 ?_⟩
  have hall:=all_seen es seen h0
  have hnd:es.toList.Nodup:=nJ rp.born
  have hEn:E.Nodup:=nJ e3
  have hp:E.Perm es.toList:=(List.perm_ext_iff_of_nodup hEn hnd).2 fun x=>⟨e1 x,fun hx=>by
   have hs:=hall x hx
   have:x.born∈seen.toList:=by simpa using hs
   rw [← e2] at this
   obtain ⟨y,hy,hyx⟩:=List.mem_map.1 this
   have:=born_inj rp.born (e1 y hy) hx hyx
   rw [← this];exact hy⟩
  have hq:=hp.map fun e=>(e.key,e.val)
  rw [e4,rp.eq] at hq
  have hinj:∀ (A B:List (ByteArray×Value)),(A.map fun p=>((Value.string p.1,p.2):Value×Value)).Perm (B.map fun p=>(Value.string p.1,p.2))->A.Perm B:=fun A B hAB=>by
   have:=hAB.map (fun q:Value×Value=>((match q.1 with | .string s=>s | _=>⟨#[]⟩:ByteArray),q.2))
   simpa [List.map_map,Function.comp_def] using this
  exact hinj _ _ hq
 ·obtain ⟨hem,hes⟩:=mem_left he
  have hr1:w1.heap[r]?=some (.mapIter (some b) since seen c0):=by rcases hal with rfl | rfl <;> exact hr
  have hb1:w1.heap[b]?=some (.map es clock):=by rcases hal with rfl | rfl <;> exact hb
  have hset:=heap_set (o':=.mapIter (some b) since (seen.push e.born) clock) hr1
  have hb':(setBlock w1 r (.mapIter (some b) since (seen.push e.born) clock)).heap[b]?=some (.map es clock):=(hset.2 b (fun e1=>hne e1.symm)).trans hb1
  obtain ⟨j,hj⟩:=List.mem_iff_getElem?.1 hem
  obtain ⟨p,p1,p2,p3⟩:=rp.get hj
  have hnew:e.born∉seen.toList:=by simpa using hes
  have hw1:w1.heap=w.heap:=by rcases hal with rfl | rfl <;> rfl
  rw [p2,p3] at hrun
  refine ⟨_,_,hrun,?_,k1 _ p ⟨hne,es,clock,since,seen.push e.born,clock,hb',rp,hset.1,hold,hsk,hsk,E ++ [e],fun x hx=>?_,by simp [e2],?_,by simp [e4,p2,p3]⟩ (List.mem_of_getElem? p1) ?_ ?_ fun K2 kk2=>?_⟩
  ·rcases hal with rfl | rfl <;> exact ⟨rfl,rfl,rfl,by first | exact Nat.le_refl _ | exact Nat.le_succ _ | exact Nat.le_add_right _ _⟩
  ·simp at hx
   rcases hx with hx | rfl
   ·exact e1 x hx
   ·exact hem
  ·rw [List.map_append,List.nodup_append]
   refine ⟨e3,by simp,fun a ha c hc=>?_⟩
   simp at hc;subst hc
   rw [e2] at ha
   exact fun e=>hnew (e ▸ ha)
  ·refine ⟨by simp [setBlock,hw1],fun n hn hne'=>?_⟩
   exact (hset.2 n hne').trans (by rw [hw1])
  ·simp [setBlock,hw1]
  ·intro w2 hw2
   refine ⟨_,w2,?_,eJ.refl w2,by rw [hw2];exact kk2⟩
   have:=run_entry_at (P:=P) w2 r b since seen es clock e (by rw [hw2];exact hset.1) (by rw [hw2];exact hb') hem rp.born
   rw [p2,p3] at this
   exact this
end
def ldM (h:H) (a:Addr) (K:Option Nat->Prop):Prop:=∃ n,aA h a=some (.map n)∧K n
theorem CZ {h:H}{a:Addr}{n:Option Nat}{K:Option Nat->Prop}(hc:aA h a=some (.map n)) (kk:K n):ldM h a K:=⟨n,hc,kk⟩
theorem pT {h:H}{a:Addr}{n:Option Nat}{K:Option Nat->Prop}(hc:aA h a=some (.map n)):ldM h a K↔K n:=by
 constructor
 ·rintro ⟨m,h1,k⟩;rw [hc] at h1;cases h1;exact k
 ·exact CZ hc
section
variable {P:Program}{rd:Option Nat}{L:List (Nat×Value)}{h:H}{d:Option Tmp}{ty:TypeId}{ps:String}{af:Array Edge}{g:Option (Nat×Bool)}{x y c:Operand}{vx vy v:Value}
end
def Er:TypeDesc->Bool
 | .interface _=>true
 | _=>false
section
variable {P:Program}{rd:Option Nat}{L:List (Nat×Value)}{h:H}{d:Option Tmp}{ty:TypeId}{ps:String}{af:Array Edge}{g:Option (Nat×Bool)}{x y c:Operand}{vx vy v:Value}
theorem ry {t:TypeId}{e:TypeDesc}(hs:∀ w,(underlying t).run P w=.ok e w) (he:Er e=false) (hx:evL L x=some v):YP rd P ⟨d,.makeInterface t x,ty,ps,af,g⟩ L (.iface t v):=dG (by simp) fun a w ha=>by
 simp only [execOp,ha.ev hx]
 refine pZ ?_
 unfold Instr.makeInterface
 simp only [Sem.run_bind,hs,Result.andThen]
 cases e <;> first | rfl | cases he
end
section
variable {w0:World}{N:Nat}{D:List Deferred}{L:List (Nat×Value)}{h:H}{P:Program}{rd:Option Nat}{Q:Exit->Act->World->Prop}{ops:Array Oper}{rest:List Oper}
end
def DY (P:Program) (T:TypeId) (name:String):Option (FuncId×Bool):=(P.info? T).bind fun i=>(i.methods.find? (·.name == name)).bind fun m=>if m.path.toList.isEmpty then m.func else none
def MtF (P:Program) (T e:TypeId) (name:String) (f:FuncId) (pr:Bool):Prop:=
 P.underlying T=some (.pointer e)∧DY P T name=some (f,pr)
theorem Al {P:Program}{T e:TypeId}{name:String}{f:FuncId}{pr:Bool}(hm:MtF P T e name f pr){p:Option Addr}{u:Value}{n:Nat}{w:World}
  (hr:∀ wr,(receiverAt T (.val (.pointer p)) pr wr).run P w=.ok u w):(Go.method (n+1) T (.pointer p) name).run P w=.ok (f,u) w:=by
 obtain ⟨hu,ht⟩:=hm
 unfold DY at ht
 cases hi:P.info? T with
 | none=>rw [hi] at ht;cases ht
 | some i =>
  rw [hi] at ht
  simp only [Option.bind_some] at ht
  cases hf:i.methods.find? (·.name == name) with
  | none=>rw [hf] at ht;cases ht
  | some m =>
   rw [hf] at ht
   simp only [Option.bind_some] at ht
   split at ht
   ·rename_i hp
    have hp':m.path.toList=[]:=by simpa using hp
    unfold Go.method
    have hti:(typeInfo T).run P w=.ok i w:=by simp [typeInfo,go_sem,hi]
    simp only [Sem.run_bind,hti,Result.andThen_ok,hf,hp',follow,Sem.run_pure,ht,hr]
   ·cases ht
theorem BM {P:Program}{T e:TypeId}(hu:P.underlying T=some (.pointer e)){v:Value}{w:World}(wr:Option String):(receiverAt T (.val v) true wr).run P w=.ok v w:=by
 unfold receiverAt
 simp only [Sem.run_bind,run_underlying hu,Result.andThen_ok,Place.get,Sem.run_pure]
theorem BN {P:Program}{T e:TypeId}(hu:P.underlying T=some (.pointer e)) (hs:∀ w,(isAgg e).run P w=.ok false w){a:Addr}{u:Value}{w:World}(hc:aA w.heap a=some u) (wr:Option String) :
  (receiverAt T (.val (.pointer (some a))) false wr).run P w=.ok u w:=by
 unfold receiverAt
 have hl:(loadVar e a).run P w=.ok u w:=by
  have hc':w.cell? a=some u:=hc
  simp [loadVar,hs,load,Sem.run,hc',go_sem]
 cases wr with
 | none=>simp only [Sem.run_bind,run_underlying hu,Result.andThen_ok,Place.get,Sem.run_pure,asAddr,hl]
 | some nm =>
  have hk:(Builtin.ssaWrapNilChk_ #[T] T #[.pointer (some a),strVal "",strVal nm]).run P w=.ok (.pointer (some a)) w:=rfl
  simp only [Sem.run_bind,run_underlying hu,Result.andThen_ok,Place.get,Sem.run_pure,hk,asAddr,hl]
section
variable {P:Program}{rd:Option Nat}{L:List (Nat×Value)}{h:H}{d:Option Tmp}{ty:TypeId}{ps:String}{af:Array Edge}{g:Option (Nat×Bool)}{x y c:Operand}{vx vy v:Value}
theorem Cd {T:TypeId}{name:String}{f:FuncId}{u:Value}{asL:List Operand}{ts:Array TypeId}{vs:List Value}{K:Value->H->Prop}(hc:∀ args w,(callFunc f args).run P w=.ok (.enter f args) w)
  (hm:∀ (w:World) n,w.heap=h->(Go.method (n+1) T v name).run P w=.ok (f,u) w) (hx:evL L x=some (.iface T v)) (ha:kO L asL=some vs) (hF:Fn P f (u :: vs).toArray h K) :
  EV rd P ⟨d,.call { callee:=.invoke x name,args:=asL.toArray,argTypes:=ts },ty,ps,af,g⟩ L h K:=fun a w hag hw=>by
 unfold fa
 rw [Oper.semAt_eq rd _ _ (by simp)]
 have hr:(execOp a.eval ⟨d,.call { callee:=.invoke x name,args:=asL.toArray,argTypes:=ts },ty,ps,af,g⟩).run P w=.ok (.enter f (u :: vs).toArray) w:=by
  have hmm:(Go.method (P.types.size+100) T v name).run P w=.ok (f,u) w:=hm w (P.types.size+99) hw
  simp only [execOp,resolve,List.map_toArray,hag.evs ha,hag.ev hx]
  simp [invoke,callMethod,go_sem,Made.depth,hmm,hc]
 rw [hr]
 exact CallsIn.mono (hF w hw) fun e w' ⟨r,he,hl,q⟩=>⟨r,he,hl,q⟩
theorem CR {T e:TypeId}{name:String}{f:FuncId}{p:Option Addr}{asL:List Operand}{ts:Array TypeId}{vs:List Value}{K:Value->H->Prop}(hm:MtF P T e name f true) (hc:∀ args w,(callFunc f args).run P w=.ok (.enter f args) w)
  (hx:evL L x=some (.iface T (.pointer p))) (ha:kO L asL=some vs) (hF:Fn P f (.pointer p :: vs).toArray h K) :
  EV rd P ⟨d,.call { callee:=.invoke x name,args:=asL.toArray,argTypes:=ts },ty,ps,af,g⟩ L h K:=
 Cd hc (fun w n _=>Al hm fun wr=>BM hm.1 wr) hx ha hF
theorem kM {T e:TypeId}{name:String}{f:FuncId}{p:Option Addr}{asL:List Operand}{ts:Array TypeId}{vs:List Value}{K:Value->H->Prop}(hm:MtF P T e name f false) (hs:∀ w,(isAgg e).run P w=.ok false w) (hc:∀ args w,(callFunc f args).run P w=.ok (.enter f args) w)
  (hx:evL L x=some (.iface T (.pointer p))) (ha:kO L asL=some vs) (hF:nn p fun a=>ldL h a fun s=>Fn P f (s.enc :: vs).toArray h K) :
  EV rd P ⟨d,.call { callee:=.invoke x name,args:=asL.toArray,argTypes:=ts },ty,ps,af,g⟩ L h K:=by
 obtain ⟨a,rfl,s,hcell,hF⟩:=hF
 exact Cd hc (fun w n hw=>Al hm fun wr=>BN hm.1 hs (by rw [hw];exact hcell) wr) hx ha hF
theorem Ci {k:IntKind}{asL:List Operand}{ts:Array TypeId}{vs:List Value}{K:Int->H->Prop}(ha:kO L asL=some vs) (kk:BS P (Builtin.max_ ts ty vs.toArray) h k K) :
  EV rd P ⟨d,.call { callee:=.builtin .max,args:=asL.toArray,argTypes:=ts },ty,ps,af,g⟩ L h fun v h'=>∃ r,v=.int k r∧K r h':=CU ha (fun _=>rfl) kk
theorem jg {p:Option Addr}{A B:Sl->Prop}(hAB:∀ s,A s->B s) (k:nn p fun a=>ldL h a A):nn p fun a=>ldL h a B:=by
 obtain ⟨a,ha,s,hs,k⟩:=k
 exact ⟨a,ha,s,hs,hAB s k⟩
end
set_option maxRecDepth 100000
noncomputable abbrev PP:Program:=Tryz.prog
theorem mixed:PP.follows .mixedOrders=true:=by kernel_rfl
theorem de {u:Value}(h:u.oneCell'=true):∀ v∈[u],v.oneCell'=true:=by intro v hv;simp at hv;subst hv;exact h
theorem dW {a b:List Value}(ha:∀ v∈a,v.oneCell'=true) (hb:∀ v∈b,v.oneCell'=true):∀ v∈a ++ b,v.oneCell'=true:=fun v hv=>(List.mem_append.1 hv).elim (ha v) (hb v)
structure gk where
 l:Sl
def gk.cells (x:gk):List Value:=[x.l.enc]
structure dU where
 units:Int
 there:Int
 slots:Int
def dU.cells (x:dU):List Value:=[(.int .i64 x.units)] ++ [(.int .i64 x.there)] ++ [(.int .i64 x.slots)]
structure cv where
 row:Sl
 elder:Sl
 moved:Int
 count:Int
def cv.cells (x:cv):List Value:=[x.row.enc] ++ [x.elder.enc] ++ [(.int .i64 x.moved)] ++ [(.int .i64 x.count)]
structure gd where
 counts:dU
 cells_:Option Addr
def gd.cells (x:gd):List Value:=x.counts.cells ++ [(.pointer x.cells_)]
structure eg where
 L:Sl
def eg.cells (x:eg):List Value:=[x.L.enc]
structure dX where
 Slots:Int
 L:Sl
def dX.cells (x:dX):List Value:=[(.int .i64 x.Slots)] ++ [x.L.enc]
structure ae where
 View:Int
 Key:ByteArray
 Start:Int
def ae.cells (x:ae):List Value:=[(.int .i64 x.View)] ++ [(.string x.Key)] ++ [(.int .i64 x.Start)]
def ak (h:H) (a:Addr) (K:ae->Prop):Prop:=∃ x:ae,Cells h a x.cells∧K x
theorem bz (x:ae):∀ v∈x.cells,v.oneCell'=true:=dW (dW (de rfl) (de rfl)) (de rfl)
structure ag where
 Count:Int
 Sum:Int
 Min:Int
 Max:Int
def ag.cells (x:ag):List Value:=[(.int .i64 x.Count)] ++ [(.int .i64 x.Sum)] ++ [(.int .i64 x.Min)] ++ [(.int .i64 x.Max)]
def bh (h:H) (a:Addr) (K:ag->Prop):Prop:=∃ x:ag,Cells h a x.cells∧K x
theorem bt (x:ag):∀ v∈x.cells,v.oneCell'=true:=dW (dW (dW (de rfl) (de rfl)) (de rfl)) (de rfl)
structure aO where
 Cell:ae
 Agg:ag
def aO.cells (x:aO):List Value:=x.Cell.cells ++ x.Agg.cells
def ec (h:H) (a:Addr) (K:aO->Prop):Prop:=∃ x:aO,Cells h a x.cells∧K x
theorem ei (x:aO):∀ v∈x.cells,v.oneCell'=true:=dW (bz _) (bt _)
structure aM where
 epoch:Int
 value:ag
 dead:Bool
def aM.cells (x:aM):List Value:=[(.int .i64 x.epoch)] ++ x.value.cells ++ [(.bool x.dead)]
def cr (h:H) (a:Addr) (K:aM->Prop):Prop:=∃ x:aM,Cells h a x.cells∧K x
theorem cG (x:aM):∀ v∈x.cells,v.oneCell'=true:=dW (dW (de rfl) (bt _)) (de rfl)
structure dM where
 l:Sl
def dM.cells (x:dM):List Value:=[x.l.enc]
structure aE where
 is_:Int
 key:ByteArray
 value:Option Addr
def aE.cells (x:aE):List Value:=[(.int .u8 x.is_)] ++ [(.string x.key)] ++ [(.pointer x.value)]
def dj (h:H) (a:Addr) (K:aE->Prop):Prop:=∃ x:aE,Cells h a x.cells∧K x
theorem bM (x:aE):∀ v∈x.cells,v.oneCell'=true:=dW (dW (de rfl) (de rfl)) (de rfl)
structure aP where
 hi:Int
 lo:Int
def aP.cells (x:aP):List Value:=[(.int .i64 x.hi)] ++ [(.int .u64 x.lo)]
def fx (h:H) (a:Addr) (K:aP->Prop):Prop:=∃ x:aP,Cells h a x.cells∧K x
theorem d9 (x:aP):∀ v∈x.cells,v.oneCell'=true:=dW (de rfl) (de rfl)
structure bK where
 rows:Sl
 list:Int
def bK.cells (x:bK):List Value:=[x.rows.enc] ++ [(.int .i64 x.list)]
def fX (h:H) (a:Addr) (K:bK->Prop):Prop:=∃ x:bK,Cells h a x.cells∧K x
theorem fl (x:bK):∀ v∈x.cells,v.oneCell'=true:=dW (de rfl) (de rfl)
structure fP where
 Kind:Int
 Epoch:Int
 Cell:ae
 Agg:ag
 Cells:Sl
 Held:Sl
 To:ae
 Most:Int
def fP.cells (x:fP):List Value:=[(.int .i64 x.Kind)] ++ [(.int .i64 x.Epoch)] ++ x.Cell.cells ++ x.Agg.cells ++ [x.Cells.enc] ++ [x.Held.enc] ++ x.To.cells ++ [(.int .i64 x.Most)]
structure cO where
 Step:fP
 Shard:Int
def cO.cells (x:cO):List Value:=x.Step.cells ++ [(.int .i64 x.Shard)]
def iQ (h:H) (a:Addr) (K:cO->Prop):Prop:=∃ x:cO,Cells h a x.cells∧K x
structure bL where
 Epoch:Int
 Agg:ag
 Dead:Bool
def bL.cells (x:bL):List Value:=[(.int .i64 x.Epoch)] ++ x.Agg.cells ++ [(.bool x.Dead)]
def fk (h:H) (a:Addr) (K:bL->Prop):Prop:=∃ x:bL,Cells h a x.cells∧K x
theorem gv (x:bL):∀ v∈x.cells,v.oneCell'=true:=dW (dW (de rfl) (bt _)) (de rfl)
structure ci where
 Cell:ae
 V_:Sl
def ci.cells (x:ci):List Value:=x.Cell.cells ++ [x.V_.enc]
theorem lp (x:ci):∀ v∈x.cells,v.oneCell'=true:=dW (bz _) (de rfl)
structure ad where
 Neg:Bool
 Hi:Int
 Lo:Int
def ad.cells (x:ad):List Value:=[(.bool x.Neg)] ++ [(.int .u64 x.Hi)] ++ [(.int .u64 x.Lo)]
def aX (h:H) (a:Addr) (K:ad->Prop):Prop:=∃ x:ad,Cells h a x.cells∧K x
theorem bi (x:ad):∀ v∈x.cells,v.oneCell'=true:=dW (dW (de rfl) (de rfl)) (de rfl)
abbrev rL:TypeId:=3
abbrev ul:TypeId:=5
abbrev B1:TypeId:=9
abbrev AX:TypeId:=22
abbrev cH:TypeId:=35
abbrev gz:TypeId:=40
abbrev Cp:TypeId:=42
abbrev Cq:TypeId:=46
abbrev mx:TypeId:=49
abbrev AY:TypeId:=51
abbrev Cr:TypeId:=64
abbrev Ea:TypeId:=74
abbrev Eb:TypeId:=83
abbrev Ec:TypeId:=86
abbrev Ct:TypeId:=87
abbrev Ed:TypeId:=99
abbrev wK:TypeId:=101
abbrev Dn:TypeId:=128
abbrev Do:TypeId:=139
abbrev AV:TypeId:=146
abbrev Dp:TypeId:=148
abbrev mT:TypeId:=152
abbrev AW:TypeId:=153
abbrev Dq:TypeId:=156
abbrev Dr:TypeId:=164
abbrev jF:TypeId:=170
abbrev uk:TypeId:=196
abbrev wL:TypeId:=200
abbrev eZ:TypeId:=208
theorem fS:∀ w,Sem.run PP (do match (#[({ name:= "View",type:=3,offset:=0,embedded:=false,tag:= "",pkgPath:= "",byteOffset:=0 }:Field),({ name:= "Key",type:=9,offset:=1,embedded:=false,tag:= "",pkgPath:= "",byteOffset:=8 }:Field),({ name:= "Start",type:=2,offset:=2,embedded:=false,tag:= "",pkgPath:= "",byteOffset:=24 }:Field)])[0]? with | some fd=>(do pure (fd.offset,(← sizeOf fd.type) != 0)) | none=>pure (0,false):Sem (Nat×Bool)) w=.ok (0,true) w:=fun w=>by kernel_rfl
theorem dS:∀ w,Sem.run PP (do match (#[({ name:= "View",type:=3,offset:=0,embedded:=false,tag:= "",pkgPath:= "",byteOffset:=0 }:Field),({ name:= "Key",type:=9,offset:=1,embedded:=false,tag:= "",pkgPath:= "",byteOffset:=8 }:Field),({ name:= "Start",type:=2,offset:=2,embedded:=false,tag:= "",pkgPath:= "",byteOffset:=24 }:Field)])[1]? with | some fd=>(do pure (fd.offset,(← sizeOf fd.type) != 0)) | none=>pure (0,false):Sem (Nat×Bool)) w=.ok (1,true) w:=fun w=>by kernel_rfl
theorem gA:∀ w,Sem.run PP (do match (#[({ name:= "View",type:=3,offset:=0,embedded:=false,tag:= "",pkgPath:= "",byteOffset:=0 }:Field),({ name:= "Key",type:=9,offset:=1,embedded:=false,tag:= "",pkgPath:= "",byteOffset:=8 }:Field),({ name:= "Start",type:=2,offset:=2,embedded:=false,tag:= "",pkgPath:= "",byteOffset:=24 }:Field)])[2]? with | some fd=>(do pure (fd.offset,(← sizeOf fd.type) != 0)) | none=>pure (0,false):Sem (Nat×Bool)) w=.ok (2,true) w:=fun w=>by kernel_rfl
theorem iI:∀ w,Sem.run PP (do match (#[({ name:= "Count",type:=2,offset:=0,embedded:=false,tag:= "",pkgPath:= "",byteOffset:=0 }:Field),({ name:= "Sum",type:=2,offset:=1,embedded:=false,tag:= "",pkgPath:= "",byteOffset:=8 }:Field),({ name:= "Min",type:=2,offset:=2,embedded:=false,tag:= "",pkgPath:= "",byteOffset:=16 }:Field),({ name:= "Max",type:=2,offset:=3,embedded:=false,tag:= "",pkgPath:= "",byteOffset:=24 }:Field)])[0]? with | some fd=>(do pure (fd.offset,(← sizeOf fd.type) != 0)) | none=>pure (0,false):Sem (Nat×Bool)) w=.ok (0,true) w:=fun w=>by kernel_rfl
theorem jL:∀ w,Sem.run PP (do match (#[({ name:= "Count",type:=2,offset:=0,embedded:=false,tag:= "",pkgPath:= "",byteOffset:=0 }:Field),({ name:= "Sum",type:=2,offset:=1,embedded:=false,tag:= "",pkgPath:= "",byteOffset:=8 }:Field),({ name:= "Min",type:=2,offset:=2,embedded:=false,tag:= "",pkgPath:= "",byteOffset:=16 }:Field),({ name:= "Max",type:=2,offset:=3,embedded:=false,tag:= "",pkgPath:= "",byteOffset:=24 }:Field)])[1]? with | some fd=>(do pure (fd.offset,(← sizeOf fd.type) != 0)) | none=>pure (0,false):Sem (Nat×Bool)) w=.ok (1,true) w:=fun w=>by kernel_rfl
theorem jM:∀ w,Sem.run PP (do match (#[({ name:= "Count",type:=2,offset:=0,embedded:=false,tag:= "",pkgPath:= "",byteOffset:=0 }:Field),({ name:= "Sum",type:=2,offset:=1,embedded:=false,tag:= "",pkgPath:= "",byteOffset:=8 }:Field),({ name:= "Min",type:=2,offset:=2,embedded:=false,tag:= "",pkgPath:= "",byteOffset:=16 }:Field),({ name:= "Max",type:=2,offset:=3,embedded:=false,tag:= "",pkgPath:= "",byteOffset:=24 }:Field)])[2]? with | some fd=>(do pure (fd.offset,(← sizeOf fd.type) != 0)) | none=>pure (0,false):Sem (Nat×Bool)) w=.ok (2,true) w:=fun w=>by kernel_rfl
theorem jN:∀ w,Sem.run PP (do match (#[({ name:= "Count",type:=2,offset:=0,embedded:=false,tag:= "",pkgPath:= "",byteOffset:=0 }:Field),({ name:= "Sum",type:=2,offset:=1,embedded:=false,tag:= "",pkgPath:= "",byteOffset:=8 }:Field),({ name:= "Min",type:=2,offset:=2,embedded:=false,tag:= "",pkgPath:= "",byteOffset:=16 }:Field),({ name:= "Max",type:=2,offset:=3,embedded:=false,tag:= "",pkgPath:= "",byteOffset:=24 }:Field)])[3]? with | some fd=>(do pure (fd.offset,(← sizeOf fd.type) != 0)) | none=>pure (0,false):Sem (Nat×Bool)) w=.ok (3,true) w:=fun w=>by kernel_rfl
theorem Bq:∀ w,Sem.run PP (do match (#[({ name:= "Kind",type:=3,offset:=0,embedded:=false,tag:= "",pkgPath:= "",byteOffset:=0 }:Field),({ name:= "Epoch",type:=3,offset:=1,embedded:=false,tag:= "",pkgPath:= "",byteOffset:=8 }:Field),({ name:= "Cell",type:=35,offset:=2,embedded:=false,tag:= "",pkgPath:= "",byteOffset:=16 }:Field),({ name:= "Agg",type:=40,offset:=5,embedded:=false,tag:= "",pkgPath:= "",byteOffset:=48 }:Field),({ name:= "Cells",type:=41,offset:=9,embedded:=false,tag:= "",pkgPath:= "",byteOffset:=80 }:Field),({ name:= "Held",type:=42,offset:=10,embedded:=false,tag:= "",pkgPath:= "",byteOffset:=104 }:Field),({ name:= "To",type:=35,offset:=11,embedded:=false,tag:= "",pkgPath:= "",byteOffset:=128 }:Field),({ name:= "Most",type:=3,offset:=14,embedded:=false,tag:= "",pkgPath:= "",byteOffset:=160 }:Field)])[0]? with | some fd=>(do pure (fd.offset,(← sizeOf fd.type) != 0)) | none=>pure (0,false):Sem (Nat×Bool)) w=.ok (0,true) w:=fun w=>by kernel_rfl
theorem fC:∀ w,Sem.run PP (do match (#[({ name:= "Kind",type:=3,offset:=0,embedded:=false,tag:= "",pkgPath:= "",byteOffset:=0 }:Field),({ name:= "Epoch",type:=3,offset:=1,embedded:=false,tag:= "",pkgPath:= "",byteOffset:=8 }:Field),({ name:= "Cell",type:=35,offset:=2,embedded:=false,tag:= "",pkgPath:= "",byteOffset:=16 }:Field),({ name:= "Agg",type:=40,offset:=5,embedded:=false,tag:= "",pkgPath:= "",byteOffset:=48 }:Field),({ name:= "Cells",type:=41,offset:=9,embedded:=false,tag:= "",pkgPath:= "",byteOffset:=80 }:Field),({ name:= "Held",type:=42,offset:=10,embedded:=false,tag:= "",pkgPath:= "",byteOffset:=104 }:Field),({ name:= "To",type:=35,offset:=11,embedded:=false,tag:= "",pkgPath:= "",byteOffset:=128 }:Field),({ name:= "Most",type:=3,offset:=14,embedded:=false,tag:= "",pkgPath:= "",byteOffset:=160 }:Field)])[1]? with | some fd=>(do pure (fd.offset,(← sizeOf fd.type) != 0)) | none=>pure (0,false):Sem (Nat×Bool)) w=.ok (1,true) w:=fun w=>by kernel_rfl
theorem fT:∀ w,Sem.run PP (do match (#[({ name:= "Kind",type:=3,offset:=0,embedded:=false,tag:= "",pkgPath:= "",byteOffset:=0 }:Field),({ name:= "Epoch",type:=3,offset:=1,embedded:=false,tag:= "",pkgPath:= "",byteOffset:=8 }:Field),({ name:= "Cell",type:=35,offset:=2,embedded:=false,tag:= "",pkgPath:= "",byteOffset:=16 }:Field),({ name:= "Agg",type:=40,offset:=5,embedded:=false,tag:= "",pkgPath:= "",byteOffset:=48 }:Field),({ name:= "Cells",type:=41,offset:=9,embedded:=false,tag:= "",pkgPath:= "",byteOffset:=80 }:Field),({ name:= "Held",type:=42,offset:=10,embedded:=false,tag:= "",pkgPath:= "",byteOffset:=104 }:Field),({ name:= "To",type:=35,offset:=11,embedded:=false,tag:= "",pkgPath:= "",byteOffset:=128 }:Field),({ name:= "Most",type:=3,offset:=14,embedded:=false,tag:= "",pkgPath:= "",byteOffset:=160 }:Field)])[2]? with | some fd=>(do pure (fd.offset,(← sizeOf fd.type) != 0)) | none=>pure (0,false):Sem (Nat×Bool)) w=.ok (2,true) w:=fun w=>by kernel_rfl
theorem Br:∀ w,Sem.run PP (do match (#[({ name:= "Kind",type:=3,offset:=0,embedded:=false,tag:= "",pkgPath:= "",byteOffset:=0 }:Field),({ name:= "Epoch",type:=3,offset:=1,embedded:=false,tag:= "",pkgPath:= "",byteOffset:=8 }:Field),({ name:= "Cell",type:=35,offset:=2,embedded:=false,tag:= "",pkgPath:= "",byteOffset:=16 }:Field),({ name:= "Agg",type:=40,offset:=5,embedded:=false,tag:= "",pkgPath:= "",byteOffset:=48 }:Field),({ name:= "Cells",type:=41,offset:=9,embedded:=false,tag:= "",pkgPath:= "",byteOffset:=80 }:Field),({ name:= "Held",type:=42,offset:=10,embedded:=false,tag:= "",pkgPath:= "",byteOffset:=104 }:Field),({ name:= "To",type:=35,offset:=11,embedded:=false,tag:= "",pkgPath:= "",byteOffset:=128 }:Field),({ name:= "Most",type:=3,offset:=14,embedded:=false,tag:= "",pkgPath:= "",byteOffset:=160 }:Field)])[3]? with | some fd=>(do pure (fd.offset,(← sizeOf fd.type) != 0)) | none=>pure (0,false):Sem (Nat×Bool)) w=.ok (5,true) w:=fun w=>by kernel_rfl
theorem pN:∀ w,Sem.run PP (do match (#[({ name:= "Kind",type:=3,offset:=0,embedded:=false,tag:= "",pkgPath:= "",byteOffset:=0 }:Field),({ name:= "Epoch",type:=3,offset:=1,embedded:=false,tag:= "",pkgPath:= "",byteOffset:=8 }:Field),({ name:= "Cell",type:=35,offset:=2,embedded:=false,tag:= "",pkgPath:= "",byteOffset:=16 }:Field),({ name:= "Agg",type:=40,offset:=5,embedded:=false,tag:= "",pkgPath:= "",byteOffset:=48 }:Field),({ name:= "Cells",type:=41,offset:=9,embedded:=false,tag:= "",pkgPath:= "",byteOffset:=80 }:Field),({ name:= "Held",type:=42,offset:=10,embedded:=false,tag:= "",pkgPath:= "",byteOffset:=104 }:Field),({ name:= "To",type:=35,offset:=11,embedded:=false,tag:= "",pkgPath:= "",byteOffset:=128 }:Field),({ name:= "Most",type:=3,offset:=14,embedded:=false,tag:= "",pkgPath:= "",byteOffset:=160 }:Field)])[4]? with | some fd=>(do pure (fd.offset,(← sizeOf fd.type) != 0)) | none=>pure (0,false):Sem (Nat×Bool)) w=.ok (9,true) w:=fun w=>by kernel_rfl
theorem pO:∀ w,Sem.run PP (do match (#[({ name:= "Kind",type:=3,offset:=0,embedded:=false,tag:= "",pkgPath:= "",byteOffset:=0 }:Field),({ name:= "Epoch",type:=3,offset:=1,embedded:=false,tag:= "",pkgPath:= "",byteOffset:=8 }:Field),({ name:= "Cell",type:=35,offset:=2,embedded:=false,tag:= "",pkgPath:= "",byteOffset:=16 }:Field),({ name:= "Agg",type:=40,offset:=5,embedded:=false,tag:= "",pkgPath:= "",byteOffset:=48 }:Field),({ name:= "Cells",type:=41,offset:=9,embedded:=false,tag:= "",pkgPath:= "",byteOffset:=80 }:Field),({ name:= "Held",type:=42,offset:=10,embedded:=false,tag:= "",pkgPath:= "",byteOffset:=104 }:Field),({ name:= "To",type:=35,offset:=11,embedded:=false,tag:= "",pkgPath:= "",byteOffset:=128 }:Field),({ name:= "Most",type:=3,offset:=14,embedded:=false,tag:= "",pkgPath:= "",byteOffset:=160 }:Field)])[5]? with | some fd=>(do pure (fd.offset,(← sizeOf fd.type) != 0)) | none=>pure (0,false):Sem (Nat×Bool)) w=.ok (10,true) w:=fun w=>by kernel_rfl
theorem pP:∀ w,Sem.run PP (do match (#[({ name:= "Kind",type:=3,offset:=0,embedded:=false,tag:= "",pkgPath:= "",byteOffset:=0 }:Field),({ name:= "Epoch",type:=3,offset:=1,embedded:=false,tag:= "",pkgPath:= "",byteOffset:=8 }:Field),({ name:= "Cell",type:=35,offset:=2,embedded:=false,tag:= "",pkgPath:= "",byteOffset:=16 }:Field),({ name:= "Agg",type:=40,offset:=5,embedded:=false,tag:= "",pkgPath:= "",byteOffset:=48 }:Field),({ name:= "Cells",type:=41,offset:=9,embedded:=false,tag:= "",pkgPath:= "",byteOffset:=80 }:Field),({ name:= "Held",type:=42,offset:=10,embedded:=false,tag:= "",pkgPath:= "",byteOffset:=104 }:Field),({ name:= "To",type:=35,offset:=11,embedded:=false,tag:= "",pkgPath:= "",byteOffset:=128 }:Field),({ name:= "Most",type:=3,offset:=14,embedded:=false,tag:= "",pkgPath:= "",byteOffset:=160 }:Field)])[6]? with | some fd=>(do pure (fd.offset,(← sizeOf fd.type) != 0)) | none=>pure (0,false):Sem (Nat×Bool)) w=.ok (11,true) w:=fun w=>by kernel_rfl
theorem pQ:∀ w,Sem.run PP (do match (#[({ name:= "Kind",type:=3,offset:=0,embedded:=false,tag:= "",pkgPath:= "",byteOffset:=0 }:Field),({ name:= "Epoch",type:=3,offset:=1,embedded:=false,tag:= "",pkgPath:= "",byteOffset:=8 }:Field),({ name:= "Cell",type:=35,offset:=2,embedded:=false,tag:= "",pkgPath:= "",byteOffset:=16 }:Field),({ name:= "Agg",type:=40,offset:=5,embedded:=false,tag:= "",pkgPath:= "",byteOffset:=48 }:Field),({ name:= "Cells",type:=41,offset:=9,embedded:=false,tag:= "",pkgPath:= "",byteOffset:=80 }:Field),({ name:= "Held",type:=42,offset:=10,embedded:=false,tag:= "",pkgPath:= "",byteOffset:=104 }:Field),({ name:= "To",type:=35,offset:=11,embedded:=false,tag:= "",pkgPath:= "",byteOffset:=128 }:Field),({ name:= "Most",type:=3,offset:=14,embedded:=false,tag:= "",pkgPath:= "",byteOffset:=160 }:Field)])[7]? with | some fd=>(do pure (fd.offset,(← sizeOf fd.type) != 0)) | none=>pure (0,false):Sem (Nat×Bool)) w=.ok (14,true) w:=fun w=>by kernel_rfl
theorem bX:∀ w,Sem.run PP (do match (#[({ name:= "Step",type:=44,offset:=0,embedded:=true,tag:= "",pkgPath:= "",byteOffset:=0 }:Field),({ name:= "Shard",type:=3,offset:=15,embedded:=false,tag:= "",pkgPath:= "",byteOffset:=168 }:Field)])[0]? with | some fd=>(do pure (fd.offset,(← sizeOf fd.type) != 0)) | none=>pure (0,false):Sem (Nat×Bool)) w=.ok (0,true) w:=fun w=>by kernel_rfl
theorem pR:∀ w,Sem.run PP (do match (#[({ name:= "Step",type:=44,offset:=0,embedded:=true,tag:= "",pkgPath:= "",byteOffset:=0 }:Field),({ name:= "Shard",type:=3,offset:=15,embedded:=false,tag:= "",pkgPath:= "",byteOffset:=168 }:Field)])[1]? with | some fd=>(do pure (fd.offset,(← sizeOf fd.type) != 0)) | none=>pure (0,false):Sem (Nat×Bool)) w=.ok (15,true) w:=fun w=>by kernel_rfl
theorem gZ:∀ w,Sem.run PP (do match (#[({ name:= "Cell",type:=35,offset:=0,embedded:=true,tag:= "",pkgPath:= "",byteOffset:=0 }:Field),({ name:= "Agg",type:=40,offset:=3,embedded:=true,tag:= "",pkgPath:= "",byteOffset:=32 }:Field)])[0]? with | some fd=>(do pure (fd.offset,(← sizeOf fd.type) != 0)) | none=>pure (0,false):Sem (Nat×Bool)) w=.ok (0,true) w:=fun w=>by kernel_rfl
theorem kQ:∀ w,Sem.run PP (do match (#[({ name:= "Cell",type:=35,offset:=0,embedded:=true,tag:= "",pkgPath:= "",byteOffset:=0 }:Field),({ name:= "Agg",type:=40,offset:=3,embedded:=true,tag:= "",pkgPath:= "",byteOffset:=32 }:Field)])[1]? with | some fd=>(do pure (fd.offset,(← sizeOf fd.type) != 0)) | none=>pure (0,false):Sem (Nat×Bool)) w=.ok (3,true) w:=fun w=>by kernel_rfl
theorem hC:∀ w,Sem.run PP (do match (#[({ name:= "units",type:=3,offset:=0,embedded:=false,tag:= "",pkgPath:= "spate/shard",byteOffset:=0 }:Field),({ name:= "there",type:=3,offset:=1,embedded:=false,tag:= "",pkgPath:= "spate/shard",byteOffset:=8 }:Field),({ name:= "slots",type:=3,offset:=2,embedded:=false,tag:= "",pkgPath:= "spate/shard",byteOffset:=16 }:Field)])[0]? with | some fd=>(do pure (fd.offset,(← sizeOf fd.type) != 0)) | none=>pure (0,false):Sem (Nat×Bool)) w=.ok (0,true) w:=fun w=>by kernel_rfl
theorem nz:∀ w,Sem.run PP (do match (#[({ name:= "units",type:=3,offset:=0,embedded:=false,tag:= "",pkgPath:= "spate/shard",byteOffset:=0 }:Field),({ name:= "there",type:=3,offset:=1,embedded:=false,tag:= "",pkgPath:= "spate/shard",byteOffset:=8 }:Field),({ name:= "slots",type:=3,offset:=2,embedded:=false,tag:= "",pkgPath:= "spate/shard",byteOffset:=16 }:Field)])[1]? with | some fd=>(do pure (fd.offset,(← sizeOf fd.type) != 0)) | none=>pure (0,false):Sem (Nat×Bool)) w=.ok (1,true) w:=fun w=>by kernel_rfl
theorem xk:∀ w,Sem.run PP (do match (#[({ name:= "units",type:=3,offset:=0,embedded:=false,tag:= "",pkgPath:= "spate/shard",byteOffset:=0 }:Field),({ name:= "there",type:=3,offset:=1,embedded:=false,tag:= "",pkgPath:= "spate/shard",byteOffset:=8 }:Field),({ name:= "slots",type:=3,offset:=2,embedded:=false,tag:= "",pkgPath:= "spate/shard",byteOffset:=16 }:Field)])[2]? with | some fd=>(do pure (fd.offset,(← sizeOf fd.type) != 0)) | none=>pure (0,false):Sem (Nat×Bool)) w=.ok (2,true) w:=fun w=>by kernel_rfl
theorem er:∀ w,Sem.run PP (do match (#[({ name:= "counts",type:=71,offset:=0,embedded:=true,tag:= "",pkgPath:= "spate/shard",byteOffset:=0 }:Field),({ name:= "cells",type:=72,offset:=3,embedded:=false,tag:= "",pkgPath:= "spate/shard",byteOffset:=24 }:Field)])[0]? with | some fd=>(do pure (fd.offset,(← sizeOf fd.type) != 0)) | none=>pure (0,false):Sem (Nat×Bool)) w=.ok (0,true) w:=fun w=>by kernel_rfl
theorem kR:∀ w,Sem.run PP (do match (#[({ name:= "counts",type:=71,offset:=0,embedded:=true,tag:= "",pkgPath:= "spate/shard",byteOffset:=0 }:Field),({ name:= "cells",type:=72,offset:=3,embedded:=false,tag:= "",pkgPath:= "spate/shard",byteOffset:=24 }:Field)])[1]? with | some fd=>(do pure (fd.offset,(← sizeOf fd.type) != 0)) | none=>pure (0,false):Sem (Nat×Bool)) w=.ok (3,true) w:=fun w=>by kernel_rfl
theorem fU:∀ w,Sem.run PP (do match (#[({ name:= "l",type:=81,offset:=0,embedded:=false,tag:= "",pkgPath:= "spate/store",byteOffset:=0 }:Field)])[0]? with | some fd=>(do pure (fd.offset,(← sizeOf fd.type) != 0)) | none=>pure (0,false):Sem (Nat×Bool)) w=.ok (0,true) w:=fun w=>by kernel_rfl
theorem dY:∀ w,Sem.run PP (do match (#[({ name:= "L",type:=84,offset:=0,embedded:=false,tag:= "",pkgPath:= "",byteOffset:=0 }:Field)])[0]? with | some fd=>(do pure (fd.offset,(← sizeOf fd.type) != 0)) | none=>pure (0,false):Sem (Nat×Bool)) w=.ok (0,true) w:=fun w=>by kernel_rfl
theorem kh:∀ w,Sem.run PP (do match (#[({ name:= "rows",type:=51,offset:=0,embedded:=false,tag:= "",pkgPath:= "spate/merge",byteOffset:=0 }:Field),({ name:= "list",type:=3,offset:=1,embedded:=false,tag:= "",pkgPath:= "spate/merge",byteOffset:=24 }:Field)])[0]? with | some fd=>(do pure (fd.offset,(← sizeOf fd.type) != 0)) | none=>pure (0,false):Sem (Nat×Bool)) w=.ok (0,true) w:=fun w=>by kernel_rfl
theorem uF:∀ w,Sem.run PP (do match (#[({ name:= "rows",type:=51,offset:=0,embedded:=false,tag:= "",pkgPath:= "spate/merge",byteOffset:=0 }:Field),({ name:= "list",type:=3,offset:=1,embedded:=false,tag:= "",pkgPath:= "spate/merge",byteOffset:=24 }:Field)])[1]? with | some fd=>(do pure (fd.offset,(← sizeOf fd.type) != 0)) | none=>pure (0,false):Sem (Nat×Bool)) w=.ok (1,true) w:=fun w=>by kernel_rfl
theorem uG:∀ w,Sem.run PP (do match (#[({ name:= "Slots",type:=3,offset:=0,embedded:=false,tag:= "",pkgPath:= "",byteOffset:=0 }:Field),({ name:= "L",type:=137,offset:=1,embedded:=false,tag:= "",pkgPath:= "",byteOffset:=8 }:Field)])[0]? with | some fd=>(do pure (fd.offset,(← sizeOf fd.type) != 0)) | none=>pure (0,false):Sem (Nat×Bool)) w=.ok (0,true) w:=fun w=>by kernel_rfl
theorem dc:∀ w,Sem.run PP (do match (#[({ name:= "Slots",type:=3,offset:=0,embedded:=false,tag:= "",pkgPath:= "",byteOffset:=0 }:Field),({ name:= "L",type:=137,offset:=1,embedded:=false,tag:= "",pkgPath:= "",byteOffset:=8 }:Field)])[1]? with | some fd=>(do pure (fd.offset,(← sizeOf fd.type) != 0)) | none=>pure (0,false):Sem (Nat×Bool)) w=.ok (1,true) w:=fun w=>by kernel_rfl
theorem dt:∀ w,Sem.run PP (do match (#[({ name:= "row",type:=146,offset:=0,embedded:=false,tag:= "",pkgPath:= "spate/table",byteOffset:=0 }:Field),({ name:= "elder",type:=146,offset:=1,embedded:=false,tag:= "",pkgPath:= "spate/table",byteOffset:=24 }:Field),({ name:= "moved",type:=3,offset:=2,embedded:=false,tag:= "",pkgPath:= "spate/table",byteOffset:=48 }:Field),({ name:= "count",type:=3,offset:=3,embedded:=false,tag:= "",pkgPath:= "spate/table",byteOffset:=56 }:Field)])[0]? with | some fd=>(do pure (fd.offset,(← sizeOf fd.type) != 0)) | none=>pure (0,false):Sem (Nat×Bool)) w=.ok (0,true) w:=fun w=>by kernel_rfl
theorem eT:∀ w,Sem.run PP (do match (#[({ name:= "row",type:=146,offset:=0,embedded:=false,tag:= "",pkgPath:= "spate/table",byteOffset:=0 }:Field),({ name:= "elder",type:=146,offset:=1,embedded:=false,tag:= "",pkgPath:= "spate/table",byteOffset:=24 }:Field),({ name:= "moved",type:=3,offset:=2,embedded:=false,tag:= "",pkgPath:= "spate/table",byteOffset:=48 }:Field),({ name:= "count",type:=3,offset:=3,embedded:=false,tag:= "",pkgPath:= "spate/table",byteOffset:=56 }:Field)])[1]? with | some fd=>(do pure (fd.offset,(← sizeOf fd.type) != 0)) | none=>pure (0,false):Sem (Nat×Bool)) w=.ok (1,true) w:=fun w=>by kernel_rfl
theorem iM:∀ w,Sem.run PP (do match (#[({ name:= "row",type:=146,offset:=0,embedded:=false,tag:= "",pkgPath:= "spate/table",byteOffset:=0 }:Field),({ name:= "elder",type:=146,offset:=1,embedded:=false,tag:= "",pkgPath:= "spate/table",byteOffset:=24 }:Field),({ name:= "moved",type:=3,offset:=2,embedded:=false,tag:= "",pkgPath:= "spate/table",byteOffset:=48 }:Field),({ name:= "count",type:=3,offset:=3,embedded:=false,tag:= "",pkgPath:= "spate/table",byteOffset:=56 }:Field)])[2]? with | some fd=>(do pure (fd.offset,(← sizeOf fd.type) != 0)) | none=>pure (0,false):Sem (Nat×Bool)) w=.ok (2,true) w:=fun w=>by kernel_rfl
theorem iN:∀ w,Sem.run PP (do match (#[({ name:= "row",type:=146,offset:=0,embedded:=false,tag:= "",pkgPath:= "spate/table",byteOffset:=0 }:Field),({ name:= "elder",type:=146,offset:=1,embedded:=false,tag:= "",pkgPath:= "spate/table",byteOffset:=24 }:Field),({ name:= "moved",type:=3,offset:=2,embedded:=false,tag:= "",pkgPath:= "spate/table",byteOffset:=48 }:Field),({ name:= "count",type:=3,offset:=3,embedded:=false,tag:= "",pkgPath:= "spate/table",byteOffset:=56 }:Field)])[3]? with | some fd=>(do pure (fd.offset,(← sizeOf fd.type) != 0)) | none=>pure (0,false):Sem (Nat×Bool)) w=.ok (3,true) w:=fun w=>by kernel_rfl
theorem lC:∀ w,Sem.run PP (do match (#[({ name:= "epoch",type:=3,offset:=0,embedded:=false,tag:= "",pkgPath:= "spate/chain",byteOffset:=0 }:Field),({ name:= "value",type:=40,offset:=1,embedded:=false,tag:= "",pkgPath:= "spate/chain",byteOffset:=8 }:Field),({ name:= "dead",type:=4,offset:=5,embedded:=false,tag:= "",pkgPath:= "spate/chain",byteOffset:=40 }:Field)])[0]? with | some fd=>(do pure (fd.offset,(← sizeOf fd.type) != 0)) | none=>pure (0,false):Sem (Nat×Bool)) w=.ok (0,true) w:=fun w=>by kernel_rfl
theorem uH:∀ w,Sem.run PP (do match (#[({ name:= "epoch",type:=3,offset:=0,embedded:=false,tag:= "",pkgPath:= "spate/chain",byteOffset:=0 }:Field),({ name:= "value",type:=40,offset:=1,embedded:=false,tag:= "",pkgPath:= "spate/chain",byteOffset:=8 }:Field),({ name:= "dead",type:=4,offset:=5,embedded:=false,tag:= "",pkgPath:= "spate/chain",byteOffset:=40 }:Field)])[1]? with | some fd=>(do pure (fd.offset,(← sizeOf fd.type) != 0)) | none=>pure (0,false):Sem (Nat×Bool)) w=.ok (1,true) w:=fun w=>by kernel_rfl
theorem qC:∀ w,Sem.run PP (do match (#[({ name:= "epoch",type:=3,offset:=0,embedded:=false,tag:= "",pkgPath:= "spate/chain",byteOffset:=0 }:Field),({ name:= "value",type:=40,offset:=1,embedded:=false,tag:= "",pkgPath:= "spate/chain",byteOffset:=8 }:Field),({ name:= "dead",type:=4,offset:=5,embedded:=false,tag:= "",pkgPath:= "spate/chain",byteOffset:=40 }:Field)])[2]? with | some fd=>(do pure (fd.offset,(← sizeOf fd.type) != 0)) | none=>pure (0,false):Sem (Nat×Bool)) w=.ok (5,true) w:=fun w=>by kernel_rfl
theorem lD:∀ w,Sem.run PP (do match (#[({ name:= "is",type:=5,offset:=0,embedded:=false,tag:= "",pkgPath:= "spate/table",byteOffset:=0 }:Field),({ name:= "key",type:=9,offset:=1,embedded:=false,tag:= "",pkgPath:= "spate/table",byteOffset:=8 }:Field),({ name:= "value",type:=107,offset:=2,embedded:=false,tag:= "",pkgPath:= "spate/table",byteOffset:=24 }:Field)])[0]? with | some fd=>(do pure (fd.offset,(← sizeOf fd.type) != 0)) | none=>pure (0,false):Sem (Nat×Bool)) w=.ok (0,true) w:=fun w=>by kernel_rfl
theorem nv:∀ w,Sem.run PP (do match (#[({ name:= "is",type:=5,offset:=0,embedded:=false,tag:= "",pkgPath:= "spate/table",byteOffset:=0 }:Field),({ name:= "key",type:=9,offset:=1,embedded:=false,tag:= "",pkgPath:= "spate/table",byteOffset:=8 }:Field),({ name:= "value",type:=107,offset:=2,embedded:=false,tag:= "",pkgPath:= "spate/table",byteOffset:=24 }:Field)])[1]? with | some fd=>(do pure (fd.offset,(← sizeOf fd.type) != 0)) | none=>pure (0,false):Sem (Nat×Bool)) w=.ok (1,true) w:=fun w=>by kernel_rfl
theorem lE:∀ w,Sem.run PP (do match (#[({ name:= "is",type:=5,offset:=0,embedded:=false,tag:= "",pkgPath:= "spate/table",byteOffset:=0 }:Field),({ name:= "key",type:=9,offset:=1,embedded:=false,tag:= "",pkgPath:= "spate/table",byteOffset:=8 }:Field),({ name:= "value",type:=107,offset:=2,embedded:=false,tag:= "",pkgPath:= "spate/table",byteOffset:=24 }:Field)])[2]? with | some fd=>(do pure (fd.offset,(← sizeOf fd.type) != 0)) | none=>pure (0,false):Sem (Nat×Bool)) w=.ok (2,true) w:=fun w=>by kernel_rfl
theorem dN:∀ w,Sem.run PP (do match (#[({ name:= "l",type:=162,offset:=0,embedded:=false,tag:= "",pkgPath:= "spate/chain",byteOffset:=0 }:Field)])[0]? with | some fd=>(do pure (fd.offset,(← sizeOf fd.type) != 0)) | none=>pure (0,false):Sem (Nat×Bool)) w=.ok (0,true) w:=fun w=>by kernel_rfl
theorem kj:∀ w,Sem.run PP (do match (#[({ name:= "hi",type:=2,offset:=0,embedded:=false,tag:= "",pkgPath:= "spate/agg",byteOffset:=0 }:Field),({ name:= "lo",type:=90,offset:=1,embedded:=false,tag:= "",pkgPath:= "spate/agg",byteOffset:=8 }:Field)])[0]? with | some fd=>(do pure (fd.offset,(← sizeOf fd.type) != 0)) | none=>pure (0,false):Sem (Nat×Bool)) w=.ok (0,true) w:=fun w=>by kernel_rfl
theorem nw:∀ w,Sem.run PP (do match (#[({ name:= "hi",type:=2,offset:=0,embedded:=false,tag:= "",pkgPath:= "spate/agg",byteOffset:=0 }:Field),({ name:= "lo",type:=90,offset:=1,embedded:=false,tag:= "",pkgPath:= "spate/agg",byteOffset:=8 }:Field)])[1]? with | some fd=>(do pure (fd.offset,(← sizeOf fd.type) != 0)) | none=>pure (0,false):Sem (Nat×Bool)) w=.ok (1,true) w:=fun w=>by kernel_rfl
theorem km:∀ w,Sem.run PP (do match (#[({ name:= "Epoch",type:=3,offset:=0,embedded:=false,tag:= "",pkgPath:= "",byteOffset:=0 }:Field),({ name:= "Agg",type:=40,offset:=1,embedded:=false,tag:= "",pkgPath:= "",byteOffset:=8 }:Field),({ name:= "Dead",type:=4,offset:=5,embedded:=false,tag:= "",pkgPath:= "",byteOffset:=40 }:Field)])[0]? with | some fd=>(do pure (fd.offset,(← sizeOf fd.type) != 0)) | none=>pure (0,false):Sem (Nat×Bool)) w=.ok (0,true) w:=fun w=>by kernel_rfl
theorem zS:∀ w,Sem.run PP (do match (#[({ name:= "Epoch",type:=3,offset:=0,embedded:=false,tag:= "",pkgPath:= "",byteOffset:=0 }:Field),({ name:= "Agg",type:=40,offset:=1,embedded:=false,tag:= "",pkgPath:= "",byteOffset:=8 }:Field),({ name:= "Dead",type:=4,offset:=5,embedded:=false,tag:= "",pkgPath:= "",byteOffset:=40 }:Field)])[1]? with | some fd=>(do pure (fd.offset,(← sizeOf fd.type) != 0)) | none=>pure (0,false):Sem (Nat×Bool)) w=.ok (1,true) w:=fun w=>by kernel_rfl
theorem lF:∀ w,Sem.run PP (do match (#[({ name:= "Epoch",type:=3,offset:=0,embedded:=false,tag:= "",pkgPath:= "",byteOffset:=0 }:Field),({ name:= "Agg",type:=40,offset:=1,embedded:=false,tag:= "",pkgPath:= "",byteOffset:=8 }:Field),({ name:= "Dead",type:=4,offset:=5,embedded:=false,tag:= "",pkgPath:= "",byteOffset:=40 }:Field)])[2]? with | some fd=>(do pure (fd.offset,(← sizeOf fd.type) != 0)) | none=>pure (0,false):Sem (Nat×Bool)) w=.ok (5,true) w:=fun w=>by kernel_rfl
theorem ny:∀ w,Sem.run PP (do match (#[({ name:= "Cell",type:=35,offset:=0,embedded:=false,tag:= "",pkgPath:= "",byteOffset:=0 }:Field),({ name:= "V",type:=191,offset:=3,embedded:=false,tag:= "",pkgPath:= "",byteOffset:=32 }:Field)])[0]? with | some fd=>(do pure (fd.offset,(← sizeOf fd.type) != 0)) | none=>pure (0,false):Sem (Nat×Bool)) w=.ok (0,true) w:=fun w=>by kernel_rfl
theorem iO:∀ w,Sem.run PP (do match (#[({ name:= "Cell",type:=35,offset:=0,embedded:=false,tag:= "",pkgPath:= "",byteOffset:=0 }:Field),({ name:= "V",type:=191,offset:=3,embedded:=false,tag:= "",pkgPath:= "",byteOffset:=32 }:Field)])[1]? with | some fd=>(do pure (fd.offset,(← sizeOf fd.type) != 0)) | none=>pure (0,false):Sem (Nat×Bool)) w=.ok (3,true) w:=fun w=>by kernel_rfl
theorem gX:∀ w,Sem.run PP (do match (#[({ name:= "Neg",type:=4,offset:=0,embedded:=false,tag:= "",pkgPath:= "",byteOffset:=0 }:Field),({ name:= "Hi",type:=90,offset:=1,embedded:=false,tag:= "",pkgPath:= "",byteOffset:=8 }:Field),({ name:= "Lo",type:=90,offset:=2,embedded:=false,tag:= "",pkgPath:= "",byteOffset:=16 }:Field)])[0]? with | some fd=>(do pure (fd.offset,(← sizeOf fd.type) != 0)) | none=>pure (0,false):Sem (Nat×Bool)) w=.ok (0,true) w:=fun w=>by kernel_rfl
theorem gY:∀ w,Sem.run PP (do match (#[({ name:= "Neg",type:=4,offset:=0,embedded:=false,tag:= "",pkgPath:= "",byteOffset:=0 }:Field),({ name:= "Hi",type:=90,offset:=1,embedded:=false,tag:= "",pkgPath:= "",byteOffset:=8 }:Field),({ name:= "Lo",type:=90,offset:=2,embedded:=false,tag:= "",pkgPath:= "",byteOffset:=16 }:Field)])[1]? with | some fd=>(do pure (fd.offset,(← sizeOf fd.type) != 0)) | none=>pure (0,false):Sem (Nat×Bool)) w=.ok (1,true) w:=fun w=>by kernel_rfl
theorem gl:∀ w,Sem.run PP (do match (#[({ name:= "Neg",type:=4,offset:=0,embedded:=false,tag:= "",pkgPath:= "",byteOffset:=0 }:Field),({ name:= "Hi",type:=90,offset:=1,embedded:=false,tag:= "",pkgPath:= "",byteOffset:=8 }:Field),({ name:= "Lo",type:=90,offset:=2,embedded:=false,tag:= "",pkgPath:= "",byteOffset:=16 }:Field)])[2]? with | some fd=>(do pure (fd.offset,(← sizeOf fd.type) != 0)) | none=>pure (0,false):Sem (Nat×Bool)) w=.ok (2,true) w:=fun w=>by kernel_rfl
theorem ph:El PP 22 9 1 16 (.string (⟨#[]⟩:ByteArray)):=⟨Tryz.underlying22,⟨Tryz.t9,by kernel_rfl,by kernel_rfl,by kernel_rfl,by kernel_rfl⟩,by kernel_rfl,by omega,by omega⟩
theorem ef:El PP 41 35 3 32 (.agg (⟨0,(⟨#[]⟩:ByteArray),0⟩:ae).cells.toArray):=⟨Tryz.underlying41,⟨Tryz.t35,by kernel_rfl,by kernel_rfl,by kernel_rfl,by kernel_rfl⟩,by kernel_rfl,by omega,by omega⟩
theorem lz:El PP 42 3 1 8 (.int .i64 0):=⟨Tryz.underlying42,⟨Tryz.t3,by kernel_rfl,by kernel_rfl,by kernel_rfl,by kernel_rfl⟩,by kernel_rfl,by omega,by omega⟩
theorem fR:El PP 51 49 7 64 (.agg (⟨(⟨0,(⟨#[]⟩:ByteArray),0⟩:ae),(⟨0,0,0,0⟩:ag)⟩:aO).cells.toArray):=⟨Tryz.underlying51,⟨Tryz.t49,by kernel_rfl,by kernel_rfl,by kernel_rfl,by kernel_rfl⟩,by kernel_rfl,by omega,by omega⟩
theorem qy:El PP 55 51 1 24 (⟨none,0,0⟩:Sl).enc:=⟨Tryz.underlying55,⟨Tryz.t51,by kernel_rfl,by kernel_rfl,by kernel_rfl,by kernel_rfl⟩,by kernel_rfl,by omega,by omega⟩
theorem np:El PP 81 64 1 8 (.pointer none):=⟨Tryz.underlying81,⟨Tryz.t64,by kernel_rfl,by kernel_rfl,by kernel_rfl,by kernel_rfl⟩,by kernel_rfl,by omega,by omega⟩
theorem ll:El PP 84 87 1 8 (.pointer none):=⟨Tryz.underlying84,⟨Tryz.t87,by kernel_rfl,by kernel_rfl,by kernel_rfl,by kernel_rfl⟩,by kernel_rfl,by omega,by omega⟩
theorem fj:El PP 93 5 1 1 (.int .u8 0):=⟨Tryz.underlying93,⟨Tryz.t5,by kernel_rfl,by kernel_rfl,by kernel_rfl,by kernel_rfl⟩,by kernel_rfl,by omega,by omega⟩
theorem pG:El PP 99 101 2 32 (.agg (⟨(⟨none,0,0⟩:Sl),0⟩:bK).cells.toArray):=⟨Tryz.underlying99,⟨Tryz.t101,by kernel_rfl,by kernel_rfl,by kernel_rfl,by kernel_rfl⟩,by kernel_rfl,by omega,by omega⟩
theorem eN:El PP 137 200 4 56 (.agg (⟨(⟨0,(⟨#[]⟩:ByteArray),0⟩:ae),(⟨none,0,0⟩:Sl)⟩:ci).cells.toArray):=⟨Tryz.underlying137,⟨Tryz.t200,by kernel_rfl,by kernel_rfl,by kernel_rfl,by kernel_rfl⟩,by kernel_rfl,by omega,by omega⟩
theorem ga:El PP 146 156 3 32 (.agg (⟨0,(⟨#[]⟩:ByteArray),none⟩:aE).cells.toArray):=⟨Tryz.underlying146,⟨Tryz.t156,by kernel_rfl,by kernel_rfl,by kernel_rfl,by kernel_rfl⟩,by kernel_rfl,by omega,by omega⟩
theorem cK:PP.underlying 153=some (.map 9 107):=Tryz.underlying153
theorem fL:El PP 162 152 6 48 (.agg (⟨0,(⟨0,0,0,0⟩:ag),false⟩:aM).cells.toArray):=⟨Tryz.underlying162,⟨Tryz.t152,by kernel_rfl,by kernel_rfl,by kernel_rfl,by kernel_rfl⟩,by kernel_rfl,by omega,by omega⟩
theorem sd:El PP 165 4 1 1 (.bool false):=⟨Tryz.underlying165,⟨Tryz.t4,by kernel_rfl,by kernel_rfl,by kernel_rfl,by kernel_rfl⟩,by kernel_rfl,by omega,by omega⟩
theorem pF:El PP 180 41 1 24 (⟨none,0,0⟩:Sl).enc:=⟨Tryz.underlying180,⟨Tryz.t41,by kernel_rfl,by kernel_rfl,by kernel_rfl,by kernel_rfl⟩,by kernel_rfl,by omega,by omega⟩
theorem fh:El PP 191 196 6 48 (.agg (⟨0,(⟨0,0,0,0⟩:ag),false⟩:bL).cells.toArray):=⟨Tryz.underlying191,⟨Tryz.t196,by kernel_rfl,by kernel_rfl,by kernel_rfl,by kernel_rfl⟩,by kernel_rfl,by omega,by omega⟩
theorem lU:PP.underlying 33=some (.slice 46):=Tryz.underlying33
theorem vq:PP.underlying 35=some (.struct #[({ name:= "View",type:=3,offset:=0,embedded:=false,tag:= "",pkgPath:= "",byteOffset:=0 }:Field),({ name:= "Key",type:=9,offset:=1,embedded:=false,tag:= "",pkgPath:= "",byteOffset:=8 }:Field),({ name:= "Start",type:=2,offset:=2,embedded:=false,tag:= "",pkgPath:= "",byteOffset:=24 }:Field)]):=Tryz.underlying35
theorem wO:PP.underlying 40=some (.struct #[({ name:= "Count",type:=2,offset:=0,embedded:=false,tag:= "",pkgPath:= "",byteOffset:=0 }:Field),({ name:= "Sum",type:=2,offset:=1,embedded:=false,tag:= "",pkgPath:= "",byteOffset:=8 }:Field),({ name:= "Min",type:=2,offset:=2,embedded:=false,tag:= "",pkgPath:= "",byteOffset:=16 }:Field),({ name:= "Max",type:=2,offset:=3,embedded:=false,tag:= "",pkgPath:= "",byteOffset:=24 }:Field)]):=Tryz.underlying40
theorem rN:PP.underlying 41=some (.slice 35):=Tryz.underlying41
theorem A0:PP.underlying 42=some (.slice 3):=Tryz.underlying42
theorem nW:PP.underlying 44=some (.struct #[({ name:= "Kind",type:=3,offset:=0,embedded:=false,tag:= "",pkgPath:= "",byteOffset:=0 }:Field),({ name:= "Epoch",type:=3,offset:=1,embedded:=false,tag:= "",pkgPath:= "",byteOffset:=8 }:Field),({ name:= "Cell",type:=35,offset:=2,embedded:=false,tag:= "",pkgPath:= "",byteOffset:=16 }:Field),({ name:= "Agg",type:=40,offset:=5,embedded:=false,tag:= "",pkgPath:= "",byteOffset:=48 }:Field),({ name:= "Cells",type:=41,offset:=9,embedded:=false,tag:= "",pkgPath:= "",byteOffset:=80 }:Field),({ name:= "Held",type:=42,offset:=10,embedded:=false,tag:= "",pkgPath:= "",byteOffset:=104 }:Field),({ name:= "To",type:=35,offset:=11,embedded:=false,tag:= "",pkgPath:= "",byteOffset:=128 }:Field),({ name:= "Most",type:=3,offset:=14,embedded:=false,tag:= "",pkgPath:= "",byteOffset:=160 }:Field)]):=Tryz.underlying44
theorem mU:PP.underlying 46=some (.struct #[({ name:= "Step",type:=44,offset:=0,embedded:=true,tag:= "",pkgPath:= "",byteOffset:=0 }:Field),({ name:= "Shard",type:=3,offset:=15,embedded:=false,tag:= "",pkgPath:= "",byteOffset:=168 }:Field)]):=Tryz.underlying46
abbrev eX:TypeId:=3
abbrev jt:TypeId:=9
abbrev dE:TypeId:=22
abbrev lR:TypeId:=33
abbrev aJ:TypeId:=35
abbrev cf:TypeId:=40
abbrev dw:TypeId:=41
abbrev eW:TypeId:=42
abbrev fF:TypeId:=44
abbrev dP:TypeId:=46
abbrev bQ:TypeId:=49
abbrev eF:TypeId:=51
abbrev jD:TypeId:=74
abbrev rm:TypeId:=83
abbrev mq:TypeId:=86
abbrev eB:TypeId:=99
abbrev ej:TypeId:=101
abbrev ls:TypeId:=128
abbrev mQ:TypeId:=139
abbrev ea:TypeId:=146
abbrev cD:TypeId:=148
abbrev bU:TypeId:=152
abbrev bw:TypeId:=153
abbrev bq:TypeId:=156
abbrev di:TypeId:=164
abbrev eG:TypeId:=170
abbrev lS:TypeId:=196
abbrev nS:TypeId:=200
abbrev bk:TypeId:=208
abbrev ro:TypeId:=64
abbrev mS:TypeId:=87
abbrev eV:FuncId:=17
theorem ln:∀ (args:Array Value) (w:World),(callFunc 17 args).run PP w=.ok (.enter 17 args) w:=Tryz.call17
abbrev ic:FuncId:=72
theorem jh:∀ (args:Array Value) (w:World),(callFunc 72 args).run PP w=.ok (.enter 72 args) w:=Tryz.call72
abbrev cM:FuncId:=99
theorem eM:∀ (args:Array Value) (w:World),(callFunc 99 args).run PP w=.ok (.enter 99 args) w:=Tryz.call99
abbrev bP:FuncId:=125
theorem cR:∀ (args:Array Value) (w:World),(callFunc 125 args).run PP w=.ok (.enter 125 args) w:=Tryz.call125
abbrev eU:FuncId:=127
theorem gu:∀ (args:Array Value) (w:World),(callFunc 127 args).run PP w=.ok (.enter 127 args) w:=Tryz.call127
theorem CN  : ∀ w,(Instr.build 83 ([]:List (Nat×Value)).toArray).run PP w=.ok (.agg (⟨(⟨none,0,0⟩:Sl)⟩:gk).cells.toArray) w:=fun w=>by kernel_rfl
theorem Bb (y2:Int):∀ w,(Instr.build 71 ([(2,(.int .i64 y2))]:List (Nat×Value)).toArray).run PP w=.ok (.agg (⟨0,0,y2⟩:dU).cells.toArray) w:=fun w=>by kernel_rfl
theorem zx (y0:Sl):∀ w,(Instr.build 148 ([(0,y0.enc)]:List (Nat×Value)).toArray).run PP w=.ok (.agg (⟨y0,(⟨none,0,0⟩:Sl),0,0⟩:cv).cells.toArray) w:=fun w=>by kernel_rfl
theorem xZ (y0:dU) (y1:Option Addr):∀ w,(Instr.build 74 ([(0,(.agg y0.cells.toArray)),(1,(.pointer y1))]:List (Nat×Value)).toArray).run PP w=.ok (.agg (⟨y0,y1⟩:gd).cells.toArray) w:=fun w=>by kernel_rfl
theorem yb (y0:Option Addr):∀ w,(Instr.buildSlice 81 1 ([(0,(.pointer y0))]:List (Nat×Value)).toArray).run PP w=.ok (.slice (some ⟨w.heap.size,0,none⟩) 1 1) { w with heap:=w.heap.push (.cells #[(.pointer y0)] Cr) }:=fun w=>by kernel_rfl
theorem CO  : ∀ w,(Instr.build 86 ([]:List (Nat×Value)).toArray).run PP w=.ok (.agg (⟨(⟨none,0,0⟩:Sl)⟩:eg).cells.toArray) w:=fun w=>by kernel_rfl
theorem zw (y0:Int):∀ w,(Instr.build 139 ([(0,(.int .i64 y0))]:List (Nat×Value)).toArray).run PP w=.ok (.agg (⟨y0,(⟨none,0,0⟩:Sl)⟩:dX).cells.toArray) w:=fun w=>by kernel_rfl
theorem yc (y0:Option Addr):∀ w,(Instr.buildSlice 84 1 ([(0,(.pointer y0))]:List (Nat×Value)).toArray).run PP w=.ok (.slice (some ⟨w.heap.size,0,none⟩) 1 1) { w with heap:=w.heap.push (.cells #[(.pointer y0)] Ct) }:=fun w=>by kernel_rfl
theorem tk (y1:ByteArray):∀ w,(Instr.build 35 ([(1,(.string y1))]:List (Nat×Value)).toArray).run PP w=.ok (.agg (⟨0,y1,0⟩:ae).cells.toArray) w:=fun w=>by kernel_rfl
theorem rB (y0:Int) (y1:Int) (y2:Int) (y3:Int):∀ w,(Instr.build 40 ([(0,(.int .i64 y0)),(1,(.int .i64 y1)),(2,(.int .i64 y2)),(3,(.int .i64 y3))]:List (Nat×Value)).toArray).run PP w=.ok (.agg (⟨y0,y1,y2,y3⟩:ag).cells.toArray) w:=fun w=>by kernel_rfl
theorem j9 (y0:ae) (y1:ag):∀ w,(Instr.build 49 ([(0,(.agg y0.cells.toArray)),(1,(.agg y1.cells.toArray))]:List (Nat×Value)).toArray).run PP w=.ok (.agg (⟨y0,y1⟩:aO).cells.toArray) w:=fun w=>by kernel_rfl
theorem jm (y0:Int):∀ w,(Instr.buildSlice 93 1 ([(0,(.int .u8 y0))]:List (Nat×Value)).toArray).run PP w=.ok (.slice (some ⟨w.heap.size,0,none⟩) 1 1) { w with heap:=w.heap.push (.cells #[(.int .u8 y0)] ul) }:=fun w=>by kernel_rfl
theorem ux (y0:Int) (y1:Int):∀ w,(Instr.buildSlice 93 2 ([(0,(.int .u8 y0)),(1,(.int .u8 y1))]:List (Nat×Value)).toArray).run PP w=.ok (.slice (some ⟨w.heap.size,0,none⟩) 2 2) { w with heap:=w.heap.push (.cells #[(.int .u8 y0),(.int .u8 y1)] ul) }:=fun w=>by kernel_rfl
theorem vO (y0:Int) (y1:ag):∀ w,(Instr.build 152 ([(0,(.int .i64 y0)),(1,(.agg y1.cells.toArray))]:List (Nat×Value)).toArray).run PP w=.ok (.agg (⟨y0,y1,false⟩:aM).cells.toArray) w:=fun w=>by kernel_rfl
theorem qq (y0:aM):∀ w,(Instr.buildSlice 162 1 ([(0,(.agg y0.cells.toArray))]:List (Nat×Value)).toArray).run PP w=.ok (.slice (some ⟨w.heap.size,0,none⟩) 1 1) { w with heap:=w.heap.push (.cells ((y0.cells).toArray) mT) }:=fun w=>by kernel_rfl
theorem Ba  : ∀ w,(Instr.build 164 ([]:List (Nat×Value)).toArray).run PP w=.ok (.agg (⟨(⟨none,0,0⟩:Sl)⟩:dM).cells.toArray) w:=fun w=>by kernel_rfl
theorem uv (y0:Int):∀ w,(Instr.build 156 ([(0,(.int .u8 y0))]:List (Nat×Value)).toArray).run PP w=.ok (.agg (⟨y0,(⟨#[]⟩:ByteArray),none⟩:aE).cells.toArray) w:=fun w=>by kernel_rfl
theorem tj (y0:Int) (y1:ByteArray) (y2:Option Addr):∀ w,(Instr.build 156 ([(0,(.int .u8 y0)),(1,(.string y1)),(2,(.pointer y2))]:List (Nat×Value)).toArray).run PP w=.ok (.agg (⟨y0,y1,y2⟩:aE).cells.toArray) w:=fun w=>by kernel_rfl
theorem od  : ∀ w,(Instr.build 40 ([]:List (Nat×Value)).toArray).run PP w=.ok (.agg (⟨0,0,0,0⟩:ag).cells.toArray) w:=fun w=>by kernel_rfl
theorem tE:PP.eqGuardType PP.depth 40=false:=by kernel_rfl
theorem ns (x y:ag) (n:Nat) (w:World):(Op.equalIn (n+2) 40 (.agg x.cells.toArray) (.agg y.cells.toArray)).run PP w=.ok ((x.Count == y.Count) && ((x.Sum == y.Sum) && ((x.Min == y.Min) && ((x.Max == y.Max) && true)))) w:=by
 rw [run_equalIn_agg w (n+1) 40 _ _ (by kernel_rfl) (by kernel_rfl),show (PP.fieldsOf 40).toList=(#[({ name:= "Count",type:=2,offset:=0,embedded:=false,tag:= "",pkgPath:= "",byteOffset:=0 }:Field),({ name:= "Sum",type:=2,offset:=1,embedded:=false,tag:= "",pkgPath:= "",byteOffset:=8 }:Field),({ name:= "Min",type:=2,offset:=2,embedded:=false,tag:= "",pkgPath:= "",byteOffset:=16 }:Field),({ name:= "Max",type:=2,offset:=3,embedded:=false,tag:= "",pkgPath:= "",byteOffset:=24 }:Field)]).toList from by kernel_rfl]
 exact gS (a:=(.int .i64 x.Count)) (b:=(.int .i64 y.Count)) (by decide) (by kernel_rfl) (by kernel_rfl) (run_equalIn_int w n 2 .i64 .i64 _ _ (by kernel_rfl)) (gS (a:=(.int .i64 x.Sum)) (b:=(.int .i64 y.Sum)) (by decide) (by kernel_rfl) (by kernel_rfl) (run_equalIn_int w n 2 .i64 .i64 _ _ (by kernel_rfl)) (gS (a:=(.int .i64 x.Min)) (b:=(.int .i64 y.Min)) (by decide) (by kernel_rfl) (by kernel_rfl) (run_equalIn_int w n 2 .i64 .i64 _ _ (by kernel_rfl)) (gS (a:=(.int .i64 x.Max)) (b:=(.int .i64 y.Max)) (by decide) (by kernel_rfl) (by kernel_rfl) (run_equalIn_int w n 2 .i64 .i64 _ _ (by kernel_rfl)) (tD w))))
theorem qn (y0:Int) (y1:Int):∀ w,(Instr.build 170 ([(0,(.int .i64 y0)),(1,(.int .u64 y1))]:List (Nat×Value)).toArray).run PP w=.ok (.agg (⟨y0,y1⟩:aP).cells.toArray) w:=fun w=>by kernel_rfl
theorem vJ:vr PP 130:=xX Tryz.func130 (by kernel_rfl) (by kernel_rfl) (by kernel_rfl) (by kernel_rfl)
theorem lx  : ∀ w,(Instr.build 35 ([]:List (Nat×Value)).toArray).run PP w=.ok (.agg (⟨0,(⟨#[]⟩:ByteArray),0⟩:ae).cells.toArray) w:=fun w=>by kernel_rfl
theorem pK (y0:Int):∀ w,(Instr.build 35 ([(0,(.int .i64 y0))]:List (Nat×Value)).toArray).run PP w=.ok (.agg (⟨y0,(⟨#[]⟩:ByteArray),0⟩:ae).cells.toArray) w:=fun w=>by kernel_rfl
theorem zG:Cy PP 122:=Bh Tryz.func122 (by kernel_rfl) (by kernel_rfl) (by kernel_rfl) (by kernel_rfl)
theorem rC (y0:Int) (y1:Int) (y2:Int):∀ w,(Instr.buildSlice 42 3 ([(0,(.int .i64 y0)),(1,(.int .i64 y1)),(2,(.int .i64 y2))]:List (Nat×Value)).toArray).run PP w=.ok (.slice (some ⟨w.heap.size,0,none⟩) 3 3) { w with heap:=w.heap.push (.cells #[(.int .i64 y0),(.int .i64 y1),(.int .i64 y2)] rL) }:=fun w=>by kernel_rfl
theorem tr (y0:Sl) (y1:Sl):∀ w,(Instr.buildSlice 154 2 ([(0,y0.enc),(1,y1.enc)]:List (Nat×Value)).toArray).run PP w=.ok (.slice (some ⟨w.heap.size,0,none⟩) 2 2) { w with heap:=w.heap.push (.cells #[y0.enc,y1.enc] AV) }:=fun w=>by kernel_rfl
theorem rU (y0:ByteArray):∀ w,(Instr.buildSlice 22 1 ([(0,(.string y0))]:List (Nat×Value)).toArray).run PP w=.ok (.slice (some ⟨w.heap.size,0,none⟩) 1 1) { w with heap:=w.heap.push (.cells #[(.string y0)] B1) }:=fun w=>by kernel_rfl
theorem lX (y0:aO):∀ w,(Instr.buildSlice 51 1 ([(0,(.agg y0.cells.toArray))]:List (Nat×Value)).toArray).run PP w=.ok (.slice (some ⟨w.heap.size,0,none⟩) 1 1) { w with heap:=w.heap.push (.cells ((y0.cells).toArray) mx) }:=fun w=>by kernel_rfl
theorem ya (y0:Sl):∀ w,(Instr.buildSlice 55 1 ([(0,y0.enc)]:List (Nat×Value)).toArray).run PP w=.ok (.slice (some ⟨w.heap.size,0,none⟩) 1 1) { w with heap:=w.heap.push (.cells #[y0.enc] AY) }:=fun w=>by kernel_rfl
theorem vN (y0:Sl) (y1:Int):∀ w,(Instr.build 101 ([(0,y0.enc),(1,(.int .i64 y1))]:List (Nat×Value)).toArray).run PP w=.ok (.agg (⟨y0,y1⟩:bK).cells.toArray) w:=fun w=>by kernel_rfl
theorem yd (y0:bK):∀ w,(Instr.buildSlice 99 1 ([(0,(.agg y0.cells.toArray))]:List (Nat×Value)).toArray).run PP w=.ok (.slice (some ⟨w.heap.size,0,none⟩) 1 1) { w with heap:=w.heap.push (.cells ((y0.cells).toArray) wK) }:=fun w=>by kernel_rfl
theorem mH:MtF PP 103 99 "Len" 204 false:=⟨Tryz.underlying103,by kernel_rfl⟩
theorem uw (y0:Int) (y1:Int):∀ w,(Instr.buildSlice 42 2 ([(0,(.int .i64 y0)),(1,(.int .i64 y1))]:List (Nat×Value)).toArray).run PP w=.ok (.slice (some ⟨w.heap.size,0,none⟩) 2 2) { w with heap:=w.heap.push (.cells #[(.int .i64 y0),(.int .i64 y1)] rL) }:=fun w=>by kernel_rfl
theorem lJ:MtF PP 103 99 "Less" 205 false:=⟨Tryz.underlying103,by kernel_rfl⟩
theorem lK:MtF PP 103 99 "Swap" 206 false:=⟨Tryz.underlying103,by kernel_rfl⟩
theorem wj:MtF PP 103 99 "Pop" 207 true:=⟨Tryz.underlying103,by kernel_rfl⟩
theorem oC:PP.eqGuardType PP.depth 35=false:=by kernel_rfl
theorem kN (x y:ae) (n:Nat) (w:World):(Op.equalIn (n+2) 35 (.agg x.cells.toArray) (.agg y.cells.toArray)).run PP w=.ok ((x.View == y.View) && ((x.Key.toList == y.Key.toList) && ((x.Start == y.Start) && true))) w:=by
 rw [run_equalIn_agg w (n+1) 35 _ _ (by kernel_rfl) (by kernel_rfl),show (PP.fieldsOf 35).toList=(#[({ name:= "View",type:=3,offset:=0,embedded:=false,tag:= "",pkgPath:= "",byteOffset:=0 }:Field),({ name:= "Key",type:=9,offset:=1,embedded:=false,tag:= "",pkgPath:= "",byteOffset:=8 }:Field),({ name:= "Start",type:=2,offset:=2,embedded:=false,tag:= "",pkgPath:= "",byteOffset:=24 }:Field)]).toList from by kernel_rfl]
 exact gS (a:=(.int .i64 x.View)) (b:=(.int .i64 y.View)) (by decide) (by kernel_rfl) (by kernel_rfl) (run_equalIn_int w n 3 .i64 .i64 _ _ (by kernel_rfl)) (gS (a:=(.string x.Key)) (b:=(.string y.Key)) (by decide) (by kernel_rfl) (by kernel_rfl) (run_equalIn_string w n 9 _ _ (by kernel_rfl)) (gS (a:=(.int .i64 x.Start)) (b:=(.int .i64 y.Start)) (by decide) (by kernel_rfl) (by kernel_rfl) (run_equalIn_int w n 2 .i64 .i64 _ _ (by kernel_rfl)) (tD w)))
theorem CT:PP.eqGuardType PP.depth 49=false:=by kernel_rfl
theorem Bo (x y:aO) (n:Nat) (w:World):(Op.equalIn (n+3) 49 (.agg x.cells.toArray) (.agg y.cells.toArray)).run PP w=.ok ((((x.Cell.View == y.Cell.View) && ((x.Cell.Key.toList == y.Cell.Key.toList) && ((x.Cell.Start == y.Cell.Start) && true)))) && ((((x.Agg.Count == y.Agg.Count) && ((x.Agg.Sum == y.Agg.Sum) && ((x.Agg.Min == y.Agg.Min) && ((x.Agg.Max == y.Agg.Max) && true))))) && true)) w:=by
 rw [run_equalIn_agg w (n+2) 49 _ _ (by kernel_rfl) (by kernel_rfl),show (PP.fieldsOf 49).toList=(#[({ name:= "Cell",type:=35,offset:=0,embedded:=true,tag:= "",pkgPath:= "",byteOffset:=0 }:Field),({ name:= "Agg",type:=40,offset:=3,embedded:=true,tag:= "",pkgPath:= "",byteOffset:=32 }:Field)]).toList from by kernel_rfl]
 exact gS (a:=(.agg x.Cell.cells.toArray)) (b:=(.agg y.Cell.cells.toArray)) (by decide) (by kernel_rfl) (by kernel_rfl) (kN _ _ (n+0) w) (gS (a:=(.agg x.Agg.cells.toArray)) (b:=(.agg y.Agg.cells.toArray)) (by decide) (by kernel_rfl) (by kernel_rfl) (ns _ _ (n+0) w) (tD w))
theorem rW (y0:Int):∀ w,(Instr.buildSlice 42 1 ([(0,(.int .i64 y0))]:List (Nat×Value)).toArray).run PP w=.ok (.slice (some ⟨w.heap.size,0,none⟩) 1 1) { w with heap:=w.heap.push (.cells #[(.int .i64 y0)] rL) }:=fun w=>by kernel_rfl
theorem vP (y0:Int) (y2:Bool):∀ w,(Instr.build 152 ([(0,(.int .i64 y0)),(2,(.bool y2))]:List (Nat×Value)).toArray).run PP w=.ok (.agg (⟨y0,(⟨0,0,0,0⟩:ag),y2⟩:aM).cells.toArray) w:=fun w=>by kernel_rfl
theorem A9  : ∀ w,(Instr.build 156 ([]:List (Nat×Value)).toArray).run PP w=.ok (.agg (⟨0,(⟨#[]⟩:ByteArray),none⟩:aE).cells.toArray) w:=fun w=>by kernel_rfl
theorem vQ (y0:Int) (y1:ag):∀ w,(Instr.build 196 ([(0,(.int .i64 y0)),(1,(.agg y1.cells.toArray))]:List (Nat×Value)).toArray).run PP w=.ok (.agg (⟨y0,y1,false⟩:bL).cells.toArray) w:=fun w=>by kernel_rfl
theorem qr (y0:bL):∀ w,(Instr.buildSlice 191 1 ([(0,(.agg y0.cells.toArray))]:List (Nat×Value)).toArray).run PP w=.ok (.slice (some ⟨w.heap.size,0,none⟩) 1 1) { w with heap:=w.heap.push (.cells ((y0.cells).toArray) uk) }:=fun w=>by kernel_rfl
theorem qo (y0:ae) (y1:Sl):∀ w,(Instr.build 200 ([(0,(.agg y0.cells.toArray)),(1,y1.enc)]:List (Nat×Value)).toArray).run PP w=.ok (.agg (⟨y0,y1⟩:ci).cells.toArray) w:=fun w=>by kernel_rfl
theorem qp (y0:ci):∀ w,(Instr.buildSlice 137 1 ([(0,(.agg y0.cells.toArray))]:List (Nat×Value)).toArray).run PP w=.ok (.slice (some ⟨w.heap.size,0,none⟩) 1 1) { w with heap:=w.heap.push (.cells ((y0.cells).toArray) wL) }:=fun w=>by kernel_rfl
theorem fg (y0:Bool) (y1:Int) (y2:Int):∀ w,(Instr.build 208 ([(0,(.bool y0)),(1,(.int .u64 y1)),(2,(.int .u64 y2))]:List (Nat×Value)).toArray).run PP w=.ok (.agg (⟨y0,y1,y2⟩:ad).cells.toArray) w:=fun w=>by kernel_rfl
theorem vR (y0:Int) (y2:Bool):∀ w,(Instr.build 196 ([(0,(.int .i64 y0)),(2,(.bool y2))]:List (Nat×Value)).toArray).run PP w=.ok (.agg (⟨y0,(⟨0,0,0,0⟩:ag),y2⟩:bL).cells.toArray) w:=fun w=>by kernel_rfl
theorem og (y0:ae):∀ w,(Instr.buildSlice 41 1 ([(0,(.agg y0.cells.toArray))]:List (Nat×Value)).toArray).run PP w=.ok (.slice (some ⟨w.heap.size,0,none⟩) 1 1) { w with heap:=w.heap.push (.cells ((y0.cells).toArray) cH) }:=fun w=>by kernel_rfl
theorem zC  : ∀ w,(Instr.buildSlice 41 0 ([]:List (Nat×Value)).toArray).run PP w=.ok (.slice (some ⟨w.heap.size,0,none⟩) 0 0) { w with heap:=w.heap.push (.cells (([]).toArray) cH) }:=fun w=>by kernel_rfl
theorem zy (y0:Int):∀ w,(Instr.build 196 ([(0,(.int .i64 y0))]:List (Nat×Value)).toArray).run PP w=.ok (.agg (⟨y0,(⟨0,0,0,0⟩:ag),false⟩:bL).cells.toArray) w:=fun w=>by kernel_rfl
end Go.Proofs.YtjjchpaomgmmdaaGreat.V
