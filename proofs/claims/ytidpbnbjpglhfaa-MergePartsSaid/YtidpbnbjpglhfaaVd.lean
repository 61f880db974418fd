/- The calculus, continued: what each kind of operation does; no condition. -/
import Derived.Test.YtidpbnbjpglhfaaVc
namespace Go.Proofs.Ytidpbnbjpglhfaa.V
open Go
set_option linter.unusedVariables false
set_option linter.unusedSimpArgs false

section
variable {P : Program} {rd : Option Nat} {L : List (Nat × Value)} {h : H} {d : Option Tmp} {ty : TypeId} {ps : String} {af : Array Edge} {g : Option (Nat × Bool)} {x y c : Operand} {vx vy v : Value}

/-- An operation that is no defer statement, whose run is told. -/
theorem yp_of {o : Oper} {v : Value} (hd : ∀ c, o.op ≠ .defer c) (hr : ∀ a w, Ag a L → (execOp a.eval o).run P w = .ok (.value v) w) : YP rd P o L v := fun a w ha => by
  rw [Oper.semAt_eq rd _ o hd]; exact hr a w ha
theorem yh_of {o : Oper} {v : Value} {S : H → Prop} (hd : ∀ c, o.op ≠ .defer c) (hr : ∀ a w, Ag a L → S w.heap → (execOp a.eval o).run P w = .ok (.value v) w) : YH rd P o L S v := fun a w ha hs => by
  rw [Oper.semAt_eq rd _ o hd]; exact hr a w ha hs
theorem y_move (hx : evL L x = some v) : YP rd P ⟨d, .move x, ty, ps, af, g⟩ L v := yp_of (by simp) fun a w ha => by simp only [execOp, ha.ev hx]; simp [go_sem]
theorem y_assign (hx : evL L x = some v) : YP rd P ⟨d, .assign x, ty, ps, af, g⟩ L v := yp_of (by simp) fun a w ha => by simp only [execOp, ha.ev hx]; simp [go_sem]
theorem y_pick_t (hc : evL L c = some (.bool true)) (hx : evL L x = some v) : YP rd P ⟨d, .pick c x y, ty, ps, af, g⟩ L v := yp_of (by simp) fun a w ha => by simp only [execOp, ha.ev hx, ha.ev hc]; simp [asBool, go_sem]
theorem y_pick_f (hc : evL L c = some (.bool false)) (hy : evL L y = some v) : YP rd P ⟨d, .pick c x y, ty, ps, af, g⟩ L v := yp_of (by simp) fun a w ha => by simp only [execOp, ha.ev hy, ha.ev hc]; simp [asBool, go_sem]
theorem y_pick {b p q : Bool} (hc : evL L c = some (.bool b)) (hx : evL L x = some (.bool p)) (hy : evL L y = some (.bool q)) : YP rd P ⟨d, .pick c x y, ty, ps, af, g⟩ L (.bool (if b then p else q)) := yp_of (by simp) fun a w ha => by
  simp only [execOp, ha.ev hx, ha.ev hy, ha.ev hc]; cases b <;> simp [asBool, go_sem]
theorem y_nil {p : Addr} (hx : evL L x = some (.pointer (some p))) : YP rd P ⟨d, .nilCheck x, ty, ps, af, g⟩ L (.pointer (some p)) := yp_of (by simp) fun a w ha => by simp only [execOp, ha.ev hx]; simp [go_sem]
theorem y_nilF {f : FuncId} {fs cs : Array Value} (hx : evL L x = some (.func (.func f) fs cs)) : YP rd P ⟨d, .nilCheck x, ty, ps, af, g⟩ L (.func (.func f) fs cs) := yp_of (by simp) fun a w ha => by simp only [execOp, ha.ev hx]; simp [go_sem]
theorem y_nilY {l : Nat} {fs cs : Array Value} (hx : evL L x = some (.func (.yield l) fs cs)) : YP rd P ⟨d, .nilCheck x, ty, ps, af, g⟩ L (.func (.yield l) fs cs) := yp_of (by simp) fun a w ha => by simp only [execOp, ha.ev hx]; simp [go_sem]
theorem y_fa {s : TypeId} {f off : Nat} {fs : Array Field} {p : Addr} (hs : ∀ w, (underlying s).run P w = .ok (.struct fs) w) (hf : ∀ w, ((do match fs[f]? with | some fd => (do pure (fd.offset, (← sizeOf fd.type) != 0)) | none => pure (0, false)) : Sem (Nat × Bool)).run P w = .ok (off, true) w)
    (hx : evL L x = some (.pointer (some p))) : YP rd P ⟨d, .fieldAddr s x f, ty, ps, af, g⟩ L (.pointer (some (p.add off))) := yp_of (by simp) fun a w ha => by
  have hf := hf w
  cases hfd : fs[f]? with
  | none => simp [hfd, go_sem] at hf
  | some fd =>
    simp only [hfd] at hf
    cases hsz : (sizeOf fd.type).run P w with
    | halt e w' => simp [hsz, go_sem] at hf
    | ok n w' =>
      simp [hsz, go_sem] at hf
      obtain ⟨⟨h1, h2⟩, h3⟩ := hf
      subst h1; subst h3
      simp only [execOp, ha.ev hx]; simp [Instr.fieldAt, Instr.sureAddr, fieldPlace, hs, hfd, hsz, h2, go_sem]
theorem y_ia {t e : TypeId} {p : Addr} {n cap size : Nat} {i : Int} {k : IntKind} (hs : ∀ w, (underlying t).run P w = .ok (.slice e) w) (hz : ∀ w, (sizeOf e).run P w = .ok size w)
    (hx : evL L x = some (.slice (some p) n cap)) (hy : evL L y = some (.int k i)) (h0 : 0 ≤ i) (h1 : i < (n : Int)) :
    YP rd P ⟨d, .indexAddr t x y, ty, ps, af, g⟩ L (.pointer (some (p.add (i.toNat * size)))) := yp_of (by simp) fun a w ha => by
  simp only [execOp, ha.ev hx, ha.ev hy]; simp [Instr.indexAt, asIntOf, hs, hz, h0, h1, go_sem]
theorem y_len {t : TypeId} {o : Option Addr} {n cap : Nat} {e : TypeId} {ts : Array TypeId} (hs : ∀ w, (underlying t).run P w = .ok (.slice e) w) (hx : evL L x = some (.slice o n cap)) :
    YP rd P ⟨d, .call { callee := .builtin .len, args := #[x], argTypes := #[t] }, ty, ps, af, g⟩ L (.int .i64 n) := yp_of (by simp) fun a w ha => by
  simp only [execOp, resolve, List.map_toArray, List.map_cons, List.map_nil, ha.ev hx]; simp [invoke, builtin, Builtin.len_, hs, goInt, go_sem]
theorem y_lenS {t : TypeId} {s : ByteArray} (hs : ∀ w, (underlying t).run P w = .ok .string w) (hx : evL L x = some (.string s)) :
    YP rd P ⟨d, .call { callee := .builtin .len, args := #[x], argTypes := #[t] }, ty, ps, af, g⟩ L (.int .i64 s.size) := yp_of (by simp) fun a w ha => by
  simp only [execOp, resolve, List.map_toArray, List.map_cons, List.map_nil, ha.ev hx]; simp [invoke, builtin, Builtin.len_, hs, goInt, go_sem]
theorem y_add {t t' : TypeId} {k : IntKind} {m n : Int} (hx : evL L x = some (.int k m)) (hy : evL L y = some (.int k n)) : YP rd P ⟨d, .binOp .add t x y t', ty, ps, af, g⟩ L (.int k (k.wrap (m + n))) := yp_of (by simp) fun a w ha => by
  simp only [execOp, ha.ev hx, ha.ev hy]; simp [eqGuard, binOp, Op.intArith, go_sem]
theorem y_sub {t t' : TypeId} {k : IntKind} {m n : Int} (hx : evL L x = some (.int k m)) (hy : evL L y = some (.int k n)) : YP rd P ⟨d, .binOp .sub t x y t', ty, ps, af, g⟩ L (.int k (k.wrap (m - n))) := yp_of (by simp) fun a w ha => by
  simp only [execOp, ha.ev hx, ha.ev hy]; simp [eqGuard, binOp, Op.intArith, go_sem]
theorem y_mul {t t' : TypeId} {k : IntKind} {m n : Int} (hx : evL L x = some (.int k m)) (hy : evL L y = some (.int k n)) : YP rd P ⟨d, .binOp .mul t x y t', ty, ps, af, g⟩ L (.int k (k.wrap (m * n))) := yp_of (by simp) fun a w ha => by
  simp only [execOp, ha.ev hx, ha.ev hy]; simp [eqGuard, binOp, Op.intArith, go_sem]
theorem y_quo {t t' : TypeId} {k : IntKind} {m n : Int} (hx : evL L x = some (.int k m)) (hy : evL L y = some (.int k n)) (h0 : n ≠ 0) : YP rd P ⟨d, .binOp .quo t x y t', ty, ps, af, g⟩ L (.int k (k.wrap (m.tdiv n))) := yp_of (by simp) fun a w ha => by
  simp only [execOp, ha.ev hx, ha.ev hy]; simp [eqGuard, binOp, Op.intDiv, h0, go_sem]
theorem y_rem {t t' : TypeId} {k : IntKind} {m n : Int} (hx : evL L x = some (.int k m)) (hy : evL L y = some (.int k n)) (h0 : n ≠ 0) : YP rd P ⟨d, .binOp .rem t x y t', ty, ps, af, g⟩ L (.int k (m.tmod n)) := yp_of (by simp) fun a w ha => by
  simp only [execOp, ha.ev hx, ha.ev hy]; simp [eqGuard, binOp, Op.intDiv, h0, go_sem]
theorem y_shl {t t' : TypeId} {k k' : IntKind} {m n : Int} (hx : evL L x = some (.int k m)) (hy : evL L y = some (.int k' n)) (h0 : 0 ≤ n) : YP rd P ⟨d, .binOp .shl t x y t', ty, ps, af, g⟩ L (.int k (k.wrap (m * 2 ^ (min n.toNat k.bits)))) := yp_of (by simp) fun a w ha => by
  have h0' : ¬ n < 0 := by omega
  simp only [execOp, ha.ev hx, ha.ev hy]; simp [eqGuard, binOp, Op.shift, h0', go_sem]
theorem y_shr {t t' : TypeId} {k k' : IntKind} {m n : Int} (hx : evL L x = some (.int k m)) (hy : evL L y = some (.int k' n)) (h0 : 0 ≤ n) : YP rd P ⟨d, .binOp .shr t x y t', ty, ps, af, g⟩ L (.int k (m.fdiv (2 ^ (min n.toNat k.bits)))) := yp_of (by simp) fun a w ha => by
  have h0' : ¬ n < 0 := by omega
  simp only [execOp, ha.ev hx, ha.ev hy]; simp [eqGuard, binOp, Op.shift, h0', go_sem]
def bitsOf (op : BinOp) (k : IntKind) (m n : Int) : Int :=
  let a := BitVec.ofInt k.bits m
  let b := BitVec.ofInt k.bits n
  match op with
  | .and => k.wrap (a &&& b).toNat
  | .or => k.wrap (a ||| b).toNat
  | .xor => k.wrap (a ^^^ b).toNat
  | _ => k.wrap (a &&& ~~~b).toNat
theorem y_and {t t' : TypeId} {k : IntKind} {m n : Int} (hx : evL L x = some (.int k m)) (hy : evL L y = some (.int k n)) : YP rd P ⟨d, .binOp .and t x y t', ty, ps, af, g⟩ L (.int k (bitsOf .and k m n)) := yp_of (by simp) fun a w ha => by
  simp only [execOp, ha.ev hx, ha.ev hy]; simp [eqGuard, binOp, Op.intBits, bitsOf, go_sem]
theorem y_or {t t' : TypeId} {k : IntKind} {m n : Int} (hx : evL L x = some (.int k m)) (hy : evL L y = some (.int k n)) : YP rd P ⟨d, .binOp .or t x y t', ty, ps, af, g⟩ L (.int k (bitsOf .or k m n)) := yp_of (by simp) fun a w ha => by
  simp only [execOp, ha.ev hx, ha.ev hy]; simp [eqGuard, binOp, Op.intBits, bitsOf, go_sem]
theorem y_xor {t t' : TypeId} {k : IntKind} {m n : Int} (hx : evL L x = some (.int k m)) (hy : evL L y = some (.int k n)) : YP rd P ⟨d, .binOp .xor t x y t', ty, ps, af, g⟩ L (.int k (bitsOf .xor k m n)) := yp_of (by simp) fun a w ha => by
  simp only [execOp, ha.ev hx, ha.ev hy]; simp [eqGuard, binOp, Op.intBits, bitsOf, go_sem]
theorem y_eql {t t' : TypeId} {k : IntKind} {m n : Int} (hx : evL L x = some (.int k m)) (hy : evL L y = some (.int k n)) : YP rd P ⟨d, .binOp .eql t x y t', ty, ps, af, g⟩ L (.bool (m == n)) := yp_of (by simp) fun a w ha => by
  simp only [execOp, ha.ev hx, ha.ev hy]; simp [eqGuard, binOp, Op.intCmp, go_sem]
theorem y_neq {t t' : TypeId} {k : IntKind} {m n : Int} (hx : evL L x = some (.int k m)) (hy : evL L y = some (.int k n)) : YP rd P ⟨d, .binOp .neq t x y t', ty, ps, af, g⟩ L (.bool (m != n)) := yp_of (by simp) fun a w ha => by
  simp only [execOp, ha.ev hx, ha.ev hy]; simp [eqGuard, binOp, Op.intCmp, go_sem]
theorem y_lss {t t' : TypeId} {k : IntKind} {m n : Int} (hx : evL L x = some (.int k m)) (hy : evL L y = some (.int k n)) : YP rd P ⟨d, .binOp .lss t x y t', ty, ps, af, g⟩ L (.bool (decide (m < n))) := yp_of (by simp) fun a w ha => by
  simp only [execOp, ha.ev hx, ha.ev hy]; simp [eqGuard, binOp, Op.intCmp, go_sem]
theorem y_leq {t t' : TypeId} {k : IntKind} {m n : Int} (hx : evL L x = some (.int k m)) (hy : evL L y = some (.int k n)) : YP rd P ⟨d, .binOp .leq t x y t', ty, ps, af, g⟩ L (.bool (decide (m ≤ n))) := yp_of (by simp) fun a w ha => by
  simp only [execOp, ha.ev hx, ha.ev hy]; simp [eqGuard, binOp, Op.intCmp, go_sem]
theorem y_gtr {t t' : TypeId} {k : IntKind} {m n : Int} (hx : evL L x = some (.int k m)) (hy : evL L y = some (.int k n)) : YP rd P ⟨d, .binOp .gtr t x y t', ty, ps, af, g⟩ L (.bool (decide (m > n))) := yp_of (by simp) fun a w ha => by
  simp only [execOp, ha.ev hx, ha.ev hy]; simp [eqGuard, binOp, Op.intCmp, go_sem]
theorem y_geq {t t' : TypeId} {k : IntKind} {m n : Int} (hx : evL L x = some (.int k m)) (hy : evL L y = some (.int k n)) : YP rd P ⟨d, .binOp .geq t x y t', ty, ps, af, g⟩ L (.bool (decide (m ≥ n))) := yp_of (by simp) fun a w ha => by
  simp only [execOp, ha.ev hx, ha.ev hy]; simp [eqGuard, binOp, Op.intCmp, go_sem]
theorem y_seql {t t' : TypeId} {m n : ByteArray} (hx : evL L x = some (.string m)) (hy : evL L y = some (.string n)) : YP rd P ⟨d, .binOp .eql t x y t', ty, ps, af, g⟩ L (.bool (m.toList == n.toList)) := yp_of (by simp) fun a w ha => by
  simp only [execOp, ha.ev hx, ha.ev hy]; simp [eqGuard, binOp, Op.stringOp, go_sem]
theorem y_sneq {t t' : TypeId} {m n : ByteArray} (hx : evL L x = some (.string m)) (hy : evL L y = some (.string n)) : YP rd P ⟨d, .binOp .neq t x y t', ty, ps, af, g⟩ L (.bool (!(m.toList == n.toList))) := yp_of (by simp) fun a w ha => by
  simp only [execOp, ha.ev hx, ha.ev hy]; simp [eqGuard, binOp, Op.stringOp, go_sem]
theorem y_not {b : Bool} (hx : evL L x = some (.bool b)) {t : TypeId} : YP rd P ⟨d, .unOp .not t x, ty, ps, af, g⟩ L (.bool (!b)) := yp_of (by simp) fun a w ha => by
  simp only [execOp, ha.ev hx]; simp [Op.unary, go_sem]
theorem y_neg {k : IntKind} {n : Int} (hx : evL L x = some (.int k n)) {t : TypeId} : YP rd P ⟨d, .unOp .neg t x, ty, ps, af, g⟩ L (.int k (k.wrap (0 - n))) := yp_of (by simp) fun a w ha => by
  simp only [execOp, ha.ev hx]; simp [Op.unary, Op.intArith, go_sem]
theorem y_cvt {k k' : IntKind} {n : Int} {s t : TypeId} {e : TypeDesc} (hs : ∀ w, (underlying s).run P w = .ok e w) (ht : ∀ w, (underlying t).run P w = .ok (.int k') w) (hx : evL L x = some (.int k n)) :
    YP rd P ⟨d, .convert s t x, ty, ps, af, g⟩ L (.int k' (k'.wrap n)) := yp_of (by simp) fun a w ha => by
  simp only [execOp, ha.ev hx]; cases e <;> simp [convert, hs, ht, Conv.intToInt, go_sem]
theorem y_ext {vs : Array Value} {i : Nat} (hx : evL L x = some (.tuple vs)) (hi : vs[i]? = some v) : YP rd P ⟨d, .extract x i, ty, ps, af, g⟩ L v := yp_of (by simp) fun a w ha => by
  simp only [execOp, ha.ev hx]; simp [Instr.extract, hi, go_sem]
theorem y_func {fn : Go.Fn} {fi ca : Array Operand} {vf vc : Array Value} (h1 : ∀ a, Ag a L → fi.map a.eval = vf) (h2 : ∀ a, Ag a L → ca.map a.eval = vc) : YP rd P ⟨d, .makeFunc fn fi ca, ty, ps, af, g⟩ L (.func fn vf vc) := yp_of (by simp) fun a w ha => by
  simp only [execOp]; simp [Instr.makeFunc, h1 a ha, h2 a ha, go_sem]
/-- Any operation that is told as one computation over what its operands hold. -/
theorem y_run {o : Oper} {s : Sem Value} (hd : ∀ c, o.op ≠ .defer c) (he : ∀ a, Ag a L → execOp a.eval o = (do pure (.value (← s)) : Sem Next)) (hs : ∀ w, s.run P w = .ok v w) : YP rd P o L v := yp_of hd fun a w ha => by
  rw [he a ha]; simp [hs w, go_sem]

/-! ### Loads -/
theorem y_ld {t : TypeId} {p : Addr} (hs : ∀ w, (isAgg t).run P w = .ok false w) (hx : evL L x = some (.pointer (some p))) : YH rd P ⟨d, .load t x, ty, ps, af, g⟩ L (fun h => cellH h p = some v) v := yh_of (by simp) fun a w ha hc => by
  have hc' : w.cell? p = some v := hc
  simp only [execOp, ha.ev hx]; simp [Instr.loadAt, Instr.sureAddr, loadVar, hs, load, Sem.run, hc', go_sem]
/-- The cells from p on. -/
def Cells (h : H) (p : Addr) (cs : List Value) : Prop := ∀ i v, cs[i]? = some v → cellH h (p.add i) = some v
theorem y_ldS {t : TypeId} {p : Addr} {cs : List Value} {n : Nat} (hs : ∀ w, (isAgg t).run P w = .ok true w) (hz : ∀ w, (sizeOf t).run P w = .ok n w) (hn : cs.length = n) (hx : evL L x = some (.pointer (some p))) : YH rd P ⟨d, .load t x, ty, ps, af, g⟩ L (fun h => Cells h p cs) (.agg cs.toArray) := yh_of (by simp) fun a w ha hc => by
  have hr := run_loadCells_list (P := P) (w := w) p cs fun j v hj => hc j v hj
  subst hn
  unfold loadCells at hr
  simp only [execOp, ha.ev hx]; simp [loadCells, Instr.loadAt, Instr.sureAddr, loadVar, hs, hz, hr, go_sem]
end
end Go.Proofs.Ytidpbnbjpglhfaa.V
