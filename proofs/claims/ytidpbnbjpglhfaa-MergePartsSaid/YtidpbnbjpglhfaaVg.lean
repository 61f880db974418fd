/- More operations: texts compared and joined, flags compared, structs compared field by field; no condition. -/
import Derived.Test.YtidpbnbjpglhfaaVf
import Derived.Laws.StructEq
namespace Go.Proofs.Ytidpbnbjpglhfaa.V
open Go
set_option linter.unusedVariables false
set_option linter.unusedSimpArgs false
section
variable {P : Program} {rd : Option Nat} {L : List (Nat × Value)} {h : H} {d : Option Tmp} {ty : TypeId} {ps : String} {af : Array Edge} {g : Option (Nat × Bool)} {x y c : Operand} {vx vy v : Value}
theorem y_sadd {t t' : TypeId} {m n : ByteArray} (hx : evL L x = some (.string m)) (hy : evL L y = some (.string n)) (hs : ((m.size + n.size : Nat) : Int) ≤ 9223372036854775807) : YP rd P ⟨d, .binOp .add t x y t', ty, ps, af, g⟩ L (.string (m ++ n)) := yp_of (by simp) fun a w ha => by
  simp only [execOp, ha.ev hx, ha.ev hy]
  have : ¬ (((m.size + n.size : Nat) : Int) > IntKind.i64.max) := by simp [IntKind.max, IntKind.bits, IntKind.signed]; omega
  have h2 : Op.stringOp .add m n = pure (.string (m ++ n)) := by unfold Op.stringOp; simp only [this, if_false]
  simp [eqGuard, binOp, h2, go_sem]
theorem y_slss {t t' : TypeId} {m n : ByteArray} (hx : evL L x = some (.string m)) (hy : evL L y = some (.string n)) : YP rd P ⟨d, .binOp .lss t x y t', ty, ps, af, g⟩ L (.bool (Op.bytesLess m.toList n.toList)) := yp_of (by simp) fun a w ha => by
  simp only [execOp, ha.ev hx, ha.ev hy]; simp [eqGuard, binOp, Op.stringOp, go_sem]
theorem y_sleq {t t' : TypeId} {m n : ByteArray} (hx : evL L x = some (.string m)) (hy : evL L y = some (.string n)) : YP rd P ⟨d, .binOp .leq t x y t', ty, ps, af, g⟩ L (.bool (Op.bytesLess m.toList n.toList || (m.toList == n.toList))) := yp_of (by simp) fun a w ha => by
  simp only [execOp, ha.ev hx, ha.ev hy]; simp [eqGuard, binOp, Op.stringOp, go_sem]
theorem y_sgtr {t t' : TypeId} {m n : ByteArray} (hx : evL L x = some (.string m)) (hy : evL L y = some (.string n)) : YP rd P ⟨d, .binOp .gtr t x y t', ty, ps, af, g⟩ L (.bool (!(Op.bytesLess m.toList n.toList || (m.toList == n.toList)))) := yp_of (by simp) fun a w ha => by
  simp only [execOp, ha.ev hx, ha.ev hy]; simp [eqGuard, binOp, Op.stringOp, go_sem]
theorem y_sgeq {t t' : TypeId} {m n : ByteArray} (hx : evL L x = some (.string m)) (hy : evL L y = some (.string n)) : YP rd P ⟨d, .binOp .geq t x y t', ty, ps, af, g⟩ L (.bool (!(Op.bytesLess m.toList n.toList))) := yp_of (by simp) fun a w ha => by
  simp only [execOp, ha.ev hx, ha.ev hy]; simp [eqGuard, binOp, Op.stringOp, go_sem]
theorem y_beql {t t' : TypeId} {m n : Bool} (hu : P.underlying t = some .bool) (hx : evL L x = some (.bool m)) (hy : evL L y = some (.bool n)) : YP rd P ⟨d, .binOp .eql t x y t', ty, ps, af, g⟩ L (.bool (m == n)) :=
  nil_eql hx hy (fun k w => run_equalIn_bool' w k t m n hu) (fun op => .inr (by cases op <;> rfl)) rfl
theorem y_bneq {t t' : TypeId} {m n : Bool} (hu : P.underlying t = some .bool) (hx : evL L x = some (.bool m)) (hy : evL L y = some (.bool n)) : YP rd P ⟨d, .binOp .neq t x y t', ty, ps, af, g⟩ L (.bool (!(m == n))) :=
  nil_neq hx hy (fun k w => run_equalIn_bool' w k t m n hu) (fun op => .inr (by cases op <;> rfl)) rfl
theorem st_eql {t t' : TypeId} {xs ys : Array Value} {b : Bool} (hm : P.eqGuardType P.depth t = false) (he : ∀ w, (Op.equalIn 10000 t (.agg xs) (.agg ys)).run P w = .ok b w) (hx : evL L x = some (.agg xs)) (hy : evL L y = some (.agg ys)) : YP rd P ⟨d, .binOp .eql t x y t', ty, ps, af, g⟩ L (.bool b) :=
  nil_base hx hy fun w => by
    rw [Sem.run_bind, run_eqGuard_agg w .eql t x y xs ys hm, Result.andThen_ok, run_eql_struct w, he w]; rfl
theorem st_neq {t t' : TypeId} {xs ys : Array Value} {b : Bool} (hm : P.eqGuardType P.depth t = false) (he : ∀ w, (Op.equalIn 10000 t (.agg xs) (.agg ys)).run P w = .ok b w) (hx : evL L x = some (.agg xs)) (hy : evL L y = some (.agg ys)) : YP rd P ⟨d, .binOp .neq t x y t', ty, ps, af, g⟩ L (.bool (!b)) :=
  nil_base hx hy fun w => by
    rw [Sem.run_bind, run_eqGuard_agg w .neq t x y xs ys hm, Result.andThen_ok, run_neq_struct w, he w]; rfl
theorem eqF_nil {k : Nat} {xs ys : Array Value} (w : World) : (Op.eqFields k xs ys []).run P w = .ok true w := rfl
theorem eqF_cons {k : Nat} {xs ys : Array Value} {f : Field} {fs : List Field} {a b : Value} {r c : Bool} {w : World} (hn : f.name ≠ "_") (ha : (part f.type xs f.offset).run P w = .ok a w) (hb : (part f.type ys f.offset).run P w = .ok b w) (hr : (Op.equalIn k f.type a b).run P w = .ok r w) (hc : (Op.eqFields k xs ys fs).run P w = .ok c w) :
    (Op.eqFields k xs ys (f :: fs)).run P w = .ok (r && c) w := by
  simp only [Op.eqFields, hn, ne_eq, not_false_eq_true, if_true, Sem.run_bind, ha, hb, hr, Result.andThen_ok]
  cases r
  · simp [Sem.run_pure]
  · simp [hc]
end
end Go.Proofs.Ytidpbnbjpglhfaa.V
