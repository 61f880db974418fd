/- A function without a Go body: the comparison of texts; no condition. -/
import Derived.Test.YtidpbnbjpglhfaaVn
import Derived.Laws.Externs
import Derived.Lib.Bytealg
namespace Go.Proofs.Ytidpbnbjpglhfaa.V
open Go
set_option linter.unusedVariables false
section
variable {P : Program} {rd : Option Nat} {L : List (Nat × Value)} {h : H} {d : Option Tmp} {ty : TypeId} {ps : String} {af : Array Edge} {g : Option (Nat × Bool)}
/-- -1, 0 or 1: how two texts compare. -/
def cmpM (a b : ByteArray) : Int := Lib.compareBytes a.data.toList b.data.toList
/-- What the model's own entry says of the comparison. -/
def CmpS (P : Program) (f : FuncId) : Prop := ∀ (a b : ByteArray) (w : World), (callFunc f #[.string a, .string b]).run P w = .ok (.value (.int .i64 (cmpM a b))) w
theorem cmpS_of {f : FuncId} {fn : Func} (hf : P.funcs[f]? = some fn) (hname : (fn.name == "runtime.NumGoroutine") = false) (hb : fn.body.isNone = true) (hn : Extern.findNext fn = none) (he : Extern.find fn = some Extern.BytealgCompare.compare) : CmpS P f := fun a b w => by
  rw [run_callFunc_extern hf hname hb hn he, Lib.run_compareString]
  rfl
theorem y_cmpS {f : FuncId} {as : List Operand} {ts : Array TypeId} {a b : ByteArray} (hc : CmpS P f) (ha : evLs L as = some [.string a, .string b]) :
    YP rd P ⟨d, .call { callee := .value (.func f), args := as.toArray, argTypes := ts }, ty, ps, af, g⟩ L (.int .i64 (cmpM a b)) := fun ac w hag => by
  rw [Oper.semAt_eq rd _ _ (by simp)]
  simp only [execOp, resolve, List.map_toArray, hag.evs ha, Act.eval, Deferred.ofValue]
  have := hc a b w
  simp [invoke, go_sem, this]
end
end Go.Proofs.Ytidpbnbjpglhfaa.V
