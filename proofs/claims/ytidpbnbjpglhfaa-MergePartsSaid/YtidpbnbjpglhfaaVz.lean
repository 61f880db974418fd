/- Methods called by an interface; no condition. -/
import Derived.Test.YtidpbnbjpglhfaaVv
namespace Go.Proofs.Ytidpbnbjpglhfaa.V
open Go
set_option linter.unusedVariables false
set_option linter.unusedSimpArgs false
/-- A row of a type's method table. -/
def mtOf (P : Program) (T : TypeId) (name : String) : Option (FuncId × Bool) := (P.info? T).bind fun i => (i.methods.find? (·.name == name)).bind fun m => if m.path.toList.isEmpty then m.func else none
/-- The method table of a pointer type: name is function f, which takes the pointer itself (pr) or what it points to. -/
def MtF (P : Program) (T e : TypeId) (name : String) (f : FuncId) (pr : Bool) : Prop :=
  P.underlying T = some (.pointer e) ∧ mtOf P T name = some (f, pr)
theorem mt_run {P : Program} {T e : TypeId} {name : String} {f : FuncId} {pr : Bool} (hm : MtF P T e name f pr) {p : Option Addr} {u : Value} {n : Nat} {w : World}
    (hr : ∀ wr, (receiverAt T (.val (.pointer p)) pr wr).run P w = .ok u w) : (Go.method (n + 1) T (.pointer p) name).run P w = .ok (f, u) w := by
  obtain ⟨hu, ht⟩ := hm
  unfold mtOf at ht
  cases hi : P.info? T with
  | none => rw [hi] at ht; cases ht
  | some i =>
    rw [hi] at ht
    simp only [Option.bind_some] at ht
    cases hf : i.methods.find? (·.name == name) with
    | none => rw [hf] at ht; cases ht
    | some m =>
      rw [hf] at ht
      simp only [Option.bind_some] at ht
      split at ht
      · rename_i hp
        have hp' : m.path.toList = [] := by simpa using hp
        unfold Go.method
        have hti : (typeInfo T).run P w = .ok i w := by simp [typeInfo, go_sem, hi]
        simp only [Sem.run_bind, hti, Result.andThen_ok, hf, hp', follow, Sem.run_pure, ht, hr]
      · cases ht
theorem rcv_ptr {P : Program} {T e : TypeId} (hu : P.underlying T = some (.pointer e)) {v : Value} {w : World} (wr : Option String) : (receiverAt T (.val v) true wr).run P w = .ok v w := by
  unfold receiverAt
  simp only [Sem.run_bind, run_underlying hu, Result.andThen_ok, Place.get, Sem.run_pure]
theorem rcv_val {P : Program} {T e : TypeId} (hu : P.underlying T = some (.pointer e)) (hs : ∀ w, (isAgg e).run P w = .ok false w) {a : Addr} {u : Value} {w : World} (hc : cellH w.heap a = some u) (wr : Option String) :
    (receiverAt T (.val (.pointer (some a))) false wr).run P w = .ok u w := by
  unfold receiverAt
  have hl : (loadVar e a).run P w = .ok u w := by
    have hc' : w.cell? a = some u := hc
    simp [loadVar, hs, load, Sem.run, hc', go_sem]
  cases wr with
  | none => simp only [Sem.run_bind, run_underlying hu, Result.andThen_ok, Place.get, Sem.run_pure, asAddr, hl]
  | some nm =>
    have hk : (Builtin.ssaWrapNilChk_ #[T] T #[.pointer (some a), strVal "", strVal nm]).run P w = .ok (.pointer (some a)) w := rfl
    simp only [Sem.run_bind, run_underlying hu, Result.andThen_ok, Place.get, Sem.run_pure, hk, asAddr, hl]
section
variable {P : Program} {rd : Option Nat} {L : List (Nat × Value)} {h : H} {d : Option Tmp} {ty : TypeId} {ps : String} {af : Array Edge} {g : Option (Nat × Bool)} {x y c : Operand} {vx vy v : Value}
theorem e_inv {T : TypeId} {name : String} {f : FuncId} {u : Value} {as : List Operand} {ts : Array TypeId} {vs : List Value} {K : Value → H → Prop} (hc : ∀ args w, (callFunc f args).run P w = .ok (.enter f args) w)
    (hm : ∀ (w : World) n, w.heap = h → (Go.method (n + 1) T v name).run P w = .ok (f, u) w) (hx : evL L x = some (.iface T v)) (ha : evLs L as = some vs) (hF : Fn P f (u :: vs).toArray h K) :
    EV rd P ⟨d, .call { callee := .invoke x name, args := as.toArray, argTypes := ts }, ty, ps, af, g⟩ L h K := fun a w hag hw => by
  unfold StepV
  rw [Oper.semAt_eq rd _ _ (by simp)]
  have hr : (execOp a.eval ⟨d, .call { callee := .invoke x name, args := as.toArray, argTypes := ts }, ty, ps, af, g⟩).run P w = .ok (.enter f (u :: vs).toArray) w := by
    have hmm : (Go.method (P.types.size + 100) T v name).run P w = .ok (f, u) w := hm w (P.types.size + 99) hw
    simp only [execOp, resolve, List.map_toArray, hag.evs ha, hag.ev hx]
    simp [invoke, callMethod, go_sem, Made.depth, hmm, hc]
  rw [hr]
  exact CallsIn.mono (hF w hw) fun e w' ⟨r, he, hl, q⟩ => ⟨r, he, hl, q⟩
/-- A method that takes the pointer. -/
theorem e_invP {T e : TypeId} {name : String} {f : FuncId} {p : Option Addr} {as : List Operand} {ts : Array TypeId} {vs : List Value} {K : Value → H → Prop} (hm : MtF P T e name f true) (hc : ∀ args w, (callFunc f args).run P w = .ok (.enter f args) w)
    (hx : evL L x = some (.iface T (.pointer p))) (ha : evLs L as = some vs) (hF : Fn P f (.pointer p :: vs).toArray h K) :
    EV rd P ⟨d, .call { callee := .invoke x name, args := as.toArray, argTypes := ts }, ty, ps, af, g⟩ L h K :=
  e_inv hc (fun w n _ => mt_run hm fun wr => rcv_ptr hm.1 wr) hx ha hF
/-- A method that takes what the pointer leads to, a slice. -/
theorem e_invL {T e : TypeId} {name : String} {f : FuncId} {p : Option Addr} {as : List Operand} {ts : Array TypeId} {vs : List Value} {K : Value → H → Prop} (hm : MtF P T e name f false) (hs : ∀ w, (isAgg e).run P w = .ok false w) (hc : ∀ args w, (callFunc f args).run P w = .ok (.enter f args) w)
    (hx : evL L x = some (.iface T (.pointer p))) (ha : evLs L as = some vs) (hF : nn p fun a => ldL h a fun s => Fn P f (s.enc :: vs).toArray h K) :
    EV rd P ⟨d, .call { callee := .invoke x name, args := as.toArray, argTypes := ts }, ty, ps, af, g⟩ L h K := by
  obtain ⟨a, rfl, s, hcell, hF⟩ := hF
  exact e_inv hc (fun w n hw => mt_run hm fun wr => rcv_val hm.1 hs (by rw [hw]; exact hcell) wr) hx ha hF
theorem f_min {k : IntKind} {as : List Operand} {ts : Array TypeId} {vs : List Value} {K : Int → H → Prop} (ha : evLs L as = some vs) (kk : runI P (Builtin.min_ ts ty vs.toArray) h k K) :
    EV rd P ⟨d, .call { callee := .builtin .min, args := as.toArray, argTypes := ts }, ty, ps, af, g⟩ L h fun v h' => ∃ r, v = .int k r ∧ K r h' := f_bi ha (fun _ => rfl) kk
theorem f_max {k : IntKind} {as : List Operand} {ts : Array TypeId} {vs : List Value} {K : Int → H → Prop} (ha : evLs L as = some vs) (kk : runI P (Builtin.max_ ts ty vs.toArray) h k K) :
    EV rd P ⟨d, .call { callee := .builtin .max, args := as.toArray, argTypes := ts }, ty, ps, af, g⟩ L h fun v h' => ∃ r, v = .int k r ∧ K r h' := f_bi ha (fun _ => rfl) kk
theorem min_of {k : IntKind} {ts : Array TypeId} {t : TypeId} {a b : Int} {K : Int → H → Prop} (kk : K (if b < a then b else a) h) : runI P (Builtin.min_ ts t #[.int k a, .int k b]) h k K := fun w hw =>
  ⟨_, w, rfl, .refl _, _, rfl, by rw [hw]; exact kk⟩
theorem inv_map {p : Option Addr} {A B : Sl → Prop} (hAB : ∀ s, A s → B s) (k : nn p fun a => ldL h a A) : nn p fun a => ldL h a B := by
  obtain ⟨a, ha, s, hs, k⟩ := k
  exact ⟨a, ha, s, hs, hAB s k⟩
end
end Go.Proofs.Ytidpbnbjpglhfaa.V
