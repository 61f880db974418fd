/- The words in which the printed functions are written: each is a condition on what comes next; and that the operations of the program do what they say; no condition. -/
import Derived.Test.YtidpbnbjpglhfaaVe
namespace Go.Proofs.Ytidpbnbjpglhfaa.V
open Go
set_option linter.unusedVariables false
set_option linter.unusedSimpArgs false

structure Sl where
  ptr : Option Addr
  len : Nat
  cap : Nat
abbrev Sl.enc (s : Sl) : Value := .slice s.ptr s.len s.cap
def ldI (k : IntKind) (h : H) (a : Addr) (K : Int → Prop) : Prop := ∃ n, cellH h a = some (.int k n) ∧ K n
def ldB (h : H) (a : Addr) (K : Bool → Prop) : Prop := ∃ n, cellH h a = some (.bool n) ∧ K n
def ldS (h : H) (a : Addr) (K : ByteArray → Prop) : Prop := ∃ n, cellH h a = some (.string n) ∧ K n
def ldP (h : H) (a : Addr) (K : Option Addr → Prop) : Prop := ∃ n, cellH h a = some (.pointer n) ∧ K n
def ldL (h : H) (a : Addr) (K : Sl → Prop) : Prop := ∃ n : Sl, cellH h a = some n.enc ∧ K n
def ldV (h : H) (a : Addr) (K : Value → Prop) : Prop := ∃ n, cellH h a = some n ∧ K n
def nn (p : Option Addr) (K : Addr → Prop) : Prop := ∃ a, p = some a ∧ K a
/-- a is the address of element i. -/
def IdxAt (s : Sl) (i : Int) (size : Nat) (a : Addr) : Prop := ∃ p, s.ptr = some p ∧ 0 ≤ i ∧ i < (s.len : Int) ∧ a = p.add (i.toNat * size)
def idxA (s : Sl) (i : Int) (size : Nat) (K : Addr → Prop) : Prop := ∃ a, IdxAt s i size a ∧ K a
def ByteAt (s : ByteArray) (i : Int) (n : Int) : Prop := ∃ b : UInt8, 0 ≤ i ∧ s[i.toNat]? = some b ∧ n = (b.toNat : Int)
def idxS (s : ByteArray) (i : Int) (K : Int → Prop) : Prop := ∃ n, ByteAt s i n ∧ K n
def stH (h : H) (a : Addr) (vs : List Value) (K : H → Prop) : Prop := (∀ j, j < vs.length → (cellH h (a.add j)).isSome = true ∧ frozenH h (a.add j) = false) ∧ K (setHs h a vs 0)
def new (h : H) (cs : Array Value) (e : TypeId) (K : Addr → H → Prop) : Prop := K ⟨h.size, 0, none⟩ (h.push (.cells cs e))
def newL (h : H) (cs : Array Value) (e : TypeId) (n : Nat) (K : Sl → H → Prop) : Prop := K ⟨some ⟨h.size, 0, none⟩, n, n⟩ (h.push (.cells cs e))
def slcut (s : Sl) (lo hi size : Nat) : Sl := ⟨if s.cap = lo then s.ptr else s.ptr.map (·.add (lo * size)), hi - lo, s.cap - lo⟩
def CutL (s : Sl) (lo hi : Int) (size : Nat) (r : Sl) : Prop := 0 ≤ lo ∧ lo ≤ hi ∧ hi ≤ (s.cap : Int) ∧ r = slcut s lo.toNat hi.toNat size
def cutL (s : Sl) (lo hi : Int) (size : Nat) (K : Sl → Prop) : Prop := ∃ r, CutL s lo hi size r ∧ K r
def CutS (s : ByteArray) (lo hi : Int) (r : ByteArray) : Prop := 0 ≤ lo ∧ lo ≤ hi ∧ hi ≤ (s.size : Int) ∧ r = s.extract lo.toNat hi.toNat
def cutS (s : ByteArray) (lo hi : Int) (K : ByteArray → Prop) : Prop := ∃ r, CutS s lo hi r ∧ K r
def runV (P : Program) (s : Sem Value) (h : H) (K : Value → H → Prop) : Prop := RunS P s h K
def runL (P : Program) (s : Sem Value) (h : H) (K : Sl → H → Prop) : Prop := RunS P s h fun v h' => ∃ r : Sl, v = r.enc ∧ K r h'
def runI (P : Program) (s : Sem Value) (h : H) (k : IntKind) (K : Int → H → Prop) : Prop := RunS P s h fun v h' => ∃ r, v = .int k r ∧ K r h'
def runB (P : Program) (s : Sem Value) (h : H) (K : Bool → H → Prop) : Prop := RunS P s h fun v h' => ∃ r, v = .bool r ∧ K r h'
def runT (P : Program) (s : Sem Value) (h : H) (K : ByteArray → H → Prop) : Prop := RunS P s h fun v h' => ∃ r, v = .string r ∧ K r h'

section
variable {P : Program} {rd : Option Nat} {L : List (Nat × Value)} {h : H} {d : Option Tmp} {ty : TypeId} {ps : String} {af : Array Edge} {g : Option (Nat × Bool)} {x y c : Operand} {vx vy v : Value}
theorem f_box {e : TypeId} {cs : Array Value} {K : Addr → H → Prop} (hx : evL L x = some vx) (hc : vx.cells = cs) (k : new h cs e K) : EV rd P ⟨d, .box e x, ty, ps, af, g⟩ L h fun v h' => ∃ a, v = .pointer (some a) ∧ K a h' :=
  e_box hx ⟨_, rfl, by rw [hc]; exact k⟩
theorem f_alloc {e : TypeId} {z : Value} {cs : Array Value} {K : Addr → H → Prop} (hz : ∀ w, (zeroValue e).run P w = .ok z w) (hc : z.cells = cs) (k : new h cs e K) : EV rd P ⟨d, .alloc e, ty, ps, af, g⟩ L h fun v h' => ∃ a, v = .pointer (some a) ∧ K a h' :=
  e_alloc hz ⟨_, rfl, by rw [hc]; exact k⟩
theorem f_store {t : TypeId} {p : Addr} {n : Nat} {vs : List Value} {K : H → Prop} (hz : ∀ w, (sizeOf t).run P w = .ok n w) (hx : evL L x = some (.pointer (some p))) (hy : evL L y = some vy) (hc : vy.cells.toList = vs) (hn : vs.length = n) (ho : ∀ v ∈ vs, v.oneCell' = true) (k : stH h p vs K) :
    EV rd P ⟨d, .store t x y, ty, ps, af, g⟩ L h fun v h' => v = undef ∧ K h' := by
  subst hc
  exact e_store hz hx hy (by rw [← hn]; simp) ho (fun j hj => k.1 j (by omega)) ⟨rfl, k.2⟩
theorem f_idx {t e : TypeId} {s : Sl} {size : Nat} {i : Int} {k : IntKind} {a : Addr} (hs : ∀ w, (underlying t).run P w = .ok (.slice e) w) (hz : ∀ w, (sizeOf e).run P w = .ok size w)
    (hx : evL L x = some s.enc) (hy : evL L y = some (.int k i)) (ha : IdxAt s i size a) :
    YP rd P ⟨d, .indexAddr t x y, ty, ps, af, g⟩ L (.pointer (some a)) := by
  obtain ⟨p, hp, h0, h1, rfl⟩ := ha
  exact y_ia hs hz (by rw [hx, Sl.enc, hp]) hy h0 h1
theorem f_nn {p : Option Addr} {a : Addr} (hx : evL L x = some (.pointer p)) (ha : p = some a) : YP rd P ⟨d, .nilCheck x, ty, ps, af, g⟩ L (.pointer (some a)) := y_nil (by rw [hx, ha])
theorem f_idxS {t : TypeId} {s : ByteArray} {i n : Int} {k : IntKind} (hs : ∀ w, (underlying t).run P w = .ok .string w) (hx : evL L x = some (.string s)) (hy : evL L y = some (.int k i)) (hb : ByteAt s i n) :
    YP rd P ⟨d, .index t x y, ty, ps, af, g⟩ L (.int .u8 n) := yp_of (by simp) fun a w ha => by
  obtain ⟨b, h0, hb, rfl⟩ := hb
  simp only [execOp, ha.ev hx, ha.ev hy]
  simp [Instr.index, asIntOf, hs, h0, hb, go_sem]
theorem cellsOfStruct {cs : List Value} : (Value.agg cs.toArray).cells.toList = cs := by simp [Value.cells]
theorem evOpt {o : Option Operand} {vo : Option Value} {a : Act} (ha : Ag a L) (h : o.map (evL L) = vo.map some) : o.map a.eval = vo := by
  cases o with
  | none => cases vo <;> simp at h ⊢
  | some x => cases vo with
    | none => simp at h
    | some v => simp at h ⊢; exact ha.ev h
theorem sliceBound_ok {k : IntKind} {i : Int} {y : Nat} {cd : BoundsCode} (h0 : 0 ≤ i) (h1 : i ≤ (y : Int)) (w : World) : (Instr.sliceBound (.int k i) y cd).run P w = .ok i.toNat w := by
  simp [Instr.sliceBound, asIntOf, h0, h1, go_sem]
def loOf (lo : Option (IntKind × Int)) : Int := match lo with | some p => p.2 | none => 0
def hiOf (hi : Option (IntKind × Int)) (n : Nat) : Int := match hi with | some p => p.2 | none => n
def vOf (o : Option (IntKind × Int)) : Option Value := o.map fun p => .int p.1 p.2
theorem bounds_ok {sl : Bool} {lo hi : Option (IntKind × Int)} {n cap : Nat} (h0 : 0 ≤ loOf lo) (h1 : loOf lo ≤ hiOf hi n) (h2 : hiOf hi n ≤ (cap : Int)) (w : World) :
    (Instr.sliceBounds sl n cap (vOf lo) (vOf hi) none).run P w = .ok ((loOf lo).toNat, (hiOf hi n).toNat, cap) w := by
  unfold Instr.sliceBounds
  have e1 : ∀ q : IntKind × Int, 0 ≤ q.2 → q.2 ≤ (cap : Int) → ∀ cd w, (Instr.sliceBound (.int q.1 q.2) cap cd).run P w = .ok q.2.toNat w := fun q a b cd w => sliceBound_ok a b w
  have e2 : ∀ (p : IntKind × Int) (m : Nat), 0 ≤ p.2 → p.2 ≤ (m : Int) → ∀ cd w, (Instr.sliceBound (.int p.1 p.2) m cd).run P w = .ok p.2.toNat w := fun q m a b cd w => sliceBound_ok a b w
  cases hi with
  | none =>
    cases lo with
    | none => rfl
    | some p =>
      simp only [loOf, hiOf] at h0 h1
      simp only [vOf, Option.map_some, Option.map_none, loOf, hiOf, Sem.run_bind, Sem.run_pure, Result.andThen, e2 p n h0 h1, Int.toNat_natCast]
  | some q =>
    cases lo with
    | none =>
      simp only [loOf, hiOf] at h1 h2
      simp only [vOf, Option.map_some, Option.map_none, loOf, hiOf, Sem.run_bind, Sem.run_pure, Result.andThen, e1 q h1 h2, Int.toNat_zero]
    | some p =>
      simp only [loOf, hiOf] at h0 h1 h2
      have hq : 0 ≤ q.2 := by omega
      simp only [vOf, Option.map_some, loOf, hiOf, Sem.run_bind, Sem.run_pure, Result.andThen, e1 q hq h2, e2 p q.2.toNat h0 (by omega)]
theorem run_via {s : Sem Value} {v : Value} {w : World} (h : s.run P w = .ok v w) : (do pure (.value (← s)) : Sem Next).run P w = .ok (.value v) w := by
  show (s >>= fun v => pure (Next.value v)).run P w = _
  simp only [Sem.run_bind, h, Result.andThen, Sem.run_pure]
theorem f_cutL {t e : TypeId} {s : Sl} {size : Nat} {lo hi : Option Operand} (lv hv : Option (IntKind × Int)) (hs : ∀ w, (underlying t).run P w = .ok (.slice e) w) (hz : ∀ w, (sizeOf e).run P w = .ok size w)
    (hx : evL L x = some s.enc) (hl : lo.map (evL L) = (vOf lv).map some) (hh : hi.map (evL L) = (vOf hv).map some) {r : Sl} (hc : CutL s (loOf lv) (hiOf hv s.len) size r) :
    YP rd P ⟨d, .slice t x lo hi none, ty, ps, af, g⟩ L r.enc := yp_of (by simp) fun a w ha => by
  obtain ⟨h0, h1, h2, rfl⟩ := hc
  have hb := fun w => bounds_ok (P := P) (sl := true) h0 h1 h2 w
  simp only [execOp, ha.ev hx, evOpt ha hl, evOpt ha hh]
  refine run_via ?_
  simp only [Option.map_none, Instr.sliceAt, Instr.slice, Sem.run_bind, hs, Result.andThen, Sl.enc, hb, hz, Sem.run_pure, slcut]
theorem f_cutS {t : TypeId} {s : ByteArray} {lo hi : Option Operand} (lv hv : Option (IntKind × Int)) (hs : ∀ w, (underlying t).run P w = .ok .string w)
    (hx : evL L x = some (.string s)) (hl : lo.map (evL L) = (vOf lv).map some) (hh : hi.map (evL L) = (vOf hv).map some) {r : ByteArray} (hc : CutS s (loOf lv) (hiOf hv s.size) r) :
    YP rd P ⟨d, .slice t x lo hi none, ty, ps, af, g⟩ L (.string r) := yp_of (by simp) fun a w ha => by
  obtain ⟨h0, h1, h2, rfl⟩ := hc
  have hb := fun w => bounds_ok (P := P) (sl := false) h0 h1 h2 w
  simp only [execOp, ha.ev hx, evOpt ha hl, evOpt ha hh]
  refine run_via ?_
  simp only [Option.map_none, Instr.sliceAt, Instr.slice, Sem.run_bind, hs, Result.andThen, Option.isSome_none, Bool.false_eq_true, if_false, hb, Sem.run_pure]
theorem exec_builtin {b : Builtin} {as : List Operand} {ts : Array TypeId} {vs : List Value} {a : Act} (hag : Ag a L) (ha : evLs L as = some vs) :
    execOp a.eval ⟨d, .call { callee := .builtin b, args := as.toArray, argTypes := ts }, ty, ps, af, g⟩ = builtin b ts ty (as.toArray.map fun | .const _ => true | _ => false) vs.toArray := by
  simp only [execOp, resolve, List.map_toArray, hag.evs ha]
  rfl
theorem f_bi {b : Builtin} {as : List Operand} {ts : Array TypeId} {vs : List Value} {s : Sem Value} {K : Value → H → Prop} (ha : evLs L as = some vs) (hb : ∀ cs, builtin b ts ty cs vs.toArray = (do pure (.value (← s)) : Sem Next)) (k : RunS P s h K) :
    EV rd P ⟨d, .call { callee := .builtin b, args := as.toArray, argTypes := ts }, ty, ps, af, g⟩ L h K := ev_of (by simp) (fun a hag => by rw [exec_builtin hag ha, hb]) k
theorem f_app {as : List Operand} {ts : Array TypeId} {vs : List Value} {K : Sl → H → Prop} (ha : evLs L as = some vs) (k : runL P (Builtin.append_ ts ty vs.toArray) h K) :
    EV rd P ⟨d, .call { callee := .builtin .append, args := as.toArray, argTypes := ts }, ty, ps, af, g⟩ L h fun v h' => ∃ r : Sl, v = r.enc ∧ K r h' := f_bi ha (fun _ => rfl) k
theorem f_copy {as : List Operand} {ts : Array TypeId} {vs : List Value} {K : Int → H → Prop} (ha : evLs L as = some vs) (k : runI P (Builtin.copy_ ts ty vs.toArray) h .i64 K) :
    EV rd P ⟨d, .call { callee := .builtin .copy, args := as.toArray, argTypes := ts }, ty, ps, af, g⟩ L h fun v h' => ∃ r, v = .int .i64 r ∧ K r h' := f_bi ha (fun _ => rfl) k
theorem f_make {t : TypeId} {K : Sl → H → Prop} (hx : evL L x = some vx) (hy : evL L y = some vy) (k : runL P (Instr.makeSlice t vx vy) h K) : EV rd P ⟨d, .makeSlice t x y, ty, ps, af, g⟩ L h fun v h' => ∃ r : Sl, v = r.enc ∧ K r h' :=
  ev_of (by simp) (fun a ha => by simp only [execOp, ha.ev hx, ha.ev hy]) k
def evPs (L : List (Nat × Value)) : List (Nat × Operand) → Option (List (Nat × Value))
  | [] => some []
  | p :: r => match evL L p.2, evPs L r with
    | some v, some vs => some ((p.1, v) :: vs)
    | _, _ => none
theorem Ag.eps {a : Act} (ha : Ag a L) : ∀ {xs : List (Nat × Operand)} {vs : List (Nat × Value)}, evPs L xs = some vs → xs.map (fun (i, x) => (i, a.eval x)) = vs := by
  intro xs
  induction xs with
  | nil => intro vs h; simp [evPs] at h; subst h; rfl
  | cons x r ih =>
    intro vs h
    unfold evPs at h
    split at h
    · rename_i v vs' h1 h2
      simp at h; subst h
      simp only [List.map_cons, ha.ev h1, ih h2]
    · cases h
theorem f_build {t : TypeId} {parts : List (Nat × Operand)} {vs : List (Nat × Value)} (hp : evPs L parts = some vs) (hr : ∀ w, (Instr.build t vs.toArray).run P w = .ok v w) : YP rd P ⟨d, .build t parts.toArray, ty, ps, af, g⟩ L v := yp_of (by simp) fun a w ha => by
  have h1 : (parts.toArray.map fun (i, x) => (i, a.eval x)) = vs.toArray := by rw [List.map_toArray, ha.eps hp]
  simp only [execOp, h1]
  exact run_via (hr w)
theorem f_buildL {t e : TypeId} {n : Nat} {parts : List (Nat × Operand)} {vs : List (Nat × Value)} {cs : Array Value} {K : Sl → H → Prop} (hp : evPs L parts = some vs) (hr : Instr.buildSlice t n vs.toArray = Instr.buildSlice t n vs.toArray)
    (hb : ∀ w, (Instr.buildSlice t n vs.toArray).run P w = .ok (.slice (some ⟨w.heap.size, 0, none⟩) n n) { w with heap := w.heap.push (.cells cs e) }) (k : newL h cs e n K) :
    EV rd P ⟨d, .buildSlice t n parts.toArray, ty, ps, af, g⟩ L h fun v h' => ∃ r : Sl, v = r.enc ∧ K r h' := ev_of (by simp) (s := Instr.buildSlice t n vs.toArray) (fun a ha => by
    have h1 : (parts.toArray.map fun (i, x) => (i, a.eval x)) = vs.toArray := by rw [List.map_toArray, ha.eps hp]
    simp only [execOp, h1]) fun w hw => ⟨_, _, hb w, ⟨rfl, rfl, rfl⟩, ⟨some ⟨h.size, 0, none⟩, n, n⟩, by rw [hw], by subst hw; exact k⟩
theorem f_cvtT {s t : TypeId} {K : ByteArray → H → Prop} (hx : evL L x = some vx) (k : runT P (convert s t vx) h K) : EV rd P ⟨d, .convert s t x, ty, ps, af, g⟩ L h fun v h' => ∃ r, v = .string r ∧ K r h' :=
  ev_of (by simp) (fun a ha => by simp only [execOp, ha.ev hx]) k
theorem f_cvtL {s t : TypeId} {K : Sl → H → Prop} (hx : evL L x = some vx) (k : runL P (convert s t vx) h K) : EV rd P ⟨d, .convert s t x, ty, ps, af, g⟩ L h fun v h' => ∃ r : Sl, v = r.enc ∧ K r h' :=
  ev_of (by simp) (fun a ha => by simp only [execOp, ha.ev hx]) k
theorem evsMap {as : Array Operand} {vs : List Value} {a : Act} (ha : Ag a L) (h : evLs L as.toList = some vs) : as.map a.eval = vs.toArray := by
  have := ha.evs h
  apply Array.toList_inj.1
  simp [this]
theorem y_fn {fn : Go.Fn} {fi ca : Array Operand} {vf vc : List Value} (h1 : evLs L fi.toList = some vf) (h2 : evLs L ca.toList = some vc) : YP rd P ⟨d, .makeFunc fn fi ca, ty, ps, af, g⟩ L (.func fn vf.toArray vc.toArray) :=
  y_func (fun a ha => evsMap ha h1) (fun a ha => evsMap ha h2)
theorem y_field {s : TypeId} {f : Nat} (hr : ∀ w, (Instr.field s vx f).run P w = .ok v w) (hx : evL L x = some vx) : YP rd P ⟨d, .field s x f, ty, ps, af, g⟩ L v := yp_of (by simp) fun a w ha => by
  simp only [execOp, ha.ev hx]
  exact run_via (hr w)
theorem nil_base {op : BinOp} {t t' : TypeId} {r : Value} (hx : evL L x = some vx) (hy : evL L y = some vy) (hr : ∀ w, ((do eqGuard op t x y vx vy; binOp op t vx vy) : Sem Value).run P w = .ok r w) : YP rd P ⟨d, .binOp op t x y t', ty, ps, af, g⟩ L r := yp_of (by simp) fun a w ha => by
  simp only [execOp, ha.ev hx, ha.ev hy]
  exact run_via (hr w)
theorem eq_go {t : TypeId} {b : Bool} (h : ∀ n w, (Op.equalIn (n + 1) t vx vy).run P w = .ok b w) (w : World) : (Op.equal t vx vy).run P w = .ok b w := h 9999 w
theorem nil_eql {t t' : TypeId} {b : Bool} (hx : evL L x = some vx) (hy : evL L y = some vy) (h : ∀ n w, (Op.equalIn (n + 1) t vx vy).run P w = .ok b w) (hg : ∀ op, eqGuard op t x y vx vy = pure () ∨ eqGuard op t x y vx vy = (if !(op matches .eql | .neq) then pure () else pure ()))
    (hb : binOp .eql t vx vy = (do pure (.bool (← Op.equal t vx vy)))) : YP rd P ⟨d, .binOp .eql t x y t', ty, ps, af, g⟩ L (.bool b) := nil_base hx hy fun w => by
  have : eqGuard .eql t x y vx vy = pure () := by rcases hg .eql with h | h <;> rw [h] <;> rfl
  rw [this, hb]
  show ((pure () : Sem Unit) >>= fun _ => Op.equal t vx vy >>= fun r => pure (Value.bool r)).run P w = _
  simp only [Sem.run_bind, Sem.run_pure, Result.andThen, eq_go h w]
theorem nil_neq {t t' : TypeId} {b : Bool} (hx : evL L x = some vx) (hy : evL L y = some vy) (h : ∀ n w, (Op.equalIn (n + 1) t vx vy).run P w = .ok b w) (hg : ∀ op, eqGuard op t x y vx vy = pure () ∨ eqGuard op t x y vx vy = (if !(op matches .eql | .neq) then pure () else pure ()))
    (hb : binOp .neq t vx vy = (do pure (.bool (!(← Op.equal t vx vy))))) : YP rd P ⟨d, .binOp .neq t x y t', ty, ps, af, g⟩ L (.bool (!b)) := nil_base hx hy fun w => by
  have : eqGuard .neq t x y vx vy = pure () := by rcases hg .neq with h | h <;> rw [h] <;> rfl
  rw [this, hb]
  show ((pure () : Sem Unit) >>= fun _ => Op.equal t vx vy >>= fun r => pure (Value.bool (!r))).run P w = _
  simp only [Sem.run_bind, Sem.run_pure, Result.andThen, eq_go h w]
theorem y_fnil_eql {t t' : TypeId} {fn : Go.Fn} {fi ca : Array Value} {ps' rs' : Array TypeId} {b' : Bool} (hs : ∀ w, (underlying t).run P w = .ok (.func ps' rs' b') w) (hx : evL L x = some (.func fn fi ca)) (hy : evL L y = some .nilFunc) : YP rd P ⟨d, .binOp .eql t x y t', ty, ps, af, g⟩ L (.bool false) :=
  nil_eql hx hy (fun n w => by unfold Op.equalIn; simp only [Sem.run_bind, hs, Result.andThen, Sem.run_pure]) (fun op => .inr (by cases op <;> rfl)) rfl
theorem y_fnil_neq {t t' : TypeId} {fn : Go.Fn} {fi ca : Array Value} {ps' rs' : Array TypeId} {b' : Bool} (hs : ∀ w, (underlying t).run P w = .ok (.func ps' rs' b') w) (hx : evL L x = some (.func fn fi ca)) (hy : evL L y = some .nilFunc) : YP rd P ⟨d, .binOp .neq t x y t', ty, ps, af, g⟩ L (.bool true) :=
  nil_neq (b := false) hx hy (fun n w => by unfold Op.equalIn; simp only [Sem.run_bind, hs, Result.andThen, Sem.run_pure]) (fun op => .inr (by cases op <;> rfl)) rfl
theorem ptr_nil {t e : TypeId} {p : Option Addr} (hs : ∀ w, (underlying t).run P w = .ok (.pointer e) w) (n : Nat) (w : World) : (Op.equalIn (n + 1) t (.pointer p) (.pointer none)).run P w = .ok p.isNone w := by
  cases p <;> unfold Op.equalIn <;> simp only [Sem.run_bind, hs, Result.andThen, Sem.run_pure, Option.isNone_none, Option.isNone_some]
theorem y_pnil_eql {t t' e : TypeId} {p : Option Addr} (hs : ∀ w, (underlying t).run P w = .ok (.pointer e) w) (hx : evL L x = some (.pointer p)) (hy : evL L y = some (.pointer none)) : YP rd P ⟨d, .binOp .eql t x y t', ty, ps, af, g⟩ L (.bool p.isNone) :=
  nil_eql hx hy (ptr_nil hs) (fun op => .inr (by cases op <;> rfl)) (by cases p <;> rfl)
theorem y_pnil_neq {t t' e : TypeId} {p : Option Addr} (hs : ∀ w, (underlying t).run P w = .ok (.pointer e) w) (hx : evL L x = some (.pointer p)) (hy : evL L y = some (.pointer none)) : YP rd P ⟨d, .binOp .neq t x y t', ty, ps, af, g⟩ L (.bool (!p.isNone)) :=
  nil_neq hx hy (ptr_nil hs) (fun op => .inr (by cases op <;> rfl)) (by cases p <;> rfl)
theorem sl_nil {t e : TypeId} {s : Sl} (hs : ∀ w, (underlying t).run P w = .ok (.slice e) w) (n : Nat) (w : World) : (Op.equalIn (n + 1) t s.enc (.slice none 0 0)).run P w = .ok s.ptr.isNone w := by
  obtain ⟨p, l, c⟩ := s
  cases p <;> unfold Op.equalIn <;> simp only [Sl.enc, Sem.run_bind, hs, Result.andThen, Sem.run_pure, Option.isNone_none, Option.isNone_some]
theorem y_lnil_eql {t t' e : TypeId} {s : Sl} (hs : ∀ w, (underlying t).run P w = .ok (.slice e) w) (hx : evL L x = some s.enc) (hy : evL L y = some (.slice none 0 0)) : YP rd P ⟨d, .binOp .eql t x y t', ty, ps, af, g⟩ L (.bool s.ptr.isNone) :=
  nil_eql hx hy (sl_nil hs) (fun op => .inr (by cases op <;> rfl)) rfl
theorem y_lnil_neq {t t' e : TypeId} {s : Sl} (hs : ∀ w, (underlying t).run P w = .ok (.slice e) w) (hx : evL L x = some s.enc) (hy : evL L y = some (.slice none 0 0)) : YP rd P ⟨d, .binOp .neq t x y t', ty, ps, af, g⟩ L (.bool (!s.ptr.isNone)) :=
  nil_neq hx hy (sl_nil hs) (fun op => .inr (by cases op <;> rfl)) rfl
/-- What a result's variable holds. -/
def RV (P : Program) (L : List (Nat × Value)) (h : H) (r : ResultVar) (v : Value) : Prop :=
  ∀ (a : Act) (w : World), Ag a L → w.heap = h → Sem.run P (match r with
    | .tmp t => (pure (a.tmps.getD t undef) : Sem Value)
    | .cell b t => do loadVar t (← asAddr (a.tmps.getD b undef))) w = .ok v w
theorem rv_tmp {t : Tmp} (hv : lk L t = some v) : RV P L h (.tmp t) v := fun a w ha hh => by
  show (pure (a.tmps.getD t undef) : Sem Value).run P w = _
  rw [ha _ _ hv]; rfl
theorem rv_cell {t : Tmp} {e : TypeId} {p : Addr} (hs : ∀ w, (isAgg e).run P w = .ok false w) (hv : lk L t = some (.pointer (some p))) (hc : cellH h p = some v) : RV P L h (.cell t e) v := fun a w ha hh => by
  subst hh
  have hc' : w.cell? p = some v := hc
  show ((asAddr (a.tmps.getD t undef)) >>= fun b => loadVar e b).run P w = _
  rw [ha _ _ hv]
  simp [asAddr, loadVar, hs, load, Sem.run, hc', go_sem]
theorem rv_cellS {t : Tmp} {e : TypeId} {p : Addr} {cs : List Value} {n : Nat} (hs : ∀ w, (isAgg e).run P w = .ok true w) (hz : ∀ w, (sizeOf e).run P w = .ok n w) (hn : cs.length = n) (hv : lk L t = some (.pointer (some p))) (hc : Cells h p cs) : RV P L h (.cell t e) (.agg cs.toArray) := fun a w ha hh => by
  subst hh
  have hr := run_loadCells_list (P := P) (w := w) p cs fun j v hj => hc j v hj
  subst hn
  unfold loadCells at hr
  show ((asAddr (a.tmps.getD t undef)) >>= fun b => loadVar e b).run P w = _
  rw [ha _ _ hv]
  simp [asAddr, loadVar, loadCells, hs, hz, hr, go_sem]
section
variable {w0 : World} {N : Nat} {fn : Func} {Q : Value → H → Prop} {r1 r2 r3 : ResultVar} {v1 v2 v3 : Value}
theorem tr_rv1 (hr : fn.results = #[r1]) (h1 : RV P L h r1 v1) (k : Q v1 h) : Tr w0 N [] L h (PostF P fn Q w0 .ret) := fun a w ha hh hl => by
  refine ⟨ha.defers, v1, ?_, _, rfl, hl, hh ▸ k⟩
  have h1 := h1 a w ha.get hh
  cases r1 <;> simp [results, hr] <;> simp [go_sem] at h1 <;> simp [go_sem, h1]
end
end
/-! ### Calls of a value -/
def CallV (P : Program) (v : Value) (args : Array Value) (w : World) (K : Value → World → Prop) : Prop :=
  match ((do let d ← Deferred.ofValue v args; invoke d.target d.args) : Sem Next).run P w with
  | .ok (.value u) w' => K u w'
  | .ok .skip w' => K undef w'
  | .ok (.enter f args) w' => CallsIn Fence.wide 0 P f args w' fun e w'' => ∃ v, e = .returned v ∧ K v w''
  | .ok (.row row args) w' => RowsIn Fence.wide 0 P row args w' K
  | .ok (.round l f tmps assign body) w' => RoundIn Fence.wide 0 P l f tmps assign body w' fun e w'' => ∃ v, e = .returned v ∧ K v w''
  | _ => False
/-- What a call of a function value does. -/
def CV (P : Program) (v : Value) (args : List Value) (h : H) (K : Value → H → Prop) : Prop :=
  ∀ w : World, w.heap = h → CallV P v args.toArray w fun u w' => Like w w' ∧ K u w'.heap
theorem CV.mono {P : Program} {v : Value} {args : List Value} {h : H} {K K' : Value → H → Prop} (c : CV P v args h K) (hk : ∀ u h', K u h' → K' u h') : CV P v args h K' := fun w hw => by
  have := c w hw
  unfold CallV at *
  split at this
  · exact ⟨this.1, hk _ _ this.2⟩
  · exact ⟨this.1, hk _ _ this.2⟩
  · exact CallsIn.mono this fun _ _ ⟨v, he, l, k⟩ => ⟨v, he, l, hk _ _ k⟩
  · exact RowsIn.mono this fun _ _ ⟨l, k⟩ => ⟨l, hk _ _ k⟩
  · exact RoundIn.mono this fun _ _ ⟨v, he, l, k⟩ => ⟨v, he, l, hk _ _ k⟩
  · exact this.elim
theorem CV_func {P : Program} {f : FuncId} {fi ca : Array Value} {args : List Value} {h : H} {K : Value → H → Prop} (hc : ∀ args w, (callFunc f args).run P w = .ok (.enter f args) w) (k : Fn P f (fi ++ args.toArray ++ ca) h K) : CV P (.func (.func f) fi ca) args h K := fun w hw => by
  have hr : ((do let d ← Deferred.ofValue (.func (.func f) fi ca) args.toArray; invoke d.target d.args) : Sem Next).run P w = .ok (.enter f (fi ++ args.toArray ++ ca)) w := by
    show (callFunc f (fi ++ args.toArray ++ ca)).run P w = _
    exact hc _ _
  unfold CallV
  rw [hr]
  exact CallsIn.mono (k w hw) fun e w' ⟨r, he, hl, q⟩ => ⟨r, he, hl, q⟩
/-- It is a function: a named one, or a loop's yield. -/
def isF (v : Value) : Prop := (∃ f fi ca, v = .func (.func f) fi ca) ∨ ∃ l fi ca, v = .func (.yield l) fi ca
def isNilF : Value → Bool
  | .nilFunc => true
  | _ => false
section
variable {P : Program} {rd : Option Nat} {L : List (Nat × Value)} {h : H} {d : Option Tmp} {ty : TypeId} {ps : String} {af : Array Edge} {g : Option (Nat × Bool)} {x y c : Operand} {vx vy v : Value}
theorem f_nnF (hx : evL L x = some v) (hv : isF v) : YP rd P ⟨d, .nilCheck x, ty, ps, af, g⟩ L v := by
  rcases hv with ⟨f, fi, ca, rfl⟩ | ⟨l, fi, ca, rfl⟩
  · exact y_nilF hx
  · exact y_nilY hx
theorem y_vnil_eql {t t' : TypeId} {ps' rs' : Array TypeId} {b' : Bool} (hs : ∀ w, (underlying t).run P w = .ok (.func ps' rs' b') w) (hx : evL L x = some v) (hy : evL L y = some .nilFunc) (hv : v = .nilFunc ∨ isF v) : YP rd P ⟨d, .binOp .eql t x y t', ty, ps, af, g⟩ L (.bool (isNilF v)) := by
  rcases hv with rfl | ⟨f, fi, ca, rfl⟩ | ⟨l, fi, ca, rfl⟩
  · exact nil_eql hx hy (fun n w => by unfold Op.equalIn; simp only [Sem.run_bind, hs, Result.andThen, Sem.run_pure, isNilF]) (fun op => .inr (by cases op <;> rfl)) rfl
  · exact y_fnil_eql hs hx hy
  · exact y_fnil_eql hs hx hy
theorem y_vnil_neq {t t' : TypeId} {ps' rs' : Array TypeId} {b' : Bool} (hs : ∀ w, (underlying t).run P w = .ok (.func ps' rs' b') w) (hx : evL L x = some v) (hy : evL L y = some .nilFunc) (hv : v = .nilFunc ∨ isF v) : YP rd P ⟨d, .binOp .neq t x y t', ty, ps, af, g⟩ L (.bool (!isNilF v)) := by
  rcases hv with rfl | ⟨f, fi, ca, rfl⟩ | ⟨l, fi, ca, rfl⟩
  · exact nil_neq hx hy (fun n w => by unfold Op.equalIn; simp only [Sem.run_bind, hs, Result.andThen, Sem.run_pure, isNilF]) (fun op => .inr (by cases op <;> rfl)) rfl
  · exact y_fnil_neq hs hx hy
  · exact y_fnil_neq hs hx hy
theorem e_callD {as : List Operand} {ts : Array TypeId} {vs : List Value} {K : Value → H → Prop} (hx : evL L x = some v) (ha : evLs L as = some vs) (k : CV P v vs h K) :
    EV rd P ⟨d, .call { callee := .value x, args := as.toArray, argTypes := ts }, ty, ps, af, g⟩ L h K := fun a w hag hw => by
  have k := k w hw
  have he : execOp a.eval ⟨d, .call { callee := .value x, args := as.toArray, argTypes := ts }, ty, ps, af, g⟩ = (do let d ← Deferred.ofValue v vs.toArray; invoke d.target d.args) := by
    simp only [execOp, resolve, List.map_toArray, hag.evs ha, hag.ev hx]
  unfold StepV
  rw [Oper.semAt_eq rd _ _ (by simp), he]
  exact k
/-- Two and three results, one of them in a variable of its own. -/
def AllRV (P : Program) (w : World) (tmps : Array Value) : List ResultVar → List Value → Prop
  | [], [] => True
  | r :: l, v :: vs => Sem.run P (match r with
    | ResultVar.tmp t => (pure (tmps.getD t undef) : Sem Value)
    | .cell b t => do loadVar t (← asAddr (tmps.getD b undef))) w = .ok v w ∧ AllRV P w tmps l vs
  | _, _ => False
theorem results_mapM {tmps : Array Value} {P : Program} {w : World} : ∀ (l : List ResultVar) (vs : List Value), AllRV P w tmps l vs → Sem.run P (l.mapM fun r => match r with
    | ResultVar.tmp t => (pure (tmps.getD t undef) : Sem Value)
    | .cell b t => do loadVar t (← asAddr (tmps.getD b undef))) w = .ok vs w := by
  intro l
  induction l with
  | nil => intro vs h; cases vs with
    | nil => rfl
    | cons v vs => exact h.elim
  | cons r l ih =>
    intro vs h
    cases vs with
    | nil => exact h.elim
    | cons v vs =>
      rw [List.mapM_cons, Sem.run_bind, h.1]
      simp only [Result.andThen]
      rw [Sem.run_bind, ih _ h.2]
      rfl
theorem run_results {fn : Func} {l : List ResultVar} {vs : List Value} {tmps : Array Value} {P : Program} {w : World} (hr : fn.results = l.toArray) (hv : AllRV P w tmps l vs) (hn : vs.length ≠ 1) : (results fn tmps).run P w = .ok (.tuple vs.toArray) w := by
  unfold results
  rw [hr, List.mapM_toArray, Sem.run_bind, Sem.run_map]
  refine Eq.trans (congrArg (fun r => Result.andThen (Result.andThen r _) _) (results_mapM l vs hv)) ?_
  simp only [Result.andThen, List.size_toArray, hn, dite_false, Sem.run_pure]
section
variable {w0 : World} {N : Nat} {fn : Func} {Q : Value → H → Prop} {r1 r2 r3 : ResultVar} {v1 v2 v3 : Value}
theorem tr_rv2 (hr : fn.results = #[r1, r2]) (h1 : RV P L h r1 v1) (h2 : RV P L h r2 v2) (k : Q (.tuple #[v1, v2]) h) : Tr w0 N [] L h (PostF P fn Q w0 .ret) := fun a w ha hh hl =>
  ⟨ha.defers, .tuple #[v1, v2], run_results (l := [r1, r2]) (vs := [v1, v2]) hr ⟨h1 a w ha.get hh, h2 a w ha.get hh, trivial⟩ (by simp), _, rfl, hl, hh ▸ k⟩
theorem tr_rv3 (hr : fn.results = #[r1, r2, r3]) (h1 : RV P L h r1 v1) (h2 : RV P L h r2 v2) (h3 : RV P L h r3 v3) (k : Q (.tuple #[v1, v2, v3]) h) : Tr w0 N [] L h (PostF P fn Q w0 .ret) := fun a w ha hh hl =>
  ⟨ha.defers, .tuple #[v1, v2, v3], run_results (l := [r1, r2, r3]) (vs := [v1, v2, v3]) hr ⟨h1 a w ha.get hh, h2 a w ha.get hh, h3 a w ha.get hh, trivial⟩ (by simp), _, rfl, hl, hh ▸ k⟩
end
end
end Go.Proofs.Ytidpbnbjpglhfaa.V
