/- Lists of things that fill several cells each; a chain of versions in memory; what its methods do to the list of versions; no condition. -/
import Derived.Test.YtapomjhjpejimaaVj
import Derived.Test.YtapomjhjpejimaaGl
namespace Go.Proofs.Ytapomjhjpejimaa.V
open Go
set_option linter.unusedVariables false
set_option linter.unusedSimpArgs false

abbrev Ver := S_chain_version_int
theorem ver_len (x : Ver) : x.cells.length = 3 := rfl
/-- A chain: its own block p; the row that it owns, B; its versions L. -/
def Ch (h : H) (p : Nat) (L : List Ver) (B : Option Nat) : Prop :=
  ∃ s : Sl, Blk h p #[s.enc] 74 ∧ Owns h s 76 3 (L.flatMap (·.cells)) ∧ s.blk = B ∧ B ≠ some p
theorem Ch.len {h : H} {s : Sl} {L : List Ver} (o : Owns h s 76 3 (L.flatMap (·.cells))) : s.len = L.length := by
  have := o.1
  rw [flat_len _ 3 ver_len] at this
  omega
/-- Where version i lies. -/
theorem Ch.at {h : H} {s : Sl} {L : List Ver} (o : Owns h s 76 3 (L.flatMap (·.cells))) {i : Nat} {x : Ver} (hx : L[i]? = some x) :
    ∃ b, s.ptr = some ⟨b, 0, none⟩ ∧ cellH h ⟨b, i * 3, none⟩ = some (.int .i64 x.epoch) ∧ cellH h ⟨b, i * 3 + 1, none⟩ = some (.int .i64 x.value) ∧ cellH h ⟨b, i * 3 + 2, none⟩ = some (.bool x.dead) ∧ Cells h ⟨b, i * 3, none⟩ x.cells := by
  have g := flat_get (·.cells) 3 ver_len L i x hx
  obtain ⟨b, h1, h2⟩ := o.get (i := i * 3 + 0) (v := .int .i64 x.epoch) (by rw [g 0 (by omega)]; rfl)
  obtain ⟨b', h1', h3⟩ := o.get (i := i * 3 + 1) (v := .int .i64 x.value) (by rw [g 1 (by omega)]; rfl)
  obtain ⟨b'', h1'', h4⟩ := o.get (i := i * 3 + 2) (v := .bool x.dead) (by rw [g 2 (by omega)]; rfl)
  rw [h1] at h1' h1''
  cases h1'; cases h1''
  refine ⟨b, h1, h2, h3, h4, fun j v hv => ?_⟩
  rw [add_lit]
  match j, hv with
  | 0, hv => simp [S_chain_version_int.cells] at hv; subst hv; exact h2
  | 1, hv => simp [S_chain_version_int.cells] at hv; subst hv; exact h3
  | 2, hv => simp [S_chain_version_int.cells] at hv; subst hv; exact h4
  | j + 3, hv => simp [S_chain_version_int.cells] at hv
theorem Ch.only {S : Nat → Prop} {h h' : H} {p : Nat} {L : List Ver} {B : Option Nat} (c : Ch h p L B) (o : Only S h h') (hp : ¬ S p) (hB : ∀ b, B = some b → ¬ S b) : Ch h' p L B := by
  obtain ⟨s, h1, h2, h3, h4⟩ := c
  exact ⟨s, o.block h1 hp, h2.only o (by rw [h3]; exact hB), h3, h4⟩
theorem Ch.ext {h h' : H} {p : Nat} {L : List Ver} {B : Option Nat} (c : Ch h p L B) (o : Ext h h') : Ch h' p L B := c.only o (fun f => f) fun _ _ f => f
theorem Ch.lt {h : H} {p : Nat} {L : List Ver} {B : Option Nat} (c : Ch h p L B) : p < h.size := by obtain ⟨s, h1, _⟩ := c; exact block_lt h1
theorem Ch.ltB {h : H} {p : Nat} {L : List Ver} {B : Option Nat} (c : Ch h p L B) : ∀ b, B = some b → b < h.size := fun b hb => by
  obtain ⟨s, h1, h2, h3, _⟩ := c; exact h2.blk_lt (by rw [h3]; exact hb)

/-! ### What the methods do to the list -/
def lastE (L : List Ver) : Int := match L.getLast? with | some x => x.epoch | none => 0
def mayM (L : List Ver) (e : Int) : Int := if e < 1 ∨ e > 1099511627776 then 1 else if L ≠ [] ∧ e < lastE L then 32 else 0
def layM (L : List Ver) (x : Ver) : List Ver := if L ≠ [] ∧ lastE L = x.epoch then L.dropLast ++ [x] else L ++ [x]
def layN (L : List Ver) (x : Ver) : Int := if L ≠ [] ∧ lastE L = x.epoch then 0 else 1
theorem last_get {L : List Ver} (h : L ≠ []) : L[L.length - 1]? = some (L.getLast h) := by
  rw [← List.getLast?_eq_getElem?, List.getLast?_eq_some_getLast h]
theorem New_spec {h : H} {Q : Option Addr → H → Prop} (k : ∀ p h', p = h.size → Ch h' p [] none → Ext h h' → Q (some ⟨p, 0, none⟩) h') : F.chain_New_int h Q := by
  unfold F.chain_New_int
  refine new_of fun n h' e1 e2 e3 e4 => k n h' e1 ⟨⟨none, 0, 0⟩, e2, Owns.nil _ _ _, rfl, by simp⟩ e3
theorem may_spec {h : H} {p : Nat} {L : List Ver} {B : Option Nat} {e : Int} {Q : Int → H → Prop} (c : Ch h p L B) (hL : L.length < 4294967296) (k : Q (mayM L e) h) : F.chain_Chain_int_may (some ⟨p, 0, none⟩) e h Q := by
  obtain ⟨s, hb, ho, hB, hne⟩ := c
  have hl := Ch.len ho
  have hc0 : cellH h ⟨p, 0, none⟩ = some s.enc := hb.cell rfl
  unfold mayM at k
  simp only [F.chain_Chain_int_may, F.chain_Chain_int_may.j1, F.chain_Chain_int_may.j2, nn_some, add_lit, Nat.add_zero, ldL_iff hc0, decide_eq_true_eq, decide_eq_false_iff_not, hl]
  refine ⟨fun g => ⟨fun _ => by rw [if_pos (.inl g)] at k; exact k, fun h => by cases h⟩, fun g => ⟨fun g2 => by rw [if_pos (.inr g2)] at k; exact k, fun g2 => ?_⟩⟩
  rw [if_neg (by omega)] at k
  by_cases hn : L = []
  · subst hn
    simp at k ⊢
    exact k
  · have hpos : 0 < L.length := List.length_pos_iff.2 hn
    obtain ⟨b, h1, h2, _⟩ := Ch.at ho (last_get hn)
    refine ⟨fun _ => ?_, fun h => by omega⟩
    refine idxA_of (i := L.length - 1) h1 (by omega) (by rw [w64 (by omega) (by omega)]; omega) ?_
    simp only [add_lit, Nat.add_zero]
    rw [ldI_iff h2]
    have hle : lastE L = (L.getLast hn).epoch := by unfold lastE; rw [List.getLast?_eq_some_getLast hn]
    rw [← hle]
    by_cases hlt : e < lastE L
    · rw [if_pos ⟨hn, hlt⟩] at k; exact ⟨fun _ => k, fun h => absurd hlt h⟩
    · rw [if_neg (fun h => hlt h.2)] at k; exact ⟨fun h => absurd h hlt, fun _ => k⟩
end Go.Proofs.Ytapomjhjpejimaa.V
