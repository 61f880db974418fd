/- The elder row is half as long as the row; what is told of lengths; no program; no condition. -/
import Derived.Test.YtkedkajdiclmjaaTc
namespace Go.Proofs.Ytkedkajdiclmjaa.V
set_option linter.unusedVariables false
set_option linter.unusedSimpArgs false
section
variable {α : Type} {z : α}
def EL (T : Tb α) : Prop := T.elder = [] ∨ 2 * T.elder.length = T.row.length
theorem move1_len {T T' : Tb α} (h : move1 z T = some T') : T'.elder.length = T.elder.length ∧ T'.row.length = T.row.length := by
  unfold move1 at h
  split at h
  · cases h
  · split at h
    · split at h
      · cases h
      · cases h; simp
    · cases h; simp
theorem moveN_len : ∀ (n : Nat) {T T' : Tb α}, moveN z n T = some T' → T'.elder.length = T.elder.length ∧ T'.row.length = T.row.length
  | 0, T, T', h => by cases h; exact ⟨rfl, rfl⟩
  | n + 1, T, T', h => by
    unfold moveN at h
    split at h
    · split at h
      · cases h
      · rename_i T1 h1
        obtain ⟨a, b⟩ := move1_len h1
        obtain ⟨c, d⟩ := moveN_len n h
        exact ⟨by omega, by omega⟩
    · cases h; exact ⟨rfl, rfl⟩
theorem EL.of_len {T T' : Tb α} (e : EL T) (h1 : T'.elder.length = T.elder.length) (h2 : T'.row.length = T.row.length) : EL T' := by
  rcases e with e | e
  · left
    rw [e] at h1
    exact List.eq_nil_of_length_eq_zero h1
  · right; omega
theorem EL.move {T T' : Tb α} {n : Int} (e : EL T) (h : moveM z T n = some T') : EL T' := by
  unfold moveM at h
  cases h1 : moveN z n.toNat T with
  | none => rw [h1] at h; cases h
  | some T1 =>
    rw [h1] at h
    cases h
    obtain ⟨a, b⟩ := moveN_len _ h1
    unfold finT
    split
    · exact .inl rfl
    · exact e.of_len a b
theorem newP_length {R : List (Pl α)} {i : Nat} {v : α} : (newP R i v).length = R.length := by unfold newP; split <;> simp
theorem EL.lay {T T' : Tb α} {k : ByteArray} {v : α} (e : EL T) (h : layP T k v = some T') : EL T' := by
  unfold layP at h
  split at h
  · cases h
  · cases h; exact e.of_len rfl (by simp)
theorem EL.put {T T' : Tb α} {k : ByteArray} {v : α} (e : EL T) (h : putM z T k v = some T') : EL T' := by
  unfold putM at h
  cases h1 : moveM z T 4 with
  | none => rw [h1] at h; cases h
  | some T1 =>
    rw [h1] at h
    have e1 := e.move h1
    simp only at h
    unfold putM' at h
    split at h
    · cases h
    · cases h; exact e1.of_len rfl newP_length
    · cases h; exact e1.of_len newP_length rfl
    · split at h
      · cases h2 : moveM z T1 (T1.elder.length : Int) with
        | none => rw [h2] at h; cases h
        | some T2 =>
          rw [h2] at h
          exact EL.lay (T := growT z T2) (.inr (by simp [growT])) h
      · exact e1.lay h
theorem shift_len : ∀ (f : Nat) {R R' : List (Pl α)} {a k : Nat}, shiftM z f R a k = some R' → R'.length = R.length
  | 0, R, R', a, k, h => by cases h
  | f + 1, R, R', a, k, h => by
    unfold shiftM at h
    split at h
    · cases h
    · split at h
      · cases h; simp
      · split at h
        · have := shift_len f h; simpa using this
        · exact shift_len f h
theorem EL.drop {T T' : Tb α} {k : ByteArray} {r : α × Bool} (e : EL T) (h : dropM z T k = some (T', r)) : EL T' := by
  unfold dropM at h
  cases h1 : moveM z T 4 with
  | none => rw [h1] at h; cases h
  | some T1 =>
    rw [h1] at h
    have e1 := e.move h1
    simp only at h
    split at h
    · cases h
    · split at h
      · cases h
      · cases h; exact e1.of_len (by simp) rfl
    · split at h
      · cases h
      · cases h; exact e1
      · split at h
        · cases h
        · split at h
          · cases h
          · rename_i R hR
            cases h
            exact e1.of_len rfl (shift_len _ hR)
theorem EL.new : EL (newT z) := .inl rfl
end
end Go.Proofs.Ytkedkajdiclmjaa.V
