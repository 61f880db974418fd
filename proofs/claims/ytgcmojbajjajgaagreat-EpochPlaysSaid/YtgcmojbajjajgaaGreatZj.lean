/- What is known of the book; two books that are alike; no condition. -/
import Derived.Test.YtgcmojbajjajgaaGreatZi
namespace Go.Proofs.YtgcmojbajjajgaaGreat.V
open Go Go.Proofs.YtgcmojbajjajgaaGreat.V.N
set_option linter.unusedVariables false
set_option linter.unusedSimpArgs false
section
variable {h0 h h' : H} {FP FP' : Nat → Prop} {L : List (Nat × Bk)} {i j n m : Nat} {B : Bk} {c : Nat}
theorem known_spec {Q : Bool → H → Prop} (k : ∀ h', Ext h h' → Q true h') : F.spatelaw9_known h Q := by
  unfold F.spatelaw9_known
  refine new_bk (BKs.nil h) (fun e => by omega) fun _ _ n h1 FP1 b1 st1 => ?_
  refine new_bk b1 (fun _ => ?_) fun e => by omega
  refine ⟨fun g => by simp at g, fun _ => ⟨fun g => by simp at g, fun _ => ⟨fun g => by simp at g, fun _ => ?_⟩⟩⟩
  unfold F.spatelaw9_known.j4
  refine ⟨fun g => by simp at g, fun _ => ?_⟩
  unfold F.spatelaw9_known.j1
  have ok0 : Ok (newB 2) 0 := Ok.new
  refine seal_bk (i := 0) b1 rfl ok0 (by omega) fun h2 FP2 b2 _ => ?_
  have ok1 := ok0.seal 1
  refine ⟨fun _ => ⟨fun _ => ?_, fun g => absurd g (by decide +kernel)⟩, fun g => absurd g (by decide +kernel)⟩
  refine join_bk (i := 0) b2 rfl fun h3 FP3 b3 _ => ⟨fun _ => ?_, fun g => absurd g (by decide +kernel)⟩
  have ok2 := ok1.join 2 1
  refine release_bk (i := 0) b3 rfl fun h4 FP4 b4 _ => ⟨fun _ => ?_, fun g => absurd g (by decide +kernel)⟩
  have ok3 := ok2.release 1 1
  refine holds_bk (i := 0) b4 rfl fun h5 FP5 b5 _ => ⟨fun _ => ?_, fun g => absurd g (by decide +kernel)⟩
  refine live_bk (i := 0) b5 rfl ok3 (by omega) fun h6 FP6 b6 _ => ⟨fun _ => ?_, fun g => absurd g (by decide +kernel)⟩
  refine dying_bk (i := 0) b6 rfl ok3 (by omega) fun r7 h7 FP7 b7 _ w7 _ => ?_
  have l7 := own_len cI_len (by omega) w7
  rw [show (dieL (releaseB (joinB (sealB (newB 2) 1).2.2 2 1).2 1 1).2).length = 0 from by decide +kernel] at l7
  rw [l7]
  unfold F.spatelaw9_known.j2
  refine ⟨fun _ => ?_, fun g => absurd g (by decide)⟩
  refine release_bk (i := 0) b7 rfl fun h8 FP8 b8 _ => ⟨fun _ => ?_, fun g => absurd g (by decide +kernel)⟩
  have ok4 := ok3.release 2 1
  refine held_bk (i := 0) b8 rfl ok4 (by omega) fun r9 h9 FP9 b9 _ w9 _ => ?_
  have l9 := own_len cI_len (by omega) w9
  rw [show (heldL (releaseB (releaseB (joinB (sealB (newB 2) 1).2.2 2 1).2 1 1).2 2 1).2).length = 0 from by decide +kernel] at l9
  rw [l9]
  refine ⟨fun _ => ?_, fun g => absurd g (by decide)⟩
  refine dying_bk (i := 0) b9 rfl ok4 (by omega) fun r10 h10 FP10 b10 _ w10 _ => ?_
  have l10 := own_len cI_len (by omega) w10
  rw [show (dieL (releaseB (releaseB (joinB (sealB (newB 2) 1).2.2 2 1).2 1 1).2 2 1).2).length = 1 from by decide +kernel] at l10
  rw [l10]
  refine ⟨fun _ => ?_, fun g => absurd g (by decide)⟩
  refine join_bk (i := 0) b10 rfl fun h11 FP11 b11 _ => ⟨fun _ => ?_, fun g => absurd g (by decide +kernel)⟩
  have ok5 := ok4.join 1 1
  refine begin_bk (i := 0) b11 rfl fun h12 FP12 b12 _ => ?_
  have ok6 := ok5.begin_
  unfold F.spatelaw9_known.j3
  refine end_bk (i := 0) b12 rfl ok6 (by omega) fun h13 FP13 b13 _ => ⟨fun _ => ?_, fun g => absurd g (by decide +kernel)⟩
  have ok7 := ok6.end_
  refine ⟨fun _ => ⟨fun _ => ?_, fun g => absurd g (by decide +kernel)⟩, fun g => absurd g (by decide +kernel)⟩
  refine live_bk (i := 0) b13 rfl ok7 (by omega) fun h14 FP14 b14 _ => ⟨fun _ => ?_, fun g => absurd g (by decide +kernel)⟩
  refine now_bk (i := 0) b14 rfl fun h15 FP15 b15 _ => ?_
  rw [show ((endB (beginB (joinB (releaseB (releaseB (joinB (sealB (newB 2) 1).2.2 2 1).2 1 1).2 2 1).2 1 1).2).2).2.2.now == 2) = true from by decide +kernel]
  exact k h15 b15.ext0
/-! ### Scripts -/
def runK (B : Bk) (ss : List Stp9) : Bk := ss.foldl (fun B s => (doB B s).2) B
theorem runK_snoc (B : Bk) (ss : List Stp9) (s : Stp9) : runK B (ss ++ [s]) = (doB (runK B ss) s).2 := by simp [runK]
theorem Ok.run : ∀ {ss : List Stp9} {B : Bk} {c : Nat}, Ok B c → Ok (runK B ss) (c + ss.length)
  | [], B, c, o => o
  | s :: ss, B, c, o => by
    have := Ok.run (ss := ss) (o.do_ s)
    simp only [List.length_cons]
    rw [show c + (ss.length + 1) = c + 1 + ss.length from by omega]; exact this
abbrev cS (x : Stp9) : List Value := x.cells
end
end Go.Proofs.YtgcmojbajjajgaaGreat.V
