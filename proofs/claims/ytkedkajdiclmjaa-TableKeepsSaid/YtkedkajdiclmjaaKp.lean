/- Turned by a program of this session (tabturn.py) out of XTp: the table of slices of whole numbers; no condition. -/
import Derived.Test.YtkedkajdiclmjaaKo
namespace Go.Proofs.Ytkedkajdiclmjaa.V.K
open Go Go.Proofs.Ytkedkajdiclmjaa.V
set_option linter.unusedVariables false
set_option linter.unusedSimpArgs false
theorem allL_mem {T : Tb Sl} (t : TOk T) {x : ByteArray × Sl} (h : x ∈ allL T) : getM T x.1 = some x.2 ∧ ∃ p, (p ∈ T.row ∨ p ∈ T.elder) ∧ p.key = x.1 := by
  unfold allL at h
  obtain ⟨k, hk, rfl⟩ := List.mem_map.1 h
  rw [sortT_mem] at hk
  obtain ⟨q, hq, rfl⟩ := List.mem_map.1 hk
  obtain ⟨v, hv, _⟩ := tk_val t (k := q.1) (v := q.2) hq
  refine ⟨by rw [hv]; rfl, ?_⟩
  unfold tkL at hq
  obtain ⟨p, hp, rfl⟩ := List.mem_map.1 hq
  exact ⟨p, by simpa using (List.mem_filter.1 hp).1, rfl⟩
theorem allL_small {h : H} {n : Nat} {rs es : Sl} {T : Tb Sl} (t : TH h n rs es T) (ok : TOk T) {x : ByteArray × Sl} (hx : x ∈ allL T) : SmallK x.1 := by
  obtain ⟨_, p, hp, e⟩ := allL_mem ok hx
  rw [← e]
  rcases hp with hp | hp
  · obtain ⟨i, hi⟩ := List.mem_iff_getElem?.1 hp
    exact t.kr i p hi
  · obtain ⟨i, hi⟩ := List.mem_iff_getElem?.1 hp
    exact t.ke i p hi
theorem where_some {T : Tb Sl} (t : TOk T) (key : ByteArray) : ∃ w, whereM T key = some w := by
  rcases where_ok t key with ⟨i, w, _⟩ | ⟨i, w, _⟩ | ⟨w, _⟩ <;> exact ⟨_, w⟩
end Go.Proofs.Ytkedkajdiclmjaa.V.K
