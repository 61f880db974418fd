/- Turned by a program of this session (tabturn.py) out of XTu: the table of slices of whole numbers; no condition. -/
import Derived.Test.YtkedkajdiclmjaaKp
namespace Go.Proofs.Ytkedkajdiclmjaa.V.K
open Go Go.Proofs.Ytkedkajdiclmjaa.V
set_option linter.unusedVariables false
set_option linter.unusedSimpArgs false
theorem allL_len {T : Tb Sl} (t : TOk T) : (allL T).length = T.count := by
  unfold allL
  rw [List.length_map, sortT_len, List.length_map, tk_len t]
end Go.Proofs.Ytkedkajdiclmjaa.V.K
