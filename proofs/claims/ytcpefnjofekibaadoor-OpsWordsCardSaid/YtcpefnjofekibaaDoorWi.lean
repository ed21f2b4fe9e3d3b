/- Word: Words as the program has them. -/
import Derived.Test.YtcpefnjofekibaaDoorWh
import Derived.Test.YtcpefnjofekibaaDoorHiX
namespace Go.Proofs.YtcpefnjofekibaaDoor
open Go.RowKit
set_option linter.unusedVariables false
set_option linter.unusedSimpArgs false
set_option maxRecDepth 8000

theorem wordsB_nil : wordsB [] = [] := by decide

theorem wordsB_step {s : List UInt8} (hs : s ≠ []) : wordsB s = (if (Lib.cut s [32]).1 = [] then [] else [(Lib.cut s [32]).1]) ++ wordsB (Lib.cut s [32]).2.1 ∧ (Lib.cut s [32]).2.1.length < s.length := by
  rcases cut1 32 s with ⟨p, r, rfl, h1, h2⟩ | ⟨h1, h2⟩
  · rw [h2]
    refine ⟨?_, by simp; omega⟩
    unfold wordsB
    rw [cutB_sep h1]
    by_cases hp : p = []
    · simp [hp]
    · simp [hp]
  · rw [h2]
    refine ⟨?_, by simpa using List.length_pos_iff.2 hs⟩
    unfold wordsB
    rw [cutB_plain h1]
    simp [cutB, hs]

end Go.Proofs.YtcpefnjofekibaaDoor
