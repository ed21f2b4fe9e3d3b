/- Word: the first functions. -/
import Derived.Test.YtcpefnjofekibaaDoorHiT
import Derived.Test.YtcpefnjofekibaaDoorTy
import Derived.Test.YtcpefnjofekibaaDoorWp
namespace Go.Proofs.YtcpefnjofekibaaDoor
open Go.RowKit
set_option linter.unusedVariables false
set_option maxRecDepth 8000
set_option linter.unusedSimpArgs false

theorem regName (n : Int) : HFn Tryd.prog 46 [.v (.int .i64 n)] (.v (str (regNm n))) := by
  refine HCalls_body (fn := Tryd.f46) 13 [2] (by kernel_rfl) rfl (by kernel_rfl) (HW.run 200 (by kernel_rfl) ?_)
  rcases (by omega : n < 0 ∨ 4 ≤ n ∨ n = 0 ∨ n = 1 ∨ n = 2 ∨ n = 3) with h | h | rfl | rfl | rfl | rfl
  · simp (config := { decide := true }) only [go_sem, Nat.reduceAdd, Nat.reduceSub, Nat.reduceMul, Nat.reduceBEq, reduceIte, reduceCtorEq, h, regNm_out (.inl h)]
  · have h' : ¬ n < 0 := by omega
    simp (config := { decide := true }) only [go_sem, Nat.reduceAdd, Nat.reduceSub, Nat.reduceMul, Nat.reduceBEq, reduceIte, reduceCtorEq, h, h', regNm_out (.inr h)]
  all_goals simp (config := { decide := true }) only [go_sem, Nat.reduceAdd, Nat.reduceSub, Nat.reduceMul, Nat.reduceBEq, reduceIte, reduceCtorEq, regNm, Int.reduceToNat]
  

theorem refRegName (n : Int) : HFn Tryd.prog 50 [.v (.int .i64 n)] (.v (str (regNm n))) := by
  refine HCalls_body (fn := Tryd.f50) 16 [2] (by kernel_rfl) rfl (by kernel_rfl) (HW.run 200 (by kernel_rfl) ?_)
  rcases (by omega : n < 0 ∨ 4 ≤ n ∨ n = 0 ∨ n = 1 ∨ n = 2 ∨ n = 3) with h | h | rfl | rfl | rfl | rfl
  · simp (config := { decide := true }) only [go_sem, Nat.reduceAdd, Nat.reduceSub, Nat.reduceMul, Nat.reduceBEq, reduceIte, reduceCtorEq, h, regNm_out (.inl h)]
  · have h' : ¬ n < 0 := by omega
    simp (config := { decide := true }) only [go_sem, Nat.reduceAdd, Nat.reduceSub, Nat.reduceMul, Nat.reduceBEq, reduceIte, reduceCtorEq, h, h', regNm_out (.inr h)]
  all_goals
    simp (config := { decide := true }) only [go_sem, Nat.reduceAdd, Nat.reduceSub, Nat.reduceMul, Nat.reduceBEq, reduceIte, reduceCtorEq]
    simp (disch := omega) only [w64, w8]
    rfl
end Go.Proofs.YtcpefnjofekibaaDoor
