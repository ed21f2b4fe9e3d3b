/- Word: Same, cut. -/
import Derived.Test.YtcpefnjofekibaaDoorWa
namespace Go.Proofs.YtcpefnjofekibaaDoor
open Go.RowKit
set_option linter.unusedVariables false
set_option maxRecDepth 8000
set_option linter.unusedSimpArgs false

theorem follows : Tryd.prog.follows .mixedOrders = true := by kernel_rfl

theorem vb {a b : Bool} (h : a = b) : HV.v (.bool a) = HV.v (.bool b) := by rw [h]

theorem refSame (a b : List (List UInt8)) (ha : a.length ≤ 1000000) : HFn Tryd.prog 18 [.sl (strs a), .sl (strs b)] (.v (.bool (decide (a = b)))) := by
  refine HCalls_body (fn := Tryd.f18) 26 [4] (by kernel_rfl) rfl (by kernel_rfl) (HW.run 200 (by kernel_rfl) ?_)
  simp (config := { decide := true }) only [go_sem, Nat.reduceAdd, Nat.reduceSub, Nat.reduceMul, Nat.reduceBEq, reduceIte, reduceCtorEq]
  refine ⟨fun h => ?_, fun h => ?_⟩
  · refine vb ?_
    simp only [false_eq_decide_iff]
    rintro rfl
    exact h rfl
  · have hl : a.length = b.length := by omega
    refine HW.loopG (fun k T H => ∃ i : Nat, k = a.length - i ∧ i ≤ a.length ∧ a.take i = b.take i ∧ T 0 = .sl (strs a) ∧ T 1 = .sl (strs b) ∧ T 5 = .v (.int .i64 i) ∧ H = []) a.length ⟨_, _, Ghost.refl, 0, by simp, by omega, rfl, ?_, ?_, ?_, rfl⟩ ?_
    · simp (config := { decide := true }) only [go_sem, Nat.reduceBEq, reduceIte]
    · simp (config := { decide := true }) only [go_sem, Nat.reduceBEq, reduceIte]
    · simp (config := { decide := true }) only [go_sem, Nat.reduceBEq, reduceIte]; rfl
    · rintro k T H ⟨i, rfl, hi, heq, h0, h1, h5, rfl⟩
      refine HW.run 200 (by kernel_rfl) ?_
      simp (config := { decide := true }) only [go_sem, Nat.reduceAdd, Nat.reduceSub, Nat.reduceMul, Nat.reduceBEq, reduceIte, reduceCtorEq, h0, h1, h5]
      refine ⟨fun hlt => ?_, fun hge => ?_⟩
      · have hlt' : i < a.length := by omega
        have hlt2 : i < b.length := by omega
        have hx : a[i]? = some a[i] := by simp [hlt']
        have hy : b[i]? = some b[i] := by simp [hlt2]
        refine HW.quiet 60 follows (by kernel_rfl) ?_
        simp (config := { decide := true }) only [go_sem, Nat.reduceAdd, Nat.reduceSub, Nat.reduceMul, Nat.reduceBEq, reduceIte, reduceCtorEq, h0, h1, h5, hx, hy]
        refine ⟨by omega, by omega, fun hne => ?_, fun he => ?_⟩
        · refine vb ?_
          simp only [false_eq_decide_iff]
          rintro rfl
          exact hne rfl
        · refine ⟨_, _, Ghost.refl, a.length - (i + 1), by omega, i + 1, rfl, by omega, ?_, ?_, ?_, ?_, rfl⟩
          · rw [List.take_add_one, List.take_add_one, heq, hx, hy, he]
          · simp (config := { decide := true }) only [go_sem, Nat.reduceBEq, reduceIte, h0]
          · simp (config := { decide := true }) only [go_sem, Nat.reduceBEq, reduceIte, h1]
          · simp (config := { decide := true }) only [go_sem, Nat.reduceBEq, reduceIte]
            rw [w64 (by omega) (by omega)]; rfl
      · refine vb ?_
        have : i = a.length := by omega
        subst this
        rw [List.take_length, hl, List.take_length] at heq
        simp [heq]
end Go.Proofs.YtcpefnjofekibaaDoor
