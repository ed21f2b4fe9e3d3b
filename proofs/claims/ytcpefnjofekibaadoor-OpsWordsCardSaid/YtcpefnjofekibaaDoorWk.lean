/- Word: Name as the program has it. -/
import Derived.Test.YtcpefnjofekibaaDoorWj
namespace Go.Proofs.YtcpefnjofekibaaDoor
open Go.RowKit
set_option linter.unusedVariables false
set_option linter.unusedSimpArgs false
set_option maxRecDepth 8000

theorem nameB_cons (b : UInt8) (r : List UInt8) (h : 97 ≤ b.toNat) : nameB (b :: r) = ((b :: r).all ldB && decide ((b :: r).length ≤ 8) && !keyB (b :: r) && decide (regB (b :: r) < 0)) := by
  have : headB (b :: r) = (b :: r).all ldB := by
    simp only [headB, List.all_cons]
    congr 1
    rw [Bool.eq_iff_iff]
    simp only [ldB, letB, Bool.or_eq_true, Bool.and_eq_true, decide_eq_true_eq]
    omega
  unfold nameB
  rw [this]

theorem nameB_low (b : UInt8) (r : List UInt8) (h : b.toNat < 97) : nameB (b :: r) = false := by
  have : letB b = false := by
    simp only [letB, Bool.and_eq_false_iff, decide_eq_false_iff_not]; omega
  simp [nameB, headB, this]

theorem namePr (s : List UInt8) : HFn Tryd.prog 33 [.v (str s)] (.v (.bool (nameB s))) := by
  refine HCalls_body (fn := Tryd.f33) 27 [2] (by kernel_rfl) rfl (by kernel_rfl) (HW.run 200 (by kernel_rfl) ?_)
  by_cases h0 : s = []
  · subst h0
    simp (config := { decide := true }) only [go_sem, Nat.reduceAdd, Nat.reduceSub, Nat.reduceMul, Nat.reduceBEq, reduceIte, reduceCtorEq]
    rfl
  · by_cases h8 : (8 : Int) < s.length
    · simp (config := { decide := true }) only [go_sem, Nat.reduceAdd, Nat.reduceSub, Nat.reduceMul, Nat.reduceBEq, reduceIte, reduceCtorEq, h0, h8]
      have : decide (s.length ≤ 8) = false := by rw [decide_eq_false_iff_not]; omega
      simp [nameB, this]
    · have h8' : decide (s.length ≤ 8) = true := by rw [decide_eq_true_eq]; omega
      simp (config := { decide := true }) only [go_sem, Nat.reduceAdd, Nat.reduceSub, Nat.reduceMul, Nat.reduceBEq, reduceIte, reduceCtorEq, h0, h8]
      refine callX_fn 3 (key s) (by simp only [go_sem]) rfl ?_
      cases hk : keyB s with
      | true =>
        simp (config := { decide := true }) only [go_sem, Nat.reduceAdd, Nat.reduceSub, Nat.reduceMul, Nat.reduceBEq, reduceIte, reduceCtorEq, h0, h8]
        simp [nameB, hk]
      | false =>
        simp (config := { decide := true }) only [go_sem, Nat.reduceAdd, Nat.reduceSub, Nat.reduceMul, Nat.reduceBEq, reduceIte, reduceCtorEq, h0, h8]
        refine callX_fn 3 (reg s) (by simp only [go_sem]) rfl ?_
        by_cases hr : 0 ≤ regB s
        · simp (config := { decide := true }) only [go_sem, Nat.reduceAdd, Nat.reduceSub, Nat.reduceMul, Nat.reduceBEq, reduceIte, reduceCtorEq, h0, h8, hr]
          have : decide (regB s < 0) = false := by rw [decide_eq_false_iff_not]; omega
          simp [nameB, this]
        · have hr' : decide (regB s < 0) = true := by rw [decide_eq_true_eq]; omega
          obtain ⟨b, r, rfl⟩ : ∃ b r, s = b :: r := by cases s with | nil => exact absurd rfl h0 | cons b r => exact ⟨b, r, rfl⟩
          by_cases hb : (b.toNat : Int) < 97
          · simp (config := { decide := true }) only [go_sem, Nat.reduceAdd, Nat.reduceSub, Nat.reduceMul, Nat.reduceBEq, reduceIte, reduceCtorEq, h0, h8, hr, hb, Int.toNat_zero]
            rw [nameB_low b r (by omega)]
          · simp (config := { decide := true }) only [go_sem, Nat.reduceAdd, Nat.reduceSub, Nat.reduceMul, Nat.reduceBEq, reduceIte, reduceCtorEq, h0, h8, hr, hb, Int.toNat_zero]
            refine callX_fn 3 (stringsContains (b :: r)) (by simp only [go_sem]) rfl ?_
            simp (config := { decide := true }) only [go_sem, Nat.reduceAdd, Nat.reduceSub, Nat.reduceMul, Nat.reduceBEq, reduceIte, reduceCtorEq, h0, h8, hr, hb]
            rw [nameB_cons b r (by omega), h8', hk, hr']
            simp
end Go.Proofs.YtcpefnjofekibaaDoor
