/- Ops: the law on what a line has not. (Printed by tools/pg.py.) -/
import Derived.Test.YtcpefnjofekibaaDoorPe
namespace Go.Proofs.YtcpefnjofekibaaDoor
open Go.RowKit
set_option linter.unusedVariables false
set_option linter.unusedSimpArgs false
set_option maxRecDepth 8000

theorem zero_reg {op : Int} {loc lab s : List UInt8} {n : Int} (h : rightB op [] loc lab n = true) (hs : s ≠ []) : rightB op s loc lab n = false := by
  cases hr : hasReg op <;> simp_all [rightB, rb, reg_nil]
theorem zero_loc {op : Int} {rg lab s : List UInt8} {n : Int} (h : rightB op rg [] lab n = true) (hs : s ≠ []) : rightB op rg s lab n = false := by
  cases hr : hasLoc op <;> simp_all [rightB, rb, name_nil]
theorem zero_lab {op : Int} {rg loc s : List UInt8} {n : Int} (h : rightB op rg loc [] n = true) (hs : s ≠ []) : rightB op rg loc s n = false := by
  cases hr : hasLab op <;> simp_all [rightB, rb, name_nil]
theorem zero_n {op : Int} {rg loc lab : List UInt8} {n m : Int} (h : rightB op rg loc lab n = true) (hm : m ≠ 0) : rightB op rg loc lab m = hasN op := by
  cases hr : hasN op <;> simp_all [rightB, rb]
theorem zero_op {op : Int} {rg loc lab : List UInt8} {n : Int} (h : ¬ (1 ≤ op ∧ op ≤ 11)) : rightB op rg loc lab n = false := by
  cases hb : rightB op rg loc lab n with
  | false => rfl
  | true => exact absurd (rightB_op hb) h

set_option maxHeartbeats 16000000 in
theorem opsZero_law (op : Int) (rg loc lab : List UInt8) (n : Int) (s : List UInt8) (m op' : Int) :
    HFn Tryd.prog 7 [lineV op rg loc lab n, .v (str s), .v (.int .i64 m), .v (.int .i64 op')] (.v (.bool true)) := by
  have e : ∀ s : List UInt8, ((1000 : Int) < (s.length : Int)) = (1000 < s.length) := fun s => int_gt s.length 1000
  refine HCalls_body (fn := Tryd.f7) 111 [8] (by kernel_rfl) rfl (by kernel_rfl) (HW.run 400 (by kernel_rfl) ?_)
  simp (config := { decide := true }) only [go_sem, Int.reduceToNat, Nat.reduceAdd, Nat.reduceSub, Nat.reduceMul, Nat.reduceBEq, reduceIte, reduceCtorEq]
  refine callX_fn 3 (headPr) (by simp only [go_sem]) rfl ?_
  simp (config := { decide := true }) only [go_sem, Int.reduceToNat, Nat.reduceAdd, Nat.reduceSub, Nat.reduceMul, Nat.reduceBEq, reduceIte, reduceCtorEq]
  refine callX_fn 3 (greatLine op rg loc lab n) (by simp only [go_sem]) rfl ?_
  cases b1 : bigL rg loc lab with
  | true => simp (config := { decide := true }) only [go_sem, Int.reduceToNat, Nat.reduceAdd, Nat.reduceSub, Nat.reduceMul, Nat.reduceBEq, reduceIte, reduceCtorEq, b1]
  | false =>
    by_cases b2 : 1000 < s.length
    · simp (config := { decide := true }) only [go_sem, Int.reduceToNat, Nat.reduceAdd, Nat.reduceSub, Nat.reduceMul, Nat.reduceBEq, reduceIte, reduceCtorEq, b1, e, b2]
    · by_cases b3 : s = []
      · subst b3; simp (config := { decide := true }) only [go_sem, Int.reduceToNat, Nat.reduceAdd, Nat.reduceSub, Nat.reduceMul, Nat.reduceBEq, reduceIte, reduceCtorEq, b1, e, b2]
      · by_cases b4 : m = 0
        · subst b4; simp (config := { decide := true }) only [go_sem, Int.reduceToNat, Nat.reduceAdd, Nat.reduceSub, Nat.reduceMul, Nat.reduceBEq, reduceIte, reduceCtorEq, b1, e, b2, b3]
        · simp (config := { decide := true }) only [go_sem, Int.reduceToNat, Nat.reduceAdd, Nat.reduceSub, Nat.reduceMul, Nat.reduceBEq, reduceIte, reduceCtorEq, b1, e, b2, b3, b4]
          refine callX_fn 3 (opsRight op rg loc lab n) (by simp only [go_sem]) rfl ?_
          cases ha : rightB op rg loc lab n with
          | false => simp (config := { decide := true }) only [go_sem, Int.reduceToNat, Nat.reduceAdd, Nat.reduceSub, Nat.reduceMul, Nat.reduceBEq, reduceIte, reduceCtorEq, ha]
          | true =>
            by_cases g0 : rg = []
            · simp (config := { decide := true }) only [go_sem, Int.reduceToNat, Nat.reduceAdd, Nat.reduceSub, Nat.reduceMul, Nat.reduceBEq, reduceIte, reduceCtorEq, ha, eq_true g0]
              refine callX_fn 3 (right_at op s loc lab n false (zero_reg (by rw [← g0]; exact ha) b3)) (by simp only [go_sem]) rfl ?_
              by_cases g1 : loc = []
              · simp (config := { decide := true }) only [go_sem, Int.reduceToNat, Nat.reduceAdd, Nat.reduceSub, Nat.reduceMul, Nat.reduceBEq, reduceIte, reduceCtorEq, eq_true g1]
                refine callX_fn 3 (right_at op rg s lab n false (zero_loc (by rw [← g1]; exact ha) b3)) (by simp only [go_sem]) rfl ?_
                by_cases g2 : lab = []
                · simp (config := { decide := true }) only [go_sem, Int.reduceToNat, Nat.reduceAdd, Nat.reduceSub, Nat.reduceMul, Nat.reduceBEq, reduceIte, reduceCtorEq, eq_true g2]
                  refine callX_fn 3 (right_at op rg loc s n false (zero_lab (by rw [← g2]; exact ha) b3)) (by simp only [go_sem]) rfl ?_
                  by_cases o0 : op = 1
                  · have hN : hasN op = true := by rw [o0]; decide
                    simp (config := { decide := true }) only [go_sem, Int.reduceToNat, Nat.reduceAdd, Nat.reduceSub, Nat.reduceMul, Nat.reduceBEq, reduceIte, reduceCtorEq, eq_true o0]
                    refine callX_fn 3 (right_at op rg loc lab m true (by rw [zero_n ha b4, hN])) (by simp only [go_sem]) rfl ?_
                    by_cases p1 : (1 : Int) ≤ op'
                    · by_cases p2 : op' ≤ (11 : Int)
                      · simp (config := { decide := true }) only [go_sem, Int.reduceToNat, Nat.reduceAdd, Nat.reduceSub, Nat.reduceMul, Nat.reduceBEq, reduceIte, reduceCtorEq, p1, p2]
                      · simp (config := { decide := true }) only [go_sem, Int.reduceToNat, Nat.reduceAdd, Nat.reduceSub, Nat.reduceMul, Nat.reduceBEq, reduceIte, reduceCtorEq, p1, p2]
                        refine callX_fn 3 (right_at op' rg loc lab n false (zero_op (by omega))) (by simp only [go_sem]) rfl ?_
                        simp (config := { decide := true }) only [go_sem, Int.reduceToNat, Nat.reduceAdd, Nat.reduceSub, Nat.reduceMul, Nat.reduceBEq, reduceIte, reduceCtorEq]
                    · simp (config := { decide := true }) only [go_sem, Int.reduceToNat, Nat.reduceAdd, Nat.reduceSub, Nat.reduceMul, Nat.reduceBEq, reduceIte, reduceCtorEq, p1]
                      refine callX_fn 3 (right_at op' rg loc lab n false (zero_op (by omega))) (by simp only [go_sem]) rfl ?_
                      simp (config := { decide := true }) only [go_sem, Int.reduceToNat, Nat.reduceAdd, Nat.reduceSub, Nat.reduceMul, Nat.reduceBEq, reduceIte, reduceCtorEq]
                  · skip
                    by_cases o1 : op = 4
                    · have hN : hasN op = true := by rw [o1]; decide
                      simp (config := { decide := true }) only [go_sem, Int.reduceToNat, Nat.reduceAdd, Nat.reduceSub, Nat.reduceMul, Nat.reduceBEq, reduceIte, reduceCtorEq, eq_false o0, eq_true o1]
                      refine callX_fn 3 (right_at op rg loc lab m true (by rw [zero_n ha b4, hN])) (by simp only [go_sem]) rfl ?_
                      by_cases p1 : (1 : Int) ≤ op'
                      · by_cases p2 : op' ≤ (11 : Int)
                        · simp (config := { decide := true }) only [go_sem, Int.reduceToNat, Nat.reduceAdd, Nat.reduceSub, Nat.reduceMul, Nat.reduceBEq, reduceIte, reduceCtorEq, p1, p2]
                        · simp (config := { decide := true }) only [go_sem, Int.reduceToNat, Nat.reduceAdd, Nat.reduceSub, Nat.reduceMul, Nat.reduceBEq, reduceIte, reduceCtorEq, p1, p2]
                          refine callX_fn 3 (right_at op' rg loc lab n false (zero_op (by omega))) (by simp only [go_sem]) rfl ?_
                          simp (config := { decide := true }) only [go_sem, Int.reduceToNat, Nat.reduceAdd, Nat.reduceSub, Nat.reduceMul, Nat.reduceBEq, reduceIte, reduceCtorEq]
                      · simp (config := { decide := true }) only [go_sem, Int.reduceToNat, Nat.reduceAdd, Nat.reduceSub, Nat.reduceMul, Nat.reduceBEq, reduceIte, reduceCtorEq, p1]
                        refine callX_fn 3 (right_at op' rg loc lab n false (zero_op (by omega))) (by simp only [go_sem]) rfl ?_
                        simp (config := { decide := true }) only [go_sem, Int.reduceToNat, Nat.reduceAdd, Nat.reduceSub, Nat.reduceMul, Nat.reduceBEq, reduceIte, reduceCtorEq]
                    · skip
                      by_cases o2 : op = 7
                      · have hN : hasN op = true := by rw [o2]; decide
                        simp (config := { decide := true }) only [go_sem, Int.reduceToNat, Nat.reduceAdd, Nat.reduceSub, Nat.reduceMul, Nat.reduceBEq, reduceIte, reduceCtorEq, eq_false o0, eq_false o1, eq_true o2]
                        refine callX_fn 3 (right_at op rg loc lab m true (by rw [zero_n ha b4, hN])) (by simp only [go_sem]) rfl ?_
                        by_cases p1 : (1 : Int) ≤ op'
                        · by_cases p2 : op' ≤ (11 : Int)
                          · simp (config := { decide := true }) only [go_sem, Int.reduceToNat, Nat.reduceAdd, Nat.reduceSub, Nat.reduceMul, Nat.reduceBEq, reduceIte, reduceCtorEq, p1, p2]
                          · simp (config := { decide := true }) only [go_sem, Int.reduceToNat, Nat.reduceAdd, Nat.reduceSub, Nat.reduceMul, Nat.reduceBEq, reduceIte, reduceCtorEq, p1, p2]
                            refine callX_fn 3 (right_at op' rg loc lab n false (zero_op (by omega))) (by simp only [go_sem]) rfl ?_
                            simp (config := { decide := true }) only [go_sem, Int.reduceToNat, Nat.reduceAdd, Nat.reduceSub, Nat.reduceMul, Nat.reduceBEq, reduceIte, reduceCtorEq]
                        · simp (config := { decide := true }) only [go_sem, Int.reduceToNat, Nat.reduceAdd, Nat.reduceSub, Nat.reduceMul, Nat.reduceBEq, reduceIte, reduceCtorEq, p1]
                          refine callX_fn 3 (right_at op' rg loc lab n false (zero_op (by omega))) (by simp only [go_sem]) rfl ?_
                          simp (config := { decide := true }) only [go_sem, Int.reduceToNat, Nat.reduceAdd, Nat.reduceSub, Nat.reduceMul, Nat.reduceBEq, reduceIte, reduceCtorEq]
                      · have hN : hasN op = false := by simp [hasN, o0, o1, o2]
                        simp (config := { decide := true }) only [go_sem, Int.reduceToNat, Nat.reduceAdd, Nat.reduceSub, Nat.reduceMul, Nat.reduceBEq, reduceIte, reduceCtorEq, eq_false o0, eq_false o1, eq_false o2]
                        refine callX_fn 3 (right_at op rg loc lab m false (by rw [zero_n ha b4, hN])) (by simp only [go_sem]) rfl ?_
                        by_cases p1 : (1 : Int) ≤ op'
                        · by_cases p2 : op' ≤ (11 : Int)
                          · simp (config := { decide := true }) only [go_sem, Int.reduceToNat, Nat.reduceAdd, Nat.reduceSub, Nat.reduceMul, Nat.reduceBEq, reduceIte, reduceCtorEq, p1, p2]
                          · simp (config := { decide := true }) only [go_sem, Int.reduceToNat, Nat.reduceAdd, Nat.reduceSub, Nat.reduceMul, Nat.reduceBEq, reduceIte, reduceCtorEq, p1, p2]
                            refine callX_fn 3 (right_at op' rg loc lab n false (zero_op (by omega))) (by simp only [go_sem]) rfl ?_
                            simp (config := { decide := true }) only [go_sem, Int.reduceToNat, Nat.reduceAdd, Nat.reduceSub, Nat.reduceMul, Nat.reduceBEq, reduceIte, reduceCtorEq]
                        · simp (config := { decide := true }) only [go_sem, Int.reduceToNat, Nat.reduceAdd, Nat.reduceSub, Nat.reduceMul, Nat.reduceBEq, reduceIte, reduceCtorEq, p1]
                          refine callX_fn 3 (right_at op' rg loc lab n false (zero_op (by omega))) (by simp only [go_sem]) rfl ?_
                          simp (config := { decide := true }) only [go_sem, Int.reduceToNat, Nat.reduceAdd, Nat.reduceSub, Nat.reduceMul, Nat.reduceBEq, reduceIte, reduceCtorEq]
                · simp (config := { decide := true }) only [go_sem, Int.reduceToNat, Nat.reduceAdd, Nat.reduceSub, Nat.reduceMul, Nat.reduceBEq, reduceIte, reduceCtorEq, g2]
                  by_cases o0 : op = 1
                  · have hN : hasN op = true := by rw [o0]; decide
                    simp (config := { decide := true }) only [go_sem, Int.reduceToNat, Nat.reduceAdd, Nat.reduceSub, Nat.reduceMul, Nat.reduceBEq, reduceIte, reduceCtorEq, eq_true o0]
                    refine callX_fn 3 (right_at op rg loc lab m true (by rw [zero_n ha b4, hN])) (by simp only [go_sem]) rfl ?_
                    by_cases p1 : (1 : Int) ≤ op'
                    · by_cases p2 : op' ≤ (11 : Int)
                      · simp (config := { decide := true }) only [go_sem, Int.reduceToNat, Nat.reduceAdd, Nat.reduceSub, Nat.reduceMul, Nat.reduceBEq, reduceIte, reduceCtorEq, p1, p2]
                      · simp (config := { decide := true }) only [go_sem, Int.reduceToNat, Nat.reduceAdd, Nat.reduceSub, Nat.reduceMul, Nat.reduceBEq, reduceIte, reduceCtorEq, p1, p2]
                        refine callX_fn 3 (right_at op' rg loc lab n false (zero_op (by omega))) (by simp only [go_sem]) rfl ?_
                        simp (config := { decide := true }) only [go_sem, Int.reduceToNat, Nat.reduceAdd, Nat.reduceSub, Nat.reduceMul, Nat.reduceBEq, reduceIte, reduceCtorEq]
                    · simp (config := { decide := true }) only [go_sem, Int.reduceToNat, Nat.reduceAdd, Nat.reduceSub, Nat.reduceMul, Nat.reduceBEq, reduceIte, reduceCtorEq, p1]
                      refine callX_fn 3 (right_at op' rg loc lab n false (zero_op (by omega))) (by simp only [go_sem]) rfl ?_
                      simp (config := { decide := true }) only [go_sem, Int.reduceToNat, Nat.reduceAdd, Nat.reduceSub, Nat.reduceMul, Nat.reduceBEq, reduceIte, reduceCtorEq]
                  · skip
                    by_cases o1 : op = 4
                    · have hN : hasN op = true := by rw [o1]; decide
                      simp (config := { decide := true }) only [go_sem, Int.reduceToNat, Nat.reduceAdd, Nat.reduceSub, Nat.reduceMul, Nat.reduceBEq, reduceIte, reduceCtorEq, eq_false o0, eq_true o1]
                      refine callX_fn 3 (right_at op rg loc lab m true (by rw [zero_n ha b4, hN])) (by simp only [go_sem]) rfl ?_
                      by_cases p1 : (1 : Int) ≤ op'
                      · by_cases p2 : op' ≤ (11 : Int)
                        · simp (config := { decide := true }) only [go_sem, Int.reduceToNat, Nat.reduceAdd, Nat.reduceSub, Nat.reduceMul, Nat.reduceBEq, reduceIte, reduceCtorEq, p1, p2]
                        · simp (config := { decide := true }) only [go_sem, Int.reduceToNat, Nat.reduceAdd, Nat.reduceSub, Nat.reduceMul, Nat.reduceBEq, reduceIte, reduceCtorEq, p1, p2]
                          refine callX_fn 3 (right_at op' rg loc lab n false (zero_op (by omega))) (by simp only [go_sem]) rfl ?_
                          simp (config := { decide := true }) only [go_sem, Int.reduceToNat, Nat.reduceAdd, Nat.reduceSub, Nat.reduceMul, Nat.reduceBEq, reduceIte, reduceCtorEq]
                      · simp (config := { decide := true }) only [go_sem, Int.reduceToNat, Nat.reduceAdd, Nat.reduceSub, Nat.reduceMul, Nat.reduceBEq, reduceIte, reduceCtorEq, p1]
                        refine callX_fn 3 (right_at op' rg loc lab n false (zero_op (by omega))) (by simp only [go_sem]) rfl ?_
                        simp (config := { decide := true }) only [go_sem, Int.reduceToNat, Nat.reduceAdd, Nat.reduceSub, Nat.reduceMul, Nat.reduceBEq, reduceIte, reduceCtorEq]
                    · skip
                      by_cases o2 : op = 7
                      · have hN : hasN op = true := by rw [o2]; decide
                        simp (config := { decide := true }) only [go_sem, Int.reduceToNat, Nat.reduceAdd, Nat.reduceSub, Nat.reduceMul, Nat.reduceBEq, reduceIte, reduceCtorEq, eq_false o0, eq_false o1, eq_true o2]
                        refine callX_fn 3 (right_at op rg loc lab m true (by rw [zero_n ha b4, hN])) (by simp only [go_sem]) rfl ?_
                        by_cases p1 : (1 : Int) ≤ op'
                        · by_cases p2 : op' ≤ (11 : Int)
                          · simp (config := { decide := true }) only [go_sem, Int.reduceToNat, Nat.reduceAdd, Nat.reduceSub, Nat.reduceMul, Nat.reduceBEq, reduceIte, reduceCtorEq, p1, p2]
                          · simp (config := { decide := true }) only [go_sem, Int.reduceToNat, Nat.reduceAdd, Nat.reduceSub, Nat.reduceMul, Nat.reduceBEq, reduceIte, reduceCtorEq, p1, p2]
                            refine callX_fn 3 (right_at op' rg loc lab n false (zero_op (by omega))) (by simp only [go_sem]) rfl ?_
                            simp (config := { decide := true }) only [go_sem, Int.reduceToNat, Nat.reduceAdd, Nat.reduceSub, Nat.reduceMul, Nat.reduceBEq, reduceIte, reduceCtorEq]
                        · simp (config := { decide := true }) only [go_sem, Int.reduceToNat, Nat.reduceAdd, Nat.reduceSub, Nat.reduceMul, Nat.reduceBEq, reduceIte, reduceCtorEq, p1]
                          refine callX_fn 3 (right_at op' rg loc lab n false (zero_op (by omega))) (by simp only [go_sem]) rfl ?_
                          simp (config := { decide := true }) only [go_sem, Int.reduceToNat, Nat.reduceAdd, Nat.reduceSub, Nat.reduceMul, Nat.reduceBEq, reduceIte, reduceCtorEq]
                      · have hN : hasN op = false := by simp [hasN, o0, o1, o2]
                        simp (config := { decide := true }) only [go_sem, Int.reduceToNat, Nat.reduceAdd, Nat.reduceSub, Nat.reduceMul, Nat.reduceBEq, reduceIte, reduceCtorEq, eq_false o0, eq_false o1, eq_false o2]
                        refine callX_fn 3 (right_at op rg loc lab m false (by rw [zero_n ha b4, hN])) (by simp only [go_sem]) rfl ?_
                        by_cases p1 : (1 : Int) ≤ op'
                        · by_cases p2 : op' ≤ (11 : Int)
                          · simp (config := { decide := true }) only [go_sem, Int.reduceToNat, Nat.reduceAdd, Nat.reduceSub, Nat.reduceMul, Nat.reduceBEq, reduceIte, reduceCtorEq, p1, p2]
                          · simp (config := { decide := true }) only [go_sem, Int.reduceToNat, Nat.reduceAdd, Nat.reduceSub, Nat.reduceMul, Nat.reduceBEq, reduceIte, reduceCtorEq, p1, p2]
                            refine callX_fn 3 (right_at op' rg loc lab n false (zero_op (by omega))) (by simp only [go_sem]) rfl ?_
                            simp (config := { decide := true }) only [go_sem, Int.reduceToNat, Nat.reduceAdd, Nat.reduceSub, Nat.reduceMul, Nat.reduceBEq, reduceIte, reduceCtorEq]
                        · simp (config := { decide := true }) only [go_sem, Int.reduceToNat, Nat.reduceAdd, Nat.reduceSub, Nat.reduceMul, Nat.reduceBEq, reduceIte, reduceCtorEq, p1]
                          refine callX_fn 3 (right_at op' rg loc lab n false (zero_op (by omega))) (by simp only [go_sem]) rfl ?_
                          simp (config := { decide := true }) only [go_sem, Int.reduceToNat, Nat.reduceAdd, Nat.reduceSub, Nat.reduceMul, Nat.reduceBEq, reduceIte, reduceCtorEq]
              · simp (config := { decide := true }) only [go_sem, Int.reduceToNat, Nat.reduceAdd, Nat.reduceSub, Nat.reduceMul, Nat.reduceBEq, reduceIte, reduceCtorEq, g1]
                by_cases g2 : lab = []
                · simp (config := { decide := true }) only [go_sem, Int.reduceToNat, Nat.reduceAdd, Nat.reduceSub, Nat.reduceMul, Nat.reduceBEq, reduceIte, reduceCtorEq, eq_true g2]
                  refine callX_fn 3 (right_at op rg loc s n false (zero_lab (by rw [← g2]; exact ha) b3)) (by simp only [go_sem]) rfl ?_
                  by_cases o0 : op = 1
                  · have hN : hasN op = true := by rw [o0]; decide
                    simp (config := { decide := true }) only [go_sem, Int.reduceToNat, Nat.reduceAdd, Nat.reduceSub, Nat.reduceMul, Nat.reduceBEq, reduceIte, reduceCtorEq, eq_true o0]
                    refine callX_fn 3 (right_at op rg loc lab m true (by rw [zero_n ha b4, hN])) (by simp only [go_sem]) rfl ?_
                    by_cases p1 : (1 : Int) ≤ op'
                    · by_cases p2 : op' ≤ (11 : Int)
                      · simp (config := { decide := true }) only [go_sem, Int.reduceToNat, Nat.reduceAdd, Nat.reduceSub, Nat.reduceMul, Nat.reduceBEq, reduceIte, reduceCtorEq, p1, p2]
                      · simp (config := { decide := true }) only [go_sem, Int.reduceToNat, Nat.reduceAdd, Nat.reduceSub, Nat.reduceMul, Nat.reduceBEq, reduceIte, reduceCtorEq, p1, p2]
                        refine callX_fn 3 (right_at op' rg loc lab n false (zero_op (by omega))) (by simp only [go_sem]) rfl ?_
                        simp (config := { decide := true }) only [go_sem, Int.reduceToNat, Nat.reduceAdd, Nat.reduceSub, Nat.reduceMul, Nat.reduceBEq, reduceIte, reduceCtorEq]
                    · simp (config := { decide := true }) only [go_sem, Int.reduceToNat, Nat.reduceAdd, Nat.reduceSub, Nat.reduceMul, Nat.reduceBEq, reduceIte, reduceCtorEq, p1]
                      refine callX_fn 3 (right_at op' rg loc lab n false (zero_op (by omega))) (by simp only [go_sem]) rfl ?_
                      simp (config := { decide := true }) only [go_sem, Int.reduceToNat, Nat.reduceAdd, Nat.reduceSub, Nat.reduceMul, Nat.reduceBEq, reduceIte, reduceCtorEq]
                  · skip
                    by_cases o1 : op = 4
                    · have hN : hasN op = true := by rw [o1]; decide
                      simp (config := { decide := true }) only [go_sem, Int.reduceToNat, Nat.reduceAdd, Nat.reduceSub, Nat.reduceMul, Nat.reduceBEq, reduceIte, reduceCtorEq, eq_false o0, eq_true o1]
                      refine callX_fn 3 (right_at op rg loc lab m true (by rw [zero_n ha b4, hN])) (by simp only [go_sem]) rfl ?_
                      by_cases p1 : (1 : Int) ≤ op'
                      · by_cases p2 : op' ≤ (11 : Int)
                        · simp (config := { decide := true }) only [go_sem, Int.reduceToNat, Nat.reduceAdd, Nat.reduceSub, Nat.reduceMul, Nat.reduceBEq, reduceIte, reduceCtorEq, p1, p2]
                        · simp (config := { decide := true }) only [go_sem, Int.reduceToNat, Nat.reduceAdd, Nat.reduceSub, Nat.reduceMul, Nat.reduceBEq, reduceIte, reduceCtorEq, p1, p2]
                          refine callX_fn 3 (right_at op' rg loc lab n false (zero_op (by omega))) (by simp only [go_sem]) rfl ?_
                          simp (config := { decide := true }) only [go_sem, Int.reduceToNat, Nat.reduceAdd, Nat.reduceSub, Nat.reduceMul, Nat.reduceBEq, reduceIte, reduceCtorEq]
                      · simp (config := { decide := true }) only [go_sem, Int.reduceToNat, Nat.reduceAdd, Nat.reduceSub, Nat.reduceMul, Nat.reduceBEq, reduceIte, reduceCtorEq, p1]
                        refine callX_fn 3 (right_at op' rg loc lab n false (zero_op (by omega))) (by simp only [go_sem]) rfl ?_
                        simp (config := { decide := true }) only [go_sem, Int.reduceToNat, Nat.reduceAdd, Nat.reduceSub, Nat.reduceMul, Nat.reduceBEq, reduceIte, reduceCtorEq]
                    · skip
                      by_cases o2 : op = 7
                      · have hN : hasN op = true := by rw [o2]; decide
                        simp (config := { decide := true }) only [go_sem, Int.reduceToNat, Nat.reduceAdd, Nat.reduceSub, Nat.reduceMul, Nat.reduceBEq, reduceIte, reduceCtorEq, eq_false o0, eq_false o1, eq_true o2]
                        refine callX_fn 3 (right_at op rg loc lab m true (by rw [zero_n ha b4, hN])) (by simp only [go_sem]) rfl ?_
                        by_cases p1 : (1 : Int) ≤ op'
                        · by_cases p2 : op' ≤ (11 : Int)
                          · simp (config := { decide := true }) only [go_sem, Int.reduceToNat, Nat.reduceAdd, Nat.reduceSub, Nat.reduceMul, Nat.reduceBEq, reduceIte, reduceCtorEq, p1, p2]
                          · simp (config := { decide := true }) only [go_sem, Int.reduceToNat, Nat.reduceAdd, Nat.reduceSub, Nat.reduceMul, Nat.reduceBEq, reduceIte, reduceCtorEq, p1, p2]
                            refine callX_fn 3 (right_at op' rg loc lab n false (zero_op (by omega))) (by simp only [go_sem]) rfl ?_
                            simp (config := { decide := true }) only [go_sem, Int.reduceToNat, Nat.reduceAdd, Nat.reduceSub, Nat.reduceMul, Nat.reduceBEq, reduceIte, reduceCtorEq]
                        · simp (config := { decide := true }) only [go_sem, Int.reduceToNat, Nat.reduceAdd, Nat.reduceSub, Nat.reduceMul, Nat.reduceBEq, reduceIte, reduceCtorEq, p1]
                          refine callX_fn 3 (right_at op' rg loc lab n false (zero_op (by omega))) (by simp only [go_sem]) rfl ?_
                          simp (config := { decide := true }) only [go_sem, Int.reduceToNat, Nat.reduceAdd, Nat.reduceSub, Nat.reduceMul, Nat.reduceBEq, reduceIte, reduceCtorEq]
                      · have hN : hasN op = false := by simp [hasN, o0, o1, o2]
                        simp (config := { decide := true }) only [go_sem, Int.reduceToNat, Nat.reduceAdd, Nat.reduceSub, Nat.reduceMul, Nat.reduceBEq, reduceIte, reduceCtorEq, eq_false o0, eq_false o1, eq_false o2]
                        refine callX_fn 3 (right_at op rg loc lab m false (by rw [zero_n ha b4, hN])) (by simp only [go_sem]) rfl ?_
                        by_cases p1 : (1 : Int) ≤ op'
                        · by_cases p2 : op' ≤ (11 : Int)
                          · simp (config := { decide := true }) only [go_sem, Int.reduceToNat, Nat.reduceAdd, Nat.reduceSub, Nat.reduceMul, Nat.reduceBEq, reduceIte, reduceCtorEq, p1, p2]
                          · simp (config := { decide := true }) only [go_sem, Int.reduceToNat, Nat.reduceAdd, Nat.reduceSub, Nat.reduceMul, Nat.reduceBEq, reduceIte, reduceCtorEq, p1, p2]
                            refine callX_fn 3 (right_at op' rg loc lab n false (zero_op (by omega))) (by simp only [go_sem]) rfl ?_
                            simp (config := { decide := true }) only [go_sem, Int.reduceToNat, Nat.reduceAdd, Nat.reduceSub, Nat.reduceMul, Nat.reduceBEq, reduceIte, reduceCtorEq]
                        · simp (config := { decide := true }) only [go_sem, Int.reduceToNat, Nat.reduceAdd, Nat.reduceSub, Nat.reduceMul, Nat.reduceBEq, reduceIte, reduceCtorEq, p1]
                          refine callX_fn 3 (right_at op' rg loc lab n false (zero_op (by omega))) (by simp only [go_sem]) rfl ?_
                          simp (config := { decide := true }) only [go_sem, Int.reduceToNat, Nat.reduceAdd, Nat.reduceSub, Nat.reduceMul, Nat.reduceBEq, reduceIte, reduceCtorEq]
                · simp (config := { decide := true }) only [go_sem, Int.reduceToNat, Nat.reduceAdd, Nat.reduceSub, Nat.reduceMul, Nat.reduceBEq, reduceIte, reduceCtorEq, g2]
                  by_cases o0 : op = 1
                  · have hN : hasN op = true := by rw [o0]; decide
                    simp (config := { decide := true }) only [go_sem, Int.reduceToNat, Nat.reduceAdd, Nat.reduceSub, Nat.reduceMul, Nat.reduceBEq, reduceIte, reduceCtorEq, eq_true o0]
                    refine callX_fn 3 (right_at op rg loc lab m true (by rw [zero_n ha b4, hN])) (by simp only [go_sem]) rfl ?_
                    by_cases p1 : (1 : Int) ≤ op'
                    · by_cases p2 : op' ≤ (11 : Int)
                      · simp (config := { decide := true }) only [go_sem, Int.reduceToNat, Nat.reduceAdd, Nat.reduceSub, Nat.reduceMul, Nat.reduceBEq, reduceIte, reduceCtorEq, p1, p2]
                      · simp (config := { decide := true }) only [go_sem, Int.reduceToNat, Nat.reduceAdd, Nat.reduceSub, Nat.reduceMul, Nat.reduceBEq, reduceIte, reduceCtorEq, p1, p2]
                        refine callX_fn 3 (right_at op' rg loc lab n false (zero_op (by omega))) (by simp only [go_sem]) rfl ?_
                        simp (config := { decide := true }) only [go_sem, Int.reduceToNat, Nat.reduceAdd, Nat.reduceSub, Nat.reduceMul, Nat.reduceBEq, reduceIte, reduceCtorEq]
                    · simp (config := { decide := true }) only [go_sem, Int.reduceToNat, Nat.reduceAdd, Nat.reduceSub, Nat.reduceMul, Nat.reduceBEq, reduceIte, reduceCtorEq, p1]
                      refine callX_fn 3 (right_at op' rg loc lab n false (zero_op (by omega))) (by simp only [go_sem]) rfl ?_
                      simp (config := { decide := true }) only [go_sem, Int.reduceToNat, Nat.reduceAdd, Nat.reduceSub, Nat.reduceMul, Nat.reduceBEq, reduceIte, reduceCtorEq]
                  · skip
                    by_cases o1 : op = 4
                    · have hN : hasN op = true := by rw [o1]; decide
                      simp (config := { decide := true }) only [go_sem, Int.reduceToNat, Nat.reduceAdd, Nat.reduceSub, Nat.reduceMul, Nat.reduceBEq, reduceIte, reduceCtorEq, eq_false o0, eq_true o1]
                      refine callX_fn 3 (right_at op rg loc lab m true (by rw [zero_n ha b4, hN])) (by simp only [go_sem]) rfl ?_
                      by_cases p1 : (1 : Int) ≤ op'
                      · by_cases p2 : op' ≤ (11 : Int)
                        · simp (config := { decide := true }) only [go_sem, Int.reduceToNat, Nat.reduceAdd, Nat.reduceSub, Nat.reduceMul, Nat.reduceBEq, reduceIte, reduceCtorEq, p1, p2]
                        · simp (config := { decide := true }) only [go_sem, Int.reduceToNat, Nat.reduceAdd, Nat.reduceSub, Nat.reduceMul, Nat.reduceBEq, reduceIte, reduceCtorEq, p1, p2]
                          refine callX_fn 3 (right_at op' rg loc lab n false (zero_op (by omega))) (by simp only [go_sem]) rfl ?_
                          simp (config := { decide := true }) only [go_sem, Int.reduceToNat, Nat.reduceAdd, Nat.reduceSub, Nat.reduceMul, Nat.reduceBEq, reduceIte, reduceCtorEq]
                      · simp (config := { decide := true }) only [go_sem, Int.reduceToNat, Nat.reduceAdd, Nat.reduceSub, Nat.reduceMul, Nat.reduceBEq, reduceIte, reduceCtorEq, p1]
                        refine callX_fn 3 (right_at op' rg loc lab n false (zero_op (by omega))) (by simp only [go_sem]) rfl ?_
                        simp (config := { decide := true }) only [go_sem, Int.reduceToNat, Nat.reduceAdd, Nat.reduceSub, Nat.reduceMul, Nat.reduceBEq, reduceIte, reduceCtorEq]
                    · skip
                      by_cases o2 : op = 7
                      · have hN : hasN op = true := by rw [o2]; decide
                        simp (config := { decide := true }) only [go_sem, Int.reduceToNat, Nat.reduceAdd, Nat.reduceSub, Nat.reduceMul, Nat.reduceBEq, reduceIte, reduceCtorEq, eq_false o0, eq_false o1, eq_true o2]
                        refine callX_fn 3 (right_at op rg loc lab m true (by rw [zero_n ha b4, hN])) (by simp only [go_sem]) rfl ?_
                        by_cases p1 : (1 : Int) ≤ op'
                        · by_cases p2 : op' ≤ (11 : Int)
                          · simp (config := { decide := true }) only [go_sem, Int.reduceToNat, Nat.reduceAdd, Nat.reduceSub, Nat.reduceMul, Nat.reduceBEq, reduceIte, reduceCtorEq, p1, p2]
                          · simp (config := { decide := true }) only [go_sem, Int.reduceToNat, Nat.reduceAdd, Nat.reduceSub, Nat.reduceMul, Nat.reduceBEq, reduceIte, reduceCtorEq, p1, p2]
                            refine callX_fn 3 (right_at op' rg loc lab n false (zero_op (by omega))) (by simp only [go_sem]) rfl ?_
                            simp (config := { decide := true }) only [go_sem, Int.reduceToNat, Nat.reduceAdd, Nat.reduceSub, Nat.reduceMul, Nat.reduceBEq, reduceIte, reduceCtorEq]
                        · simp (config := { decide := true }) only [go_sem, Int.reduceToNat, Nat.reduceAdd, Nat.reduceSub, Nat.reduceMul, Nat.reduceBEq, reduceIte, reduceCtorEq, p1]
                          refine callX_fn 3 (right_at op' rg loc lab n false (zero_op (by omega))) (by simp only [go_sem]) rfl ?_
                          simp (config := { decide := true }) only [go_sem, Int.reduceToNat, Nat.reduceAdd, Nat.reduceSub, Nat.reduceMul, Nat.reduceBEq, reduceIte, reduceCtorEq]
                      · have hN : hasN op = false := by simp [hasN, o0, o1, o2]
                        simp (config := { decide := true }) only [go_sem, Int.reduceToNat, Nat.reduceAdd, Nat.reduceSub, Nat.reduceMul, Nat.reduceBEq, reduceIte, reduceCtorEq, eq_false o0, eq_false o1, eq_false o2]
                        refine callX_fn 3 (right_at op rg loc lab m false (by rw [zero_n ha b4, hN])) (by simp only [go_sem]) rfl ?_
                        by_cases p1 : (1 : Int) ≤ op'
                        · by_cases p2 : op' ≤ (11 : Int)
                          · simp (config := { decide := true }) only [go_sem, Int.reduceToNat, Nat.reduceAdd, Nat.reduceSub, Nat.reduceMul, Nat.reduceBEq, reduceIte, reduceCtorEq, p1, p2]
                          · simp (config := { decide := true }) only [go_sem, Int.reduceToNat, Nat.reduceAdd, Nat.reduceSub, Nat.reduceMul, Nat.reduceBEq, reduceIte, reduceCtorEq, p1, p2]
                            refine callX_fn 3 (right_at op' rg loc lab n false (zero_op (by omega))) (by simp only [go_sem]) rfl ?_
                            simp (config := { decide := true }) only [go_sem, Int.reduceToNat, Nat.reduceAdd, Nat.reduceSub, Nat.reduceMul, Nat.reduceBEq, reduceIte, reduceCtorEq]
                        · simp (config := { decide := true }) only [go_sem, Int.reduceToNat, Nat.reduceAdd, Nat.reduceSub, Nat.reduceMul, Nat.reduceBEq, reduceIte, reduceCtorEq, p1]
                          refine callX_fn 3 (right_at op' rg loc lab n false (zero_op (by omega))) (by simp only [go_sem]) rfl ?_
                          simp (config := { decide := true }) only [go_sem, Int.reduceToNat, Nat.reduceAdd, Nat.reduceSub, Nat.reduceMul, Nat.reduceBEq, reduceIte, reduceCtorEq]
            · simp (config := { decide := true }) only [go_sem, Int.reduceToNat, Nat.reduceAdd, Nat.reduceSub, Nat.reduceMul, Nat.reduceBEq, reduceIte, reduceCtorEq, ha, g0]
              by_cases g1 : loc = []
              · simp (config := { decide := true }) only [go_sem, Int.reduceToNat, Nat.reduceAdd, Nat.reduceSub, Nat.reduceMul, Nat.reduceBEq, reduceIte, reduceCtorEq, eq_true g1]
                refine callX_fn 3 (right_at op rg s lab n false (zero_loc (by rw [← g1]; exact ha) b3)) (by simp only [go_sem]) rfl ?_
                by_cases g2 : lab = []
                · simp (config := { decide := true }) only [go_sem, Int.reduceToNat, Nat.reduceAdd, Nat.reduceSub, Nat.reduceMul, Nat.reduceBEq, reduceIte, reduceCtorEq, eq_true g2]
                  refine callX_fn 3 (right_at op rg loc s n false (zero_lab (by rw [← g2]; exact ha) b3)) (by simp only [go_sem]) rfl ?_
                  by_cases o0 : op = 1
                  · have hN : hasN op = true := by rw [o0]; decide
                    simp (config := { decide := true }) only [go_sem, Int.reduceToNat, Nat.reduceAdd, Nat.reduceSub, Nat.reduceMul, Nat.reduceBEq, reduceIte, reduceCtorEq, eq_true o0]
                    refine callX_fn 3 (right_at op rg loc lab m true (by rw [zero_n ha b4, hN])) (by simp only [go_sem]) rfl ?_
                    by_cases p1 : (1 : Int) ≤ op'
                    · by_cases p2 : op' ≤ (11 : Int)
                      · simp (config := { decide := true }) only [go_sem, Int.reduceToNat, Nat.reduceAdd, Nat.reduceSub, Nat.reduceMul, Nat.reduceBEq, reduceIte, reduceCtorEq, p1, p2]
                      · simp (config := { decide := true }) only [go_sem, Int.reduceToNat, Nat.reduceAdd, Nat.reduceSub, Nat.reduceMul, Nat.reduceBEq, reduceIte, reduceCtorEq, p1, p2]
                        refine callX_fn 3 (right_at op' rg loc lab n false (zero_op (by omega))) (by simp only [go_sem]) rfl ?_
                        simp (config := { decide := true }) only [go_sem, Int.reduceToNat, Nat.reduceAdd, Nat.reduceSub, Nat.reduceMul, Nat.reduceBEq, reduceIte, reduceCtorEq]
                    · simp (config := { decide := true }) only [go_sem, Int.reduceToNat, Nat.reduceAdd, Nat.reduceSub, Nat.reduceMul, Nat.reduceBEq, reduceIte, reduceCtorEq, p1]
                      refine callX_fn 3 (right_at op' rg loc lab n false (zero_op (by omega))) (by simp only [go_sem]) rfl ?_
                      simp (config := { decide := true }) only [go_sem, Int.reduceToNat, Nat.reduceAdd, Nat.reduceSub, Nat.reduceMul, Nat.reduceBEq, reduceIte, reduceCtorEq]
                  · skip
                    by_cases o1 : op = 4
                    · have hN : hasN op = true := by rw [o1]; decide
                      simp (config := { decide := true }) only [go_sem, Int.reduceToNat, Nat.reduceAdd, Nat.reduceSub, Nat.reduceMul, Nat.reduceBEq, reduceIte, reduceCtorEq, eq_false o0, eq_true o1]
                      refine callX_fn 3 (right_at op rg loc lab m true (by rw [zero_n ha b4, hN])) (by simp only [go_sem]) rfl ?_
                      by_cases p1 : (1 : Int) ≤ op'
                      · by_cases p2 : op' ≤ (11 : Int)
                        · simp (config := { decide := true }) only [go_sem, Int.reduceToNat, Nat.reduceAdd, Nat.reduceSub, Nat.reduceMul, Nat.reduceBEq, reduceIte, reduceCtorEq, p1, p2]
                        · simp (config := { decide := true }) only [go_sem, Int.reduceToNat, Nat.reduceAdd, Nat.reduceSub, Nat.reduceMul, Nat.reduceBEq, reduceIte, reduceCtorEq, p1, p2]
                          refine callX_fn 3 (right_at op' rg loc lab n false (zero_op (by omega))) (by simp only [go_sem]) rfl ?_
                          simp (config := { decide := true }) only [go_sem, Int.reduceToNat, Nat.reduceAdd, Nat.reduceSub, Nat.reduceMul, Nat.reduceBEq, reduceIte, reduceCtorEq]
                      · simp (config := { decide := true }) only [go_sem, Int.reduceToNat, Nat.reduceAdd, Nat.reduceSub, Nat.reduceMul, Nat.reduceBEq, reduceIte, reduceCtorEq, p1]
                        refine callX_fn 3 (right_at op' rg loc lab n false (zero_op (by omega))) (by simp only [go_sem]) rfl ?_
                        simp (config := { decide := true }) only [go_sem, Int.reduceToNat, Nat.reduceAdd, Nat.reduceSub, Nat.reduceMul, Nat.reduceBEq, reduceIte, reduceCtorEq]
                    · skip
                      by_cases o2 : op = 7
                      · have hN : hasN op = true := by rw [o2]; decide
                        simp (config := { decide := true }) only [go_sem, Int.reduceToNat, Nat.reduceAdd, Nat.reduceSub, Nat.reduceMul, Nat.reduceBEq, reduceIte, reduceCtorEq, eq_false o0, eq_false o1, eq_true o2]
                        refine callX_fn 3 (right_at op rg loc lab m true (by rw [zero_n ha b4, hN])) (by simp only [go_sem]) rfl ?_
                        by_cases p1 : (1 : Int) ≤ op'
                        · by_cases p2 : op' ≤ (11 : Int)
                          · simp (config := { decide := true }) only [go_sem, Int.reduceToNat, Nat.reduceAdd, Nat.reduceSub, Nat.reduceMul, Nat.reduceBEq, reduceIte, reduceCtorEq, p1, p2]
                          · simp (config := { decide := true }) only [go_sem, Int.reduceToNat, Nat.reduceAdd, Nat.reduceSub, Nat.reduceMul, Nat.reduceBEq, reduceIte, reduceCtorEq, p1, p2]
                            refine callX_fn 3 (right_at op' rg loc lab n false (zero_op (by omega))) (by simp only [go_sem]) rfl ?_
                            simp (config := { decide := true }) only [go_sem, Int.reduceToNat, Nat.reduceAdd, Nat.reduceSub, Nat.reduceMul, Nat.reduceBEq, reduceIte, reduceCtorEq]
                        · simp (config := { decide := true }) only [go_sem, Int.reduceToNat, Nat.reduceAdd, Nat.reduceSub, Nat.reduceMul, Nat.reduceBEq, reduceIte, reduceCtorEq, p1]
                          refine callX_fn 3 (right_at op' rg loc lab n false (zero_op (by omega))) (by simp only [go_sem]) rfl ?_
                          simp (config := { decide := true }) only [go_sem, Int.reduceToNat, Nat.reduceAdd, Nat.reduceSub, Nat.reduceMul, Nat.reduceBEq, reduceIte, reduceCtorEq]
                      · have hN : hasN op = false := by simp [hasN, o0, o1, o2]
                        simp (config := { decide := true }) only [go_sem, Int.reduceToNat, Nat.reduceAdd, Nat.reduceSub, Nat.reduceMul, Nat.reduceBEq, reduceIte, reduceCtorEq, eq_false o0, eq_false o1, eq_false o2]
                        refine callX_fn 3 (right_at op rg loc lab m false (by rw [zero_n ha b4, hN])) (by simp only [go_sem]) rfl ?_
                        by_cases p1 : (1 : Int) ≤ op'
                        · by_cases p2 : op' ≤ (11 : Int)
                          · simp (config := { decide := true }) only [go_sem, Int.reduceToNat, Nat.reduceAdd, Nat.reduceSub, Nat.reduceMul, Nat.reduceBEq, reduceIte, reduceCtorEq, p1, p2]
                          · simp (config := { decide := true }) only [go_sem, Int.reduceToNat, Nat.reduceAdd, Nat.reduceSub, Nat.reduceMul, Nat.reduceBEq, reduceIte, reduceCtorEq, p1, p2]
                            refine callX_fn 3 (right_at op' rg loc lab n false (zero_op (by omega))) (by simp only [go_sem]) rfl ?_
                            simp (config := { decide := true }) only [go_sem, Int.reduceToNat, Nat.reduceAdd, Nat.reduceSub, Nat.reduceMul, Nat.reduceBEq, reduceIte, reduceCtorEq]
                        · simp (config := { decide := true }) only [go_sem, Int.reduceToNat, Nat.reduceAdd, Nat.reduceSub, Nat.reduceMul, Nat.reduceBEq, reduceIte, reduceCtorEq, p1]
                          refine callX_fn 3 (right_at op' rg loc lab n false (zero_op (by omega))) (by simp only [go_sem]) rfl ?_
                          simp (config := { decide := true }) only [go_sem, Int.reduceToNat, Nat.reduceAdd, Nat.reduceSub, Nat.reduceMul, Nat.reduceBEq, reduceIte, reduceCtorEq]
                · simp (config := { decide := true }) only [go_sem, Int.reduceToNat, Nat.reduceAdd, Nat.reduceSub, Nat.reduceMul, Nat.reduceBEq, reduceIte, reduceCtorEq, g2]
                  by_cases o0 : op = 1
                  · have hN : hasN op = true := by rw [o0]; decide
                    simp (config := { decide := true }) only [go_sem, Int.reduceToNat, Nat.reduceAdd, Nat.reduceSub, Nat.reduceMul, Nat.reduceBEq, reduceIte, reduceCtorEq, eq_true o0]
                    refine callX_fn 3 (right_at op rg loc lab m true (by rw [zero_n ha b4, hN])) (by simp only [go_sem]) rfl ?_
                    by_cases p1 : (1 : Int) ≤ op'
                    · by_cases p2 : op' ≤ (11 : Int)
                      · simp (config := { decide := true }) only [go_sem, Int.reduceToNat, Nat.reduceAdd, Nat.reduceSub, Nat.reduceMul, Nat.reduceBEq, reduceIte, reduceCtorEq, p1, p2]
                      · simp (config := { decide := true }) only [go_sem, Int.reduceToNat, Nat.reduceAdd, Nat.reduceSub, Nat.reduceMul, Nat.reduceBEq, reduceIte, reduceCtorEq, p1, p2]
                        refine callX_fn 3 (right_at op' rg loc lab n false (zero_op (by omega))) (by simp only [go_sem]) rfl ?_
                        simp (config := { decide := true }) only [go_sem, Int.reduceToNat, Nat.reduceAdd, Nat.reduceSub, Nat.reduceMul, Nat.reduceBEq, reduceIte, reduceCtorEq]
                    · simp (config := { decide := true }) only [go_sem, Int.reduceToNat, Nat.reduceAdd, Nat.reduceSub, Nat.reduceMul, Nat.reduceBEq, reduceIte, reduceCtorEq, p1]
                      refine callX_fn 3 (right_at op' rg loc lab n false (zero_op (by omega))) (by simp only [go_sem]) rfl ?_
                      simp (config := { decide := true }) only [go_sem, Int.reduceToNat, Nat.reduceAdd, Nat.reduceSub, Nat.reduceMul, Nat.reduceBEq, reduceIte, reduceCtorEq]
                  · skip
                    by_cases o1 : op = 4
                    · have hN : hasN op = true := by rw [o1]; decide
                      simp (config := { decide := true }) only [go_sem, Int.reduceToNat, Nat.reduceAdd, Nat.reduceSub, Nat.reduceMul, Nat.reduceBEq, reduceIte, reduceCtorEq, eq_false o0, eq_true o1]
                      refine callX_fn 3 (right_at op rg loc lab m true (by rw [zero_n ha b4, hN])) (by simp only [go_sem]) rfl ?_
                      by_cases p1 : (1 : Int) ≤ op'
                      · by_cases p2 : op' ≤ (11 : Int)
                        · simp (config := { decide := true }) only [go_sem, Int.reduceToNat, Nat.reduceAdd, Nat.reduceSub, Nat.reduceMul, Nat.reduceBEq, reduceIte, reduceCtorEq, p1, p2]
                        · simp (config := { decide := true }) only [go_sem, Int.reduceToNat, Nat.reduceAdd, Nat.reduceSub, Nat.reduceMul, Nat.reduceBEq, reduceIte, reduceCtorEq, p1, p2]
                          refine callX_fn 3 (right_at op' rg loc lab n false (zero_op (by omega))) (by simp only [go_sem]) rfl ?_
                          simp (config := { decide := true }) only [go_sem, Int.reduceToNat, Nat.reduceAdd, Nat.reduceSub, Nat.reduceMul, Nat.reduceBEq, reduceIte, reduceCtorEq]
                      · simp (config := { decide := true }) only [go_sem, Int.reduceToNat, Nat.reduceAdd, Nat.reduceSub, Nat.reduceMul, Nat.reduceBEq, reduceIte, reduceCtorEq, p1]
                        refine callX_fn 3 (right_at op' rg loc lab n false (zero_op (by omega))) (by simp only [go_sem]) rfl ?_
                        simp (config := { decide := true }) only [go_sem, Int.reduceToNat, Nat.reduceAdd, Nat.reduceSub, Nat.reduceMul, Nat.reduceBEq, reduceIte, reduceCtorEq]
                    · skip
                      by_cases o2 : op = 7
                      · have hN : hasN op = true := by rw [o2]; decide
                        simp (config := { decide := true }) only [go_sem, Int.reduceToNat, Nat.reduceAdd, Nat.reduceSub, Nat.reduceMul, Nat.reduceBEq, reduceIte, reduceCtorEq, eq_false o0, eq_false o1, eq_true o2]
                        refine callX_fn 3 (right_at op rg loc lab m true (by rw [zero_n ha b4, hN])) (by simp only [go_sem]) rfl ?_
                        by_cases p1 : (1 : Int) ≤ op'
                        · by_cases p2 : op' ≤ (11 : Int)
                          · simp (config := { decide := true }) only [go_sem, Int.reduceToNat, Nat.reduceAdd, Nat.reduceSub, Nat.reduceMul, Nat.reduceBEq, reduceIte, reduceCtorEq, p1, p2]
                          · simp (config := { decide := true }) only [go_sem, Int.reduceToNat, Nat.reduceAdd, Nat.reduceSub, Nat.reduceMul, Nat.reduceBEq, reduceIte, reduceCtorEq, p1, p2]
                            refine callX_fn 3 (right_at op' rg loc lab n false (zero_op (by omega))) (by simp only [go_sem]) rfl ?_
                            simp (config := { decide := true }) only [go_sem, Int.reduceToNat, Nat.reduceAdd, Nat.reduceSub, Nat.reduceMul, Nat.reduceBEq, reduceIte, reduceCtorEq]
                        · simp (config := { decide := true }) only [go_sem, Int.reduceToNat, Nat.reduceAdd, Nat.reduceSub, Nat.reduceMul, Nat.reduceBEq, reduceIte, reduceCtorEq, p1]
                          refine callX_fn 3 (right_at op' rg loc lab n false (zero_op (by omega))) (by simp only [go_sem]) rfl ?_
                          simp (config := { decide := true }) only [go_sem, Int.reduceToNat, Nat.reduceAdd, Nat.reduceSub, Nat.reduceMul, Nat.reduceBEq, reduceIte, reduceCtorEq]
                      · have hN : hasN op = false := by simp [hasN, o0, o1, o2]
                        simp (config := { decide := true }) only [go_sem, Int.reduceToNat, Nat.reduceAdd, Nat.reduceSub, Nat.reduceMul, Nat.reduceBEq, reduceIte, reduceCtorEq, eq_false o0, eq_false o1, eq_false o2]
                        refine callX_fn 3 (right_at op rg loc lab m false (by rw [zero_n ha b4, hN])) (by simp only [go_sem]) rfl ?_
                        by_cases p1 : (1 : Int) ≤ op'
                        · by_cases p2 : op' ≤ (11 : Int)
                          · simp (config := { decide := true }) only [go_sem, Int.reduceToNat, Nat.reduceAdd, Nat.reduceSub, Nat.reduceMul, Nat.reduceBEq, reduceIte, reduceCtorEq, p1, p2]
                          · simp (config := { decide := true }) only [go_sem, Int.reduceToNat, Nat.reduceAdd, Nat.reduceSub, Nat.reduceMul, Nat.reduceBEq, reduceIte, reduceCtorEq, p1, p2]
                            refine callX_fn 3 (right_at op' rg loc lab n false (zero_op (by omega))) (by simp only [go_sem]) rfl ?_
                            simp (config := { decide := true }) only [go_sem, Int.reduceToNat, Nat.reduceAdd, Nat.reduceSub, Nat.reduceMul, Nat.reduceBEq, reduceIte, reduceCtorEq]
                        · simp (config := { decide := true }) only [go_sem, Int.reduceToNat, Nat.reduceAdd, Nat.reduceSub, Nat.reduceMul, Nat.reduceBEq, reduceIte, reduceCtorEq, p1]
                          refine callX_fn 3 (right_at op' rg loc lab n false (zero_op (by omega))) (by simp only [go_sem]) rfl ?_
                          simp (config := { decide := true }) only [go_sem, Int.reduceToNat, Nat.reduceAdd, Nat.reduceSub, Nat.reduceMul, Nat.reduceBEq, reduceIte, reduceCtorEq]
              · simp (config := { decide := true }) only [go_sem, Int.reduceToNat, Nat.reduceAdd, Nat.reduceSub, Nat.reduceMul, Nat.reduceBEq, reduceIte, reduceCtorEq, g1]
                by_cases g2 : lab = []
                · simp (config := { decide := true }) only [go_sem, Int.reduceToNat, Nat.reduceAdd, Nat.reduceSub, Nat.reduceMul, Nat.reduceBEq, reduceIte, reduceCtorEq, eq_true g2]
                  refine callX_fn 3 (right_at op rg loc s n false (zero_lab (by rw [← g2]; exact ha) b3)) (by simp only [go_sem]) rfl ?_
                  by_cases o0 : op = 1
                  · have hN : hasN op = true := by rw [o0]; decide
                    simp (config := { decide := true }) only [go_sem, Int.reduceToNat, Nat.reduceAdd, Nat.reduceSub, Nat.reduceMul, Nat.reduceBEq, reduceIte, reduceCtorEq, eq_true o0]
                    refine callX_fn 3 (right_at op rg loc lab m true (by rw [zero_n ha b4, hN])) (by simp only [go_sem]) rfl ?_
                    by_cases p1 : (1 : Int) ≤ op'
                    · by_cases p2 : op' ≤ (11 : Int)
                      · simp (config := { decide := true }) only [go_sem, Int.reduceToNat, Nat.reduceAdd, Nat.reduceSub, Nat.reduceMul, Nat.reduceBEq, reduceIte, reduceCtorEq, p1, p2]
                      · simp (config := { decide := true }) only [go_sem, Int.reduceToNat, Nat.reduceAdd, Nat.reduceSub, Nat.reduceMul, Nat.reduceBEq, reduceIte, reduceCtorEq, p1, p2]
                        refine callX_fn 3 (right_at op' rg loc lab n false (zero_op (by omega))) (by simp only [go_sem]) rfl ?_
                        simp (config := { decide := true }) only [go_sem, Int.reduceToNat, Nat.reduceAdd, Nat.reduceSub, Nat.reduceMul, Nat.reduceBEq, reduceIte, reduceCtorEq]
                    · simp (config := { decide := true }) only [go_sem, Int.reduceToNat, Nat.reduceAdd, Nat.reduceSub, Nat.reduceMul, Nat.reduceBEq, reduceIte, reduceCtorEq, p1]
                      refine callX_fn 3 (right_at op' rg loc lab n false (zero_op (by omega))) (by simp only [go_sem]) rfl ?_
                      simp (config := { decide := true }) only [go_sem, Int.reduceToNat, Nat.reduceAdd, Nat.reduceSub, Nat.reduceMul, Nat.reduceBEq, reduceIte, reduceCtorEq]
                  · skip
                    by_cases o1 : op = 4
                    · have hN : hasN op = true := by rw [o1]; decide
                      simp (config := { decide := true }) only [go_sem, Int.reduceToNat, Nat.reduceAdd, Nat.reduceSub, Nat.reduceMul, Nat.reduceBEq, reduceIte, reduceCtorEq, eq_false o0, eq_true o1]
                      refine callX_fn 3 (right_at op rg loc lab m true (by rw [zero_n ha b4, hN])) (by simp only [go_sem]) rfl ?_
                      by_cases p1 : (1 : Int) ≤ op'
                      · by_cases p2 : op' ≤ (11 : Int)
                        · simp (config := { decide := true }) only [go_sem, Int.reduceToNat, Nat.reduceAdd, Nat.reduceSub, Nat.reduceMul, Nat.reduceBEq, reduceIte, reduceCtorEq, p1, p2]
                        · simp (config := { decide := true }) only [go_sem, Int.reduceToNat, Nat.reduceAdd, Nat.reduceSub, Nat.reduceMul, Nat.reduceBEq, reduceIte, reduceCtorEq, p1, p2]
                          refine callX_fn 3 (right_at op' rg loc lab n false (zero_op (by omega))) (by simp only [go_sem]) rfl ?_
                          simp (config := { decide := true }) only [go_sem, Int.reduceToNat, Nat.reduceAdd, Nat.reduceSub, Nat.reduceMul, Nat.reduceBEq, reduceIte, reduceCtorEq]
                      · simp (config := { decide := true }) only [go_sem, Int.reduceToNat, Nat.reduceAdd, Nat.reduceSub, Nat.reduceMul, Nat.reduceBEq, reduceIte, reduceCtorEq, p1]
                        refine callX_fn 3 (right_at op' rg loc lab n false (zero_op (by omega))) (by simp only [go_sem]) rfl ?_
                        simp (config := { decide := true }) only [go_sem, Int.reduceToNat, Nat.reduceAdd, Nat.reduceSub, Nat.reduceMul, Nat.reduceBEq, reduceIte, reduceCtorEq]
                    · skip
                      by_cases o2 : op = 7
                      · have hN : hasN op = true := by rw [o2]; decide
                        simp (config := { decide := true }) only [go_sem, Int.reduceToNat, Nat.reduceAdd, Nat.reduceSub, Nat.reduceMul, Nat.reduceBEq, reduceIte, reduceCtorEq, eq_false o0, eq_false o1, eq_true o2]
                        refine callX_fn 3 (right_at op rg loc lab m true (by rw [zero_n ha b4, hN])) (by simp only [go_sem]) rfl ?_
                        by_cases p1 : (1 : Int) ≤ op'
                        · by_cases p2 : op' ≤ (11 : Int)
                          · simp (config := { decide := true }) only [go_sem, Int.reduceToNat, Nat.reduceAdd, Nat.reduceSub, Nat.reduceMul, Nat.reduceBEq, reduceIte, reduceCtorEq, p1, p2]
                          · simp (config := { decide := true }) only [go_sem, Int.reduceToNat, Nat.reduceAdd, Nat.reduceSub, Nat.reduceMul, Nat.reduceBEq, reduceIte, reduceCtorEq, p1, p2]
                            refine callX_fn 3 (right_at op' rg loc lab n false (zero_op (by omega))) (by simp only [go_sem]) rfl ?_
                            simp (config := { decide := true }) only [go_sem, Int.reduceToNat, Nat.reduceAdd, Nat.reduceSub, Nat.reduceMul, Nat.reduceBEq, reduceIte, reduceCtorEq]
                        · simp (config := { decide := true }) only [go_sem, Int.reduceToNat, Nat.reduceAdd, Nat.reduceSub, Nat.reduceMul, Nat.reduceBEq, reduceIte, reduceCtorEq, p1]
                          refine callX_fn 3 (right_at op' rg loc lab n false (zero_op (by omega))) (by simp only [go_sem]) rfl ?_
                          simp (config := { decide := true }) only [go_sem, Int.reduceToNat, Nat.reduceAdd, Nat.reduceSub, Nat.reduceMul, Nat.reduceBEq, reduceIte, reduceCtorEq]
                      · have hN : hasN op = false := by simp [hasN, o0, o1, o2]
                        simp (config := { decide := true }) only [go_sem, Int.reduceToNat, Nat.reduceAdd, Nat.reduceSub, Nat.reduceMul, Nat.reduceBEq, reduceIte, reduceCtorEq, eq_false o0, eq_false o1, eq_false o2]
                        refine callX_fn 3 (right_at op rg loc lab m false (by rw [zero_n ha b4, hN])) (by simp only [go_sem]) rfl ?_
                        by_cases p1 : (1 : Int) ≤ op'
                        · by_cases p2 : op' ≤ (11 : Int)
                          · simp (config := { decide := true }) only [go_sem, Int.reduceToNat, Nat.reduceAdd, Nat.reduceSub, Nat.reduceMul, Nat.reduceBEq, reduceIte, reduceCtorEq, p1, p2]
                          · simp (config := { decide := true }) only [go_sem, Int.reduceToNat, Nat.reduceAdd, Nat.reduceSub, Nat.reduceMul, Nat.reduceBEq, reduceIte, reduceCtorEq, p1, p2]
                            refine callX_fn 3 (right_at op' rg loc lab n false (zero_op (by omega))) (by simp only [go_sem]) rfl ?_
                            simp (config := { decide := true }) only [go_sem, Int.reduceToNat, Nat.reduceAdd, Nat.reduceSub, Nat.reduceMul, Nat.reduceBEq, reduceIte, reduceCtorEq]
                        · simp (config := { decide := true }) only [go_sem, Int.reduceToNat, Nat.reduceAdd, Nat.reduceSub, Nat.reduceMul, Nat.reduceBEq, reduceIte, reduceCtorEq, p1]
                          refine callX_fn 3 (right_at op' rg loc lab n false (zero_op (by omega))) (by simp only [go_sem]) rfl ?_
                          simp (config := { decide := true }) only [go_sem, Int.reduceToNat, Nat.reduceAdd, Nat.reduceSub, Nat.reduceMul, Nat.reduceBEq, reduceIte, reduceCtorEq]
                · simp (config := { decide := true }) only [go_sem, Int.reduceToNat, Nat.reduceAdd, Nat.reduceSub, Nat.reduceMul, Nat.reduceBEq, reduceIte, reduceCtorEq, g2]
                  by_cases o0 : op = 1
                  · have hN : hasN op = true := by rw [o0]; decide
                    simp (config := { decide := true }) only [go_sem, Int.reduceToNat, Nat.reduceAdd, Nat.reduceSub, Nat.reduceMul, Nat.reduceBEq, reduceIte, reduceCtorEq, eq_true o0]
                    refine callX_fn 3 (right_at op rg loc lab m true (by rw [zero_n ha b4, hN])) (by simp only [go_sem]) rfl ?_
                    by_cases p1 : (1 : Int) ≤ op'
                    · by_cases p2 : op' ≤ (11 : Int)
                      · simp (config := { decide := true }) only [go_sem, Int.reduceToNat, Nat.reduceAdd, Nat.reduceSub, Nat.reduceMul, Nat.reduceBEq, reduceIte, reduceCtorEq, p1, p2]
                      · simp (config := { decide := true }) only [go_sem, Int.reduceToNat, Nat.reduceAdd, Nat.reduceSub, Nat.reduceMul, Nat.reduceBEq, reduceIte, reduceCtorEq, p1, p2]
                        refine callX_fn 3 (right_at op' rg loc lab n false (zero_op (by omega))) (by simp only [go_sem]) rfl ?_
                        simp (config := { decide := true }) only [go_sem, Int.reduceToNat, Nat.reduceAdd, Nat.reduceSub, Nat.reduceMul, Nat.reduceBEq, reduceIte, reduceCtorEq]
                    · simp (config := { decide := true }) only [go_sem, Int.reduceToNat, Nat.reduceAdd, Nat.reduceSub, Nat.reduceMul, Nat.reduceBEq, reduceIte, reduceCtorEq, p1]
                      refine callX_fn 3 (right_at op' rg loc lab n false (zero_op (by omega))) (by simp only [go_sem]) rfl ?_
                      simp (config := { decide := true }) only [go_sem, Int.reduceToNat, Nat.reduceAdd, Nat.reduceSub, Nat.reduceMul, Nat.reduceBEq, reduceIte, reduceCtorEq]
                  · skip
                    by_cases o1 : op = 4
                    · have hN : hasN op = true := by rw [o1]; decide
                      simp (config := { decide := true }) only [go_sem, Int.reduceToNat, Nat.reduceAdd, Nat.reduceSub, Nat.reduceMul, Nat.reduceBEq, reduceIte, reduceCtorEq, eq_false o0, eq_true o1]
                      refine callX_fn 3 (right_at op rg loc lab m true (by rw [zero_n ha b4, hN])) (by simp only [go_sem]) rfl ?_
                      by_cases p1 : (1 : Int) ≤ op'
                      · by_cases p2 : op' ≤ (11 : Int)
                        · simp (config := { decide := true }) only [go_sem, Int.reduceToNat, Nat.reduceAdd, Nat.reduceSub, Nat.reduceMul, Nat.reduceBEq, reduceIte, reduceCtorEq, p1, p2]
                        · simp (config := { decide := true }) only [go_sem, Int.reduceToNat, Nat.reduceAdd, Nat.reduceSub, Nat.reduceMul, Nat.reduceBEq, reduceIte, reduceCtorEq, p1, p2]
                          refine callX_fn 3 (right_at op' rg loc lab n false (zero_op (by omega))) (by simp only [go_sem]) rfl ?_
                          simp (config := { decide := true }) only [go_sem, Int.reduceToNat, Nat.reduceAdd, Nat.reduceSub, Nat.reduceMul, Nat.reduceBEq, reduceIte, reduceCtorEq]
                      · simp (config := { decide := true }) only [go_sem, Int.reduceToNat, Nat.reduceAdd, Nat.reduceSub, Nat.reduceMul, Nat.reduceBEq, reduceIte, reduceCtorEq, p1]
                        refine callX_fn 3 (right_at op' rg loc lab n false (zero_op (by omega))) (by simp only [go_sem]) rfl ?_
                        simp (config := { decide := true }) only [go_sem, Int.reduceToNat, Nat.reduceAdd, Nat.reduceSub, Nat.reduceMul, Nat.reduceBEq, reduceIte, reduceCtorEq]
                    · skip
                      by_cases o2 : op = 7
                      · have hN : hasN op = true := by rw [o2]; decide
                        simp (config := { decide := true }) only [go_sem, Int.reduceToNat, Nat.reduceAdd, Nat.reduceSub, Nat.reduceMul, Nat.reduceBEq, reduceIte, reduceCtorEq, eq_false o0, eq_false o1, eq_true o2]
                        refine callX_fn 3 (right_at op rg loc lab m true (by rw [zero_n ha b4, hN])) (by simp only [go_sem]) rfl ?_
                        by_cases p1 : (1 : Int) ≤ op'
                        · by_cases p2 : op' ≤ (11 : Int)
                          · simp (config := { decide := true }) only [go_sem, Int.reduceToNat, Nat.reduceAdd, Nat.reduceSub, Nat.reduceMul, Nat.reduceBEq, reduceIte, reduceCtorEq, p1, p2]
                          · simp (config := { decide := true }) only [go_sem, Int.reduceToNat, Nat.reduceAdd, Nat.reduceSub, Nat.reduceMul, Nat.reduceBEq, reduceIte, reduceCtorEq, p1, p2]
                            refine callX_fn 3 (right_at op' rg loc lab n false (zero_op (by omega))) (by simp only [go_sem]) rfl ?_
                            simp (config := { decide := true }) only [go_sem, Int.reduceToNat, Nat.reduceAdd, Nat.reduceSub, Nat.reduceMul, Nat.reduceBEq, reduceIte, reduceCtorEq]
                        · simp (config := { decide := true }) only [go_sem, Int.reduceToNat, Nat.reduceAdd, Nat.reduceSub, Nat.reduceMul, Nat.reduceBEq, reduceIte, reduceCtorEq, p1]
                          refine callX_fn 3 (right_at op' rg loc lab n false (zero_op (by omega))) (by simp only [go_sem]) rfl ?_
                          simp (config := { decide := true }) only [go_sem, Int.reduceToNat, Nat.reduceAdd, Nat.reduceSub, Nat.reduceMul, Nat.reduceBEq, reduceIte, reduceCtorEq]
                      · have hN : hasN op = false := by simp [hasN, o0, o1, o2]
                        simp (config := { decide := true }) only [go_sem, Int.reduceToNat, Nat.reduceAdd, Nat.reduceSub, Nat.reduceMul, Nat.reduceBEq, reduceIte, reduceCtorEq, eq_false o0, eq_false o1, eq_false o2]
                        refine callX_fn 3 (right_at op rg loc lab m false (by rw [zero_n ha b4, hN])) (by simp only [go_sem]) rfl ?_
                        by_cases p1 : (1 : Int) ≤ op'
                        · by_cases p2 : op' ≤ (11 : Int)
                          · simp (config := { decide := true }) only [go_sem, Int.reduceToNat, Nat.reduceAdd, Nat.reduceSub, Nat.reduceMul, Nat.reduceBEq, reduceIte, reduceCtorEq, p1, p2]
                          · simp (config := { decide := true }) only [go_sem, Int.reduceToNat, Nat.reduceAdd, Nat.reduceSub, Nat.reduceMul, Nat.reduceBEq, reduceIte, reduceCtorEq, p1, p2]
                            refine callX_fn 3 (right_at op' rg loc lab n false (zero_op (by omega))) (by simp only [go_sem]) rfl ?_
                            simp (config := { decide := true }) only [go_sem, Int.reduceToNat, Nat.reduceAdd, Nat.reduceSub, Nat.reduceMul, Nat.reduceBEq, reduceIte, reduceCtorEq]
                        · simp (config := { decide := true }) only [go_sem, Int.reduceToNat, Nat.reduceAdd, Nat.reduceSub, Nat.reduceMul, Nat.reduceBEq, reduceIte, reduceCtorEq, p1]
                          refine callX_fn 3 (right_at op' rg loc lab n false (zero_op (by omega))) (by simp only [go_sem]) rfl ?_
                          simp (config := { decide := true }) only [go_sem, Int.reduceToNat, Nat.reduceAdd, Nat.reduceSub, Nat.reduceMul, Nat.reduceBEq, reduceIte, reduceCtorEq]
end Go.Proofs.YtcpefnjofekibaaDoor
