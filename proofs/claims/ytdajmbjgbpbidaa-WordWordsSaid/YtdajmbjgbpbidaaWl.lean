/- Word: the live question. -/
import Derived.Test.YtdajmbjgbpbidaaWk
namespace Go.Proofs.Ytdajmbjgbpbidaa
open Go.RowKit
set_option linter.unusedVariables false
set_option linter.unusedSimpArgs false
set_option maxRecDepth 8000

theorem lines_at (s : List UInt8) (l : List (List UInt8)) (hs : s.length ≤ 1000000) (h : linesB s = l) : HFn Try.prog 11 [.v (str s)] (owStrs l) := h ▸ lines s hs
theorem words_at (s : List UInt8) (l : List (List UInt8)) (hs : s.length ≤ 1000000) (h : wordsB s = l) : HFn Try.prog 13 [.v (str s)] (owStrs l) := h ▸ wordsPr s hs
theorem same_at (a : List (List UInt8)) (ha : a.length ≤ 1000000) : HFn Try.prog 10 [.sl (strs a), .sl (strs a)] (.v (.bool true)) := by
  have := refSame a a ha
  rwa [decide_eq_true rfl] at this
theorem name_at (s : List UInt8) (b : Bool) (h : nameB s = b) : HFn Try.prog 15 [.v (str s)] (.v (.bool b)) := h ▸ namePr s
theorem reg_at (s : List UInt8) (n : Int) (h : regB s = n) : HFn Try.prog 17 [.v (str s)] (.v (.int .i64 n)) := h ▸ reg s
theorem regName_at (n : Int) (s : List UInt8) (h : regNm n = s) : HFn Try.prog 19 [.v (.int .i64 n)] (.v (str s)) := h ▸ regName n

theorem headPr : HFn Try.prog 9 [] (.v (.bool true)) := by
  refine HCalls_body (fn := Try.f9) 63 [0] rfl rfl (by kernel_rfl) (HW.run 400 (by kernel_rfl) ?_)
  simp (config := { decide := true }) only [go_sem, Nat.reduceAdd, Nat.reduceSub, Nat.reduceMul, Nat.reduceBEq, reduceIte, reduceCtorEq]
  refine callX_fn 3 (lines_at [97, 10, 10, 98, 32, 99, 10] [[97], [], [98, 32, 99]] (by decide) (by decide)) (by simp only [go_sem]) nz_owStrs ?_
  simp (config := { decide := true }) only [go_sem, Nat.reduceAdd, Nat.reduceSub, Nat.reduceMul, Nat.reduceBEq, reduceIte, reduceCtorEq, owStrs]
  refine callX_fn 3 (same_at [[97], [], [98, 32, 99]] (by decide)) (by simp only [go_sem]; rfl) rfl ?_
  simp (config := { decide := true }) only [go_sem, Nat.reduceAdd, Nat.reduceSub, Nat.reduceMul, Nat.reduceBEq, reduceIte, reduceCtorEq]
  refine callX_fn 3 (lines_at [97, 10, 98] [[97], [98]] (by decide) (by decide)) (by simp only [go_sem]) nz_owStrs ?_
  simp (config := { decide := true }) only [go_sem, Nat.reduceAdd, Nat.reduceSub, Nat.reduceMul, Nat.reduceBEq, reduceIte, reduceCtorEq, owStrs]
  refine callX_fn 3 (same_at [[97], [98]] (by decide)) (by simp only [go_sem]; rfl) rfl ?_
  simp (config := { decide := true }) only [go_sem, Nat.reduceAdd, Nat.reduceSub, Nat.reduceMul, Nat.reduceBEq, reduceIte, reduceCtorEq]
  refine callX_fn 3 (lines_at [] [] (by decide) (by decide)) (by simp only [go_sem]) nz_owStrs ?_
  simp (config := { decide := true }) only [go_sem, Nat.reduceAdd, Nat.reduceSub, Nat.reduceMul, Nat.reduceBEq, reduceIte, reduceCtorEq, owStrs]
  refine callX_fn 3 (words_at [32, 32, 109, 111, 118, 32, 101, 97, 120, 32, 32, 91, 120, 93, 32] [[109, 111, 118], [101, 97, 120], [91, 120, 93]] (by decide) (by decide)) (by simp only [go_sem]) nz_owStrs ?_
  simp (config := { decide := true }) only [go_sem, Nat.reduceAdd, Nat.reduceSub, Nat.reduceMul, Nat.reduceBEq, reduceIte, reduceCtorEq, owStrs]
  refine callX_fn 3 (same_at [[109, 111, 118], [101, 97, 120], [91, 120, 93]] (by decide)) (by simp only [go_sem]; rfl) rfl ?_
  simp (config := { decide := true }) only [go_sem, Nat.reduceAdd, Nat.reduceSub, Nat.reduceMul, Nat.reduceBEq, reduceIte, reduceCtorEq]
  refine callX_fn 3 (words_at [32] [] (by decide) (by decide)) (by simp only [go_sem]) nz_owStrs ?_
  simp (config := { decide := true }) only [go_sem, Nat.reduceAdd, Nat.reduceSub, Nat.reduceMul, Nat.reduceBEq, reduceIte, reduceCtorEq, owStrs]
  refine callX_fn 3 (name_at [97, 57] true (by decide)) (by simp only [go_sem]) rfl ?_
  simp (config := { decide := true }) only [go_sem, Nat.reduceAdd, Nat.reduceSub, Nat.reduceMul, Nat.reduceBEq, reduceIte, reduceCtorEq]
  refine callX_fn 3 (name_at [57, 97] false (by decide)) (by simp only [go_sem]) rfl ?_
  simp (config := { decide := true }) only [go_sem, Nat.reduceAdd, Nat.reduceSub, Nat.reduceMul, Nat.reduceBEq, reduceIte, reduceCtorEq]
  refine callX_fn 3 (name_at [109, 111, 118] false (by decide)) (by simp only [go_sem]) rfl ?_
  simp (config := { decide := true }) only [go_sem, Nat.reduceAdd, Nat.reduceSub, Nat.reduceMul, Nat.reduceBEq, reduceIte, reduceCtorEq]
  refine callX_fn 3 (name_at [101, 98, 120] false (by decide)) (by simp only [go_sem]) rfl ?_
  simp (config := { decide := true }) only [go_sem, Nat.reduceAdd, Nat.reduceSub, Nat.reduceMul, Nat.reduceBEq, reduceIte, reduceCtorEq]
  refine callX_fn 3 (name_at [97, 98, 99, 100, 101, 102, 103, 104, 105] false (by decide)) (by simp only [go_sem]) rfl ?_
  simp (config := { decide := true }) only [go_sem, Nat.reduceAdd, Nat.reduceSub, Nat.reduceMul, Nat.reduceBEq, reduceIte, reduceCtorEq]
  refine callX_fn 3 (name_at [] false (by decide)) (by simp only [go_sem]) rfl ?_
  simp (config := { decide := true }) only [go_sem, Nat.reduceAdd, Nat.reduceSub, Nat.reduceMul, Nat.reduceBEq, reduceIte, reduceCtorEq]
  refine callX_fn 3 (reg_at [101, 99, 120] 2 (by decide)) (by simp only [go_sem]) rfl ?_
  simp (config := { decide := true }) only [go_sem, Nat.reduceAdd, Nat.reduceSub, Nat.reduceMul, Nat.reduceBEq, reduceIte, reduceCtorEq]
  refine callX_fn 3 (reg_at [120] (-1) (by decide)) (by simp only [go_sem]) rfl ?_
  simp (config := { decide := true }) only [go_sem, Nat.reduceAdd, Nat.reduceSub, Nat.reduceMul, Nat.reduceBEq, reduceIte, reduceCtorEq]
  refine callX_fn 3 (regName_at 3 [101, 100, 120] (by decide)) (by simp only [go_sem]) rfl ?_
  simp (config := { decide := true }) only [go_sem, Nat.reduceAdd, Nat.reduceSub, Nat.reduceMul, Nat.reduceBEq, reduceIte, reduceCtorEq]
  refine callX_fn 3 (regName_at 4 [] (by decide)) (by simp only [go_sem]) rfl ?_
  simp (config := { decide := true }) only [go_sem, Nat.reduceAdd, Nat.reduceSub, Nat.reduceMul, Nat.reduceBEq, reduceIte, reduceCtorEq]
end Go.Proofs.Ytdajmbjgbpbidaa
