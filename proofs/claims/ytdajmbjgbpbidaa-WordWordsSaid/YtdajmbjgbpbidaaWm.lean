/- Word: the laws without loops. -/
import Derived.Test.YtdajmbjgbpbidaaWl
namespace Go.Proofs.Ytdajmbjgbpbidaa
open Go.RowKit
set_option linter.unusedVariables false
set_option linter.unusedSimpArgs false
set_option maxRecDepth 8000

theorem dec_self (b : Bool) : decide (b = b) = true := by simp

theorem wordTells_law (s : List UInt8) (n : Int) : HFn Try.prog 3 [.v (str s), .v (.int .i64 n)] (.v (.bool true)) := by
  refine HCalls_body (fn := Try.f3) 47 [4] rfl rfl (by kernel_rfl) (HW.run 400 (by kernel_rfl) ?_)
  simp (config := { decide := true }) only [go_sem, Nat.reduceAdd, Nat.reduceSub, Nat.reduceMul, Nat.reduceBEq, reduceIte, reduceCtorEq]
  refine callX_fn 3 (headPr) (by simp only [go_sem]) rfl ?_
  by_cases h : (2000 : Int) < s.length
  · simp (config := { decide := true }) only [go_sem, Nat.reduceAdd, Nat.reduceSub, Nat.reduceMul, Nat.reduceBEq, reduceIte, reduceCtorEq, h]
  · simp (config := { decide := true }) only [go_sem, Nat.reduceAdd, Nat.reduceSub, Nat.reduceMul, Nat.reduceBEq, reduceIte, reduceCtorEq, h]
    have hs : s.length ≤ 1000000 := by omega
    have hl : (linesB s).length ≤ 1000000 := by
      have := cutB_length 10 s
      unfold linesB
      split
      · simp; omega
      · omega
    have hw : (wordsB s).length ≤ 1000000 := Nat.le_trans (List.length_filter_le _ _) (Nat.le_trans (cutB_length 32 s) (by omega))
    refine callX_fn 3 (lines s hs) (by simp only [go_sem]) nz_owStrs ?_
    simp (config := { decide := true }) only [go_sem, Nat.reduceAdd, Nat.reduceSub, Nat.reduceMul, Nat.reduceBEq, reduceIte, reduceCtorEq, owStrs]
    refine callX_fn 3 (refLines s hs) (by simp only [go_sem]) nz_owStrs ?_
    simp (config := { decide := true }) only [go_sem, Nat.reduceAdd, Nat.reduceSub, Nat.reduceMul, Nat.reduceBEq, reduceIte, reduceCtorEq, owStrs]
    refine callX_fn 3 (same_at (linesB s) hl) (by simp only [go_sem]) rfl ?_
    simp (config := { decide := true }) only [go_sem, Nat.reduceAdd, Nat.reduceSub, Nat.reduceMul, Nat.reduceBEq, reduceIte, reduceCtorEq]
    refine callX_fn 3 (wordsPr s hs) (by simp only [go_sem]) nz_owStrs ?_
    simp (config := { decide := true }) only [go_sem, Nat.reduceAdd, Nat.reduceSub, Nat.reduceMul, Nat.reduceBEq, reduceIte, reduceCtorEq, owStrs]
    refine callX_fn 3 (refWords s hs) (by simp only [go_sem]) nz_owStrs ?_
    simp (config := { decide := true }) only [go_sem, Nat.reduceAdd, Nat.reduceSub, Nat.reduceMul, Nat.reduceBEq, reduceIte, reduceCtorEq, owStrs]
    refine callX_fn 3 (same_at (wordsB s) hw) (by simp only [go_sem]) rfl ?_
    simp (config := { decide := true }) only [go_sem, Nat.reduceAdd, Nat.reduceSub, Nat.reduceMul, Nat.reduceBEq, reduceIte, reduceCtorEq]
    refine callX_fn 3 (namePr s) (by simp only [go_sem]) rfl ?_
    simp (config := { decide := true }) only [go_sem, Nat.reduceAdd, Nat.reduceSub, Nat.reduceMul, Nat.reduceBEq, reduceIte, reduceCtorEq]
    refine callX_fn 3 (refName s hs) (by simp only [go_sem]) rfl ?_
    simp (config := { decide := true }) only [go_sem, Nat.reduceAdd, Nat.reduceSub, Nat.reduceMul, Nat.reduceBEq, reduceIte, reduceCtorEq, dec_self]
    refine callX_fn 3 (reg s) (by simp only [go_sem]) rfl ?_
    simp (config := { decide := true }) only [go_sem, Nat.reduceAdd, Nat.reduceSub, Nat.reduceMul, Nat.reduceBEq, reduceIte, reduceCtorEq]
    refine callX_fn 3 (refReg s) (by simp only [go_sem]) rfl ?_
    simp (config := { decide := true }) only [go_sem, Nat.reduceAdd, Nat.reduceSub, Nat.reduceMul, Nat.reduceBEq, reduceIte, reduceCtorEq]
    refine callX_fn 3 (regName n) (by simp only [go_sem]) rfl ?_
    simp (config := { decide := true }) only [go_sem, Nat.reduceAdd, Nat.reduceSub, Nat.reduceMul, Nat.reduceBEq, reduceIte, reduceCtorEq]
    refine callX_fn 3 (refRegName n) (by simp only [go_sem]) rfl ?_
    simp (config := { decide := true }) only [go_sem, Nat.reduceAdd, Nat.reduceSub, Nat.reduceMul, Nat.reduceBEq, reduceIte, reduceCtorEq]

theorem nameB_regNm (n : Int) (h : 0 ≤ n ∧ n < 4) : nameB (regNm n) = false ∧ regNm n ≠ [] ∧ regB (regNm n) = n := by
  rcases (by omega : n = 0 ∨ n = 1 ∨ n = 2 ∨ n = 3) with rfl | rfl | rfl | rfl <;> decide

theorem regB_cases (s : List UInt8) : (regB s = -1) ∨ (0 ≤ regB s ∧ regB s < 4 ∧ regNm (regB s) = s) := by
  unfold regB
  split
  · rename_i h; exact .inr ⟨by decide, by decide, h.symm⟩
  split
  · rename_i h; exact .inr ⟨by decide, by decide, h.symm⟩
  split
  · rename_i h; exact .inr ⟨by decide, by decide, h.symm⟩
  split
  · rename_i h; exact .inr ⟨by decide, by decide, h.symm⟩
  exact .inl rfl

theorem wordRegs_law (n : Int) (s : List UInt8) : HFn Try.prog 7 [.v (.int .i64 n), .v (str s)] (.v (.bool true)) := by
  refine HCalls_body (fn := Try.f7) 59 [4] rfl rfl (by kernel_rfl) (HW.run 400 (by kernel_rfl) ?_)
  simp (config := { decide := true }) only [go_sem, Nat.reduceAdd, Nat.reduceSub, Nat.reduceMul, Nat.reduceBEq, reduceIte, reduceCtorEq]
  refine callX_fn 3 (headPr) (by simp only [go_sem]) rfl ?_
  by_cases h : (1000 : Int) < s.length
  · simp (config := { decide := true }) only [go_sem, Nat.reduceAdd, Nat.reduceSub, Nat.reduceMul, Nat.reduceBEq, reduceIte, reduceCtorEq, h]
  · simp (config := { decide := true }) only [go_sem, Nat.reduceAdd, Nat.reduceSub, Nat.reduceMul, Nat.reduceBEq, reduceIte, reduceCtorEq, h]
    refine callX_fn 3 (regName n) (by simp only [go_sem]) rfl ?_
    simp (config := { decide := true }) only [go_sem, Nat.reduceAdd, Nat.reduceSub, Nat.reduceMul, Nat.reduceBEq, reduceIte, reduceCtorEq]
    refine callX_fn 3 (reg s) (by simp only [go_sem]) rfl ?_
    by_cases hn : 0 ≤ n ∧ n < 4
    · obtain ⟨h1, h2, h3⟩ := nameB_regNm n hn
      simp (config := { decide := true }) only [go_sem, Nat.reduceAdd, Nat.reduceSub, Nat.reduceMul, Nat.reduceBEq, reduceIte, reduceCtorEq, hn.1, hn.2, h2]
      refine callX_fn 3 (reg_at (regNm n) n h3) (by simp only [go_sem]) rfl ?_
      simp (config := { decide := true }) only [go_sem, Nat.reduceAdd, Nat.reduceSub, Nat.reduceMul, Nat.reduceBEq, reduceIte, reduceCtorEq, hn.1, hn.2, h2]
      refine callX_fn 3 (name_at (regNm n) false h1) (by simp only [go_sem]) rfl ?_
      simp (config := { decide := true }) only [go_sem, Nat.reduceAdd, Nat.reduceSub, Nat.reduceMul, Nat.reduceBEq, reduceIte, reduceCtorEq, hn.1, hn.2, h2]
      rcases regB_cases s with hr | ⟨r1, r2, r3⟩
      · simp (config := { decide := true }) only [go_sem, Nat.reduceAdd, Nat.reduceSub, Nat.reduceMul, Nat.reduceBEq, reduceIte, reduceCtorEq, hr]
      · have r1' : ¬ regB s < 0 := by omega
        have hnm := (nameB_regNm (regB s) ⟨r1, r2⟩).1
        rw [r3] at hnm
        simp (config := { decide := true }) only [go_sem, Nat.reduceAdd, Nat.reduceSub, Nat.reduceMul, Nat.reduceBEq, reduceIte, reduceCtorEq, r1']
        refine callX_fn 3 (regName_at (regB s) s r3) (by simp only [go_sem]) rfl ?_
        simp (config := { decide := true }) only [go_sem, Nat.reduceAdd, Nat.reduceSub, Nat.reduceMul, Nat.reduceBEq, reduceIte, reduceCtorEq]
        refine callX_fn 3 (name_at s false hnm) (by simp only [go_sem]) rfl ?_
        simp (config := { decide := true }) only [go_sem, Nat.reduceAdd, Nat.reduceSub, Nat.reduceMul, Nat.reduceBEq, reduceIte, reduceCtorEq]
    · have h2 : regNm n = [] := regNm_out (by omega)
      by_cases hd1 : 0 ≤ n
      · have hd : ¬ n < 4 := by omega
        simp (config := { decide := true }) only [go_sem, Nat.reduceAdd, Nat.reduceSub, Nat.reduceMul, Nat.reduceBEq, reduceIte, reduceCtorEq, hd, hd1, h2]
        rcases regB_cases s with hr | ⟨r1, r2, r3⟩
        · simp (config := { decide := true }) only [go_sem, Nat.reduceAdd, Nat.reduceSub, Nat.reduceMul, Nat.reduceBEq, reduceIte, reduceCtorEq, hr]
        · have r1' : ¬ regB s < 0 := by omega
          have hnm := (nameB_regNm (regB s) ⟨r1, r2⟩).1
          rw [r3] at hnm
          simp (config := { decide := true }) only [go_sem, Nat.reduceAdd, Nat.reduceSub, Nat.reduceMul, Nat.reduceBEq, reduceIte, reduceCtorEq, r1']
          refine callX_fn 3 (regName_at (regB s) s r3) (by simp only [go_sem]) rfl ?_
          simp (config := { decide := true }) only [go_sem, Nat.reduceAdd, Nat.reduceSub, Nat.reduceMul, Nat.reduceBEq, reduceIte, reduceCtorEq]
          refine callX_fn 3 (name_at s false hnm) (by simp only [go_sem]) rfl ?_
          simp (config := { decide := true }) only [go_sem, Nat.reduceAdd, Nat.reduceSub, Nat.reduceMul, Nat.reduceBEq, reduceIte, reduceCtorEq]
      · simp (config := { decide := true }) only [go_sem, Nat.reduceAdd, Nat.reduceSub, Nat.reduceMul, Nat.reduceBEq, reduceIte, reduceCtorEq, hd1, h2]
        rcases regB_cases s with hr | ⟨r1, r2, r3⟩
        · simp (config := { decide := true }) only [go_sem, Nat.reduceAdd, Nat.reduceSub, Nat.reduceMul, Nat.reduceBEq, reduceIte, reduceCtorEq, hr]
        · have r1' : ¬ regB s < 0 := by omega
          have hnm := (nameB_regNm (regB s) ⟨r1, r2⟩).1
          rw [r3] at hnm
          simp (config := { decide := true }) only [go_sem, Nat.reduceAdd, Nat.reduceSub, Nat.reduceMul, Nat.reduceBEq, reduceIte, reduceCtorEq, r1']
          refine callX_fn 3 (regName_at (regB s) s r3) (by simp only [go_sem]) rfl ?_
          simp (config := { decide := true }) only [go_sem, Nat.reduceAdd, Nat.reduceSub, Nat.reduceMul, Nat.reduceBEq, reduceIte, reduceCtorEq]
          refine callX_fn 3 (name_at s false hnm) (by simp only [go_sem]) rfl ?_
          simp (config := { decide := true }) only [go_sem, Nat.reduceAdd, Nat.reduceSub, Nat.reduceMul, Nat.reduceBEq, reduceIte, reduceCtorEq]
end Go.Proofs.Ytdajmbjgbpbidaa
