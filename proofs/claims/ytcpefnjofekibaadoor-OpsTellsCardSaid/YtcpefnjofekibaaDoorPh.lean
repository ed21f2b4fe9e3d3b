/- Ops: the law that lines, atoms and their words are the document's. -/
import Derived.Test.YtcpefnjofekibaaDoorPe
namespace Go.Proofs.YtcpefnjofekibaaDoor
open Go.RowKit
set_option linter.unusedVariables false
set_option linter.unusedSimpArgs false
set_option maxRecDepth 8000

set_option maxHeartbeats 8000000 in
theorem opsTells_law (op : Int) (rg loc lab : List UInt8) (n : Int) (w : List (List UInt8)) (th : Int) (nm : List UInt8) (k : Int) (s : List UInt8) (h1 : inI n) (h3 : inI th) (h4 : inI k) :
    HFn Tryd.prog 3 [lineV op rg loc lab n, .sl (strs w), atomV th nm k, .v (str s)] (.v (.bool true)) := by
  have e : ∀ s : List UInt8, ((1000 : Int) < (s.length : Int)) = (1000 < s.length) := fun s => int_gt s.length 1000
  refine HCalls_body (fn := Tryd.f3) 106 [8] (by kernel_rfl) rfl (by kernel_rfl) (HW.run 400 (by kernel_rfl) ?_)
  simp (config := { decide := true }) only [go_sem, Int.reduceToNat, Nat.reduceAdd, Nat.reduceSub, Nat.reduceMul, Nat.reduceBEq, reduceIte, reduceCtorEq]
  refine callX_fn 3 (headPr) (by simp only [go_sem]) rfl ?_
  simp (config := { decide := true }) only [go_sem, Int.reduceToNat, Nat.reduceAdd, Nat.reduceSub, Nat.reduceMul, Nat.reduceBEq, reduceIte, reduceCtorEq]
  refine callX_fn 3 (greatLine op rg loc lab n) (by simp only [go_sem]) rfl ?_
  cases b1 : bigL rg loc lab with
  | true => simp (config := { decide := true }) only [go_sem, Int.reduceToNat, Nat.reduceAdd, Nat.reduceSub, Nat.reduceMul, Nat.reduceBEq, reduceIte, reduceCtorEq, b1]
  | false =>
    simp (config := { decide := true }) only [go_sem, Int.reduceToNat, Nat.reduceAdd, Nat.reduceSub, Nat.reduceMul, Nat.reduceBEq, reduceIte, reduceCtorEq, b1]
    refine callX_fn 3 (great w) (by simp only [go_sem]) rfl ?_
    cases b2 : bigW w with
    | true => simp (config := { decide := true }) only [go_sem, Int.reduceToNat, Nat.reduceAdd, Nat.reduceSub, Nat.reduceMul, Nat.reduceBEq, reduceIte, reduceCtorEq, b2]
    | false =>
      by_cases b3 : 1000 < nm.length
      · simp (config := { decide := true }) only [go_sem, Int.reduceToNat, Nat.reduceAdd, Nat.reduceSub, Nat.reduceMul, Nat.reduceBEq, reduceIte, reduceCtorEq, b2, e, b3]
      · by_cases b4 : 1000 < s.length
        · simp (config := { decide := true }) only [go_sem, Int.reduceToNat, Nat.reduceAdd, Nat.reduceSub, Nat.reduceMul, Nat.reduceBEq, reduceIte, reduceCtorEq, b2, e, b3, b4]
        · obtain ⟨s1, s2, s3⟩ := small_l b1
          obtain ⟨s4, s5⟩ := small_w b2
          have s6 : ∀ s ∈ w, s.length ≤ 1000000 := fun s hs => by have := s5 s hs; omega
          simp (config := { decide := true }) only [go_sem, Int.reduceToNat, Nat.reduceAdd, Nat.reduceSub, Nat.reduceMul, Nat.reduceBEq, reduceIte, reduceCtorEq, b2, e, b3, b4]
          refine callX_fn 3 (opsGet w s6 (by omega)) (by simp only [go_sem]) rfl ?_
          simp (config := { decide := true }) only [go_sem, Int.reduceToNat, Nat.reduceAdd, Nat.reduceSub, Nat.reduceMul, Nat.reduceBEq, reduceIte, reduceCtorEq]
          refine callX_fn 3 (refLineGet w s6 (by omega)) (by simp only [go_sem]) rfl ?_
          rw [← get_ref w s6]
          simp (config := { decide := true }) only [go_sem, Int.reduceToNat, Nat.reduceAdd, Nat.reduceSub, Nat.reduceMul, Nat.reduceBEq, reduceIte, reduceCtorEq]
          refine callX_fn 3 (opsAtom s (by omega)) (by simp only [go_sem]) rfl ?_
          simp (config := { decide := true }) only [go_sem, Int.reduceToNat, Nat.reduceAdd, Nat.reduceSub, Nat.reduceMul, Nat.reduceBEq, reduceIte, reduceCtorEq]
          refine callX_fn 3 (refAtom s (by omega)) (by simp only [go_sem]) rfl ?_
          rw [← atom_ref s]
          simp (config := { decide := true }) only [go_sem, Int.reduceToNat, Nat.reduceAdd, Nat.reduceSub, Nat.reduceMul, Nat.reduceBEq, reduceIte, reduceCtorEq]
          refine HW.quiet 120 follows (by kernel_rfl) ?_
          simp (config := { decide := true }) only [go_sem, Int.reduceToNat, Nat.reduceAdd, Nat.reduceSub, Nat.reduceMul, Nat.reduceBEq, reduceIte, reduceCtorEq]
          refine callQ_fn 3 (opsRight op rg loc lab n) (by simp only [go_sem]) rfl rfl ?_
          simp (config := { decide := true }) only [go_sem, Int.reduceToNat, Nat.reduceAdd, Nat.reduceSub, Nat.reduceMul, Nat.reduceBEq, reduceIte, reduceCtorEq]
          refine callQ_fn 3 (refRight op rg loc lab n (by omega) (by omega) (by omega)) (by simp only [go_sem]) rfl rfl ?_
          simp (config := { decide := true }) only [go_sem, Int.reduceToNat, Nat.reduceAdd, Nat.reduceSub, Nat.reduceMul, Nat.reduceBEq, reduceIte, reduceCtorEq]
          refine callQ_shut 3 (opsWords op rg loc lab n (by omega) (by omega) h1) (by simp only [go_sem]) nz_owStrs ?_
          simp (config := { decide := true }) only [go_sem, Int.reduceToNat, Nat.reduceAdd, Nat.reduceSub, Nat.reduceMul, Nat.reduceBEq, reduceIte, reduceCtorEq]
          refine callQ_shut 3 (refLineWords op rg loc lab n (by omega) (by omega) (by omega) h1) (by simp only [go_sem]) nz_owStrs ?_
          simp (config := { decide := true }) only [go_sem, Int.reduceToNat, Nat.reduceAdd, Nat.reduceSub, Nat.reduceMul, Nat.reduceBEq, reduceIte, reduceCtorEq]
          have z1 := (lineW_small op rg loc lab n h1).1
          refine callQ_fn 3 (refSame (lineW op rg loc lab n) (lineW op rg loc lab n) (by omega)) (by simp only [go_sem]) rfl rfl ?_
          simp (config := { decide := true }) only [go_sem, Int.reduceToNat, Nat.reduceAdd, Nat.reduceSub, Nat.reduceMul, Nat.reduceBEq, reduceIte, reduceCtorEq]
          refine callQ_fn 3 (opsAsked th nm k) (by simp only [go_sem]) rfl rfl ?_
          simp (config := { decide := true }) only [go_sem, Int.reduceToNat, Nat.reduceAdd, Nat.reduceSub, Nat.reduceMul, Nat.reduceBEq, reduceIte, reduceCtorEq]
          refine callQ_fn 3 (refAsked th nm k (by omega)) (by simp only [go_sem]) rfl rfl ?_
          simp (config := { decide := true }) only [go_sem, Int.reduceToNat, Nat.reduceAdd, Nat.reduceSub, Nat.reduceMul, Nat.reduceBEq, reduceIte, reduceCtorEq]
          refine callQ_fn 3 (opsWord th nm k h3 h4 (by omega)) (by simp only [go_sem]) rfl rfl ?_
          simp (config := { decide := true }) only [go_sem, Int.reduceToNat, Nat.reduceAdd, Nat.reduceSub, Nat.reduceMul, Nat.reduceBEq, reduceIte, reduceCtorEq]
          refine callQ_fn 3 (refWord th nm k h3 h4 (by omega)) (by simp only [go_sem]) rfl rfl ?_
          simp (config := { decide := true }) only [go_sem, Int.reduceToNat, Nat.reduceAdd, Nat.reduceSub, Nat.reduceMul, Nat.reduceBEq, reduceIte, reduceCtorEq]
end Go.Proofs.YtcpefnjofekibaaDoor
