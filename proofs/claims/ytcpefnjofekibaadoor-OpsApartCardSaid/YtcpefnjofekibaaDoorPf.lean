/- Ops: the law on unlike lines and atoms. -/
import Derived.Test.YtcpefnjofekibaaDoorPe
namespace Go.Proofs.YtcpefnjofekibaaDoor
open Go.RowKit
set_option linter.unusedVariables false
set_option linter.unusedSimpArgs false
set_option maxRecDepth 8000

set_option maxHeartbeats 8000000 in
theorem opsApart_law (op : Int) (rg loc lab : List UInt8) (n : Int) (op' : Int) (rg' loc' lab' : List UInt8) (n' : Int) (th : Int) (nm : List UInt8) (k : Int) (th' : Int) (nm' : List UInt8) (k' : Int)
    (h1 : inI n) (h2 : inI n') (h3 : inI th) (h4 : inI k) (h5 : inI th') (h6 : inI k') :
    HFn Tryd.prog 6 [lineV op rg loc lab n, lineV op' rg' loc' lab' n', atomV th nm k, atomV th' nm' k'] (.v (.bool true)) := by
  have e : ∀ s : List UInt8, ((1000 : Int) < (s.length : Int)) = (1000 < s.length) := fun s => int_gt s.length 1000
  refine HCalls_body (fn := Tryd.f6) 69 [8] (by kernel_rfl) rfl (by kernel_rfl) (HW.run 400 (by kernel_rfl) ?_)
  simp (config := { decide := true }) only [go_sem, Int.reduceToNat, Nat.reduceAdd, Nat.reduceSub, Nat.reduceMul, Nat.reduceBEq, reduceIte, reduceCtorEq]
  refine callX_fn 3 (headPr) (by simp only [go_sem]) rfl ?_
  simp (config := { decide := true }) only [go_sem, Int.reduceToNat, Nat.reduceAdd, Nat.reduceSub, Nat.reduceMul, Nat.reduceBEq, reduceIte, reduceCtorEq]
  refine callX_fn 3 (greatLine op rg loc lab n) (by simp only [go_sem]) rfl ?_
  cases b1 : bigL rg loc lab with
  | true => simp (config := { decide := true }) only [go_sem, Int.reduceToNat, Nat.reduceAdd, Nat.reduceSub, Nat.reduceMul, Nat.reduceBEq, reduceIte, reduceCtorEq, b1]
  | false =>
    simp (config := { decide := true }) only [go_sem, Int.reduceToNat, Nat.reduceAdd, Nat.reduceSub, Nat.reduceMul, Nat.reduceBEq, reduceIte, reduceCtorEq, b1]
    refine callX_fn 3 (greatLine op' rg' loc' lab' n') (by simp only [go_sem]) rfl ?_
    cases b2 : bigL rg' loc' lab' with
    | true => simp (config := { decide := true }) only [go_sem, Int.reduceToNat, Nat.reduceAdd, Nat.reduceSub, Nat.reduceMul, Nat.reduceBEq, reduceIte, reduceCtorEq, b2]
    | false =>
      by_cases b3 : 1000 < nm.length
      · simp (config := { decide := true }) only [go_sem, Int.reduceToNat, Nat.reduceAdd, Nat.reduceSub, Nat.reduceMul, Nat.reduceBEq, reduceIte, reduceCtorEq, b2, e, b3]
      · by_cases b4 : 1000 < nm'.length
        · simp (config := { decide := true }) only [go_sem, Int.reduceToNat, Nat.reduceAdd, Nat.reduceSub, Nat.reduceMul, Nat.reduceBEq, reduceIte, reduceCtorEq, b2, e, b3, b4]
        · obtain ⟨s1, s2, s3⟩ := small_l b1
          obtain ⟨t1, t2, t3⟩ := small_l b2
          simp (config := { decide := true }) only [go_sem, Int.reduceToNat, Nat.reduceAdd, Nat.reduceSub, Nat.reduceMul, Nat.reduceBEq, reduceIte, reduceCtorEq, b2, e, b3, b4]
          refine HW.quiet 80 follows (by kernel_rfl) ?_
          simp (config := { decide := true }) only [go_sem, Int.reduceToNat, Nat.reduceAdd, Nat.reduceSub, Nat.reduceMul, Nat.reduceBEq, reduceIte, reduceCtorEq]
          refine callQ_fn 3 (opsRight op rg loc lab n) (by simp only [go_sem]) rfl rfl ?_
          cases hr1 : rightB op rg loc lab n
          case' true =>
            simp (config := { decide := true }) only [go_sem, Int.reduceToNat, Nat.reduceAdd, Nat.reduceSub, Nat.reduceMul, Nat.reduceBEq, reduceIte, reduceCtorEq, hr1]
            refine callQ_fn 3 (opsRight op' rg' loc' lab' n') (by simp only [go_sem]) rfl rfl ?_
            cases hr2 : rightB op' rg' loc' lab' n'
            case' true =>
              simp (config := { decide := true }) only [go_sem, Int.reduceToNat, Nat.reduceAdd, Nat.reduceSub, Nat.reduceMul, Nat.reduceBEq, reduceIte, reduceCtorEq, hr2]
              refine callQ_shut 3 (opsWords op rg loc lab n (by omega) (by omega) h1) (by simp only [go_sem]) nz_owStrs ?_
              simp (config := { decide := true }) only [go_sem, Int.reduceToNat, Nat.reduceAdd, Nat.reduceSub, Nat.reduceMul, Nat.reduceBEq, reduceIte, reduceCtorEq]
              refine callQ_shut 3 (opsWords op' rg' loc' lab' n' (by omega) (by omega) h2) (by simp only [go_sem]) nz_owStrs ?_
              simp (config := { decide := true }) only [go_sem, Int.reduceToNat, Nat.reduceAdd, Nat.reduceSub, Nat.reduceMul, Nat.reduceBEq, reduceIte, reduceCtorEq]
              have z1 := (lineW_small op rg loc lab n h1).1
              refine callQ_fn 3 (refSame (lineW op rg loc lab n) (lineW op' rg' loc' lab' n') (by omega)) (by simp only [go_sem]) rfl rfl ?_
              have hq : decide (lineW op rg loc lab n = lineW op' rg' loc' lab' n') = (decide (op = op') && (decide (rg = rg') && (decide (loc = loc') && (decide (lab = lab') && decide (n = n'))))) := by
                rw [Bool.eq_iff_iff]
                simp only [decide_eq_true_eq, Bool.and_eq_true]
                constructor
                · intro hw
                  have := words_inj (l := ⟨op, rg, loc, lab, n⟩) (m := ⟨op', rg', loc', lab', n'⟩) hr1 hr2 h1 h2 hw
                  simpa using this
                · rintro ⟨rfl, rfl, rfl, rfl, rfl⟩; rfl
              cases hc : (decide (op = op') && (decide (rg = rg') && (decide (loc = loc') && (decide (lab = lab') && decide (n = n'))))) <;> rw [hc] at hq <;> simp (config := { decide := true }) only [go_sem, Int.reduceToNat, Nat.reduceAdd, Nat.reduceSub, Nat.reduceMul, Nat.reduceBEq, reduceIte, reduceCtorEq, hq, hc]
          all_goals try simp (config := { decide := true }) only [go_sem, Int.reduceToNat, Nat.reduceAdd, Nat.reduceSub, Nat.reduceMul, Nat.reduceBEq, reduceIte, reduceCtorEq, hr1]
          all_goals try simp (config := { decide := true }) only [go_sem, Int.reduceToNat, Nat.reduceAdd, Nat.reduceSub, Nat.reduceMul, Nat.reduceBEq, reduceIte, reduceCtorEq, hr2]
          all_goals
            refine HW.quiet 80 follows (by kernel_rfl) ?_
            simp (config := { decide := true }) only [go_sem, Int.reduceToNat, Nat.reduceAdd, Nat.reduceSub, Nat.reduceMul, Nat.reduceBEq, reduceIte, reduceCtorEq]
            refine callQ_fn 3 (opsAsked th nm k) (by simp only [go_sem]) rfl rfl ?_
            cases ha1 : askedB th nm <;> simp (config := { decide := true }) only [go_sem, Int.reduceToNat, Nat.reduceAdd, Nat.reduceSub, Nat.reduceMul, Nat.reduceBEq, reduceIte, reduceCtorEq, ha1]
          all_goals
            refine callQ_fn 3 (opsAsked th' nm' k') (by simp only [go_sem]) rfl rfl ?_
            cases ha2 : askedB th' nm' <;> simp (config := { decide := true }) only [go_sem, Int.reduceToNat, Nat.reduceAdd, Nat.reduceSub, Nat.reduceMul, Nat.reduceBEq, reduceIte, reduceCtorEq, ha2]
          all_goals
            refine callQ_fn 3 (opsWord th nm k h3 h4 (by omega)) (by simp only [go_sem]) rfl rfl ?_
            simp (config := { decide := true }) only [go_sem, Int.reduceToNat, Nat.reduceAdd, Nat.reduceSub, Nat.reduceMul, Nat.reduceBEq, reduceIte, reduceCtorEq]
            refine callQ_fn 3 (opsWord th' nm' k' h5 h6 (by omega)) (by simp only [go_sem]) rfl rfl ?_
            have hq : decide (wordA th nm k = wordA th' nm' k') = (decide (th = th') && (decide (nm = nm') && decide (k = k'))) := by
              rw [Bool.eq_iff_iff]
              simp only [decide_eq_true_eq, Bool.and_eq_true]
              constructor
              · intro hw
                have := word_inj (a := ⟨th, nm, k⟩) (b := ⟨th', nm', k'⟩) ha1 ha2 h4 h6 hw
                simpa using this
              · rintro ⟨rfl, rfl, rfl⟩; rfl
            cases hc : (decide (th = th') && (decide (nm = nm') && decide (k = k'))) <;> rw [hc] at hq <;> simp (config := { decide := true }) only [go_sem, Int.reduceToNat, Nat.reduceAdd, Nat.reduceSub, Nat.reduceMul, Nat.reduceBEq, reduceIte, reduceCtorEq, hq, hc]
end Go.Proofs.YtcpefnjofekibaaDoor
