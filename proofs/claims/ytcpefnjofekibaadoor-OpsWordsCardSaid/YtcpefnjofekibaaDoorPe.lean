/- Ops: the law on lines and their words. -/
import Derived.Test.YtcpefnjofekibaaDoorMd
namespace Go.Proofs.YtcpefnjofekibaaDoor
open Go.RowKit
set_option linter.unusedVariables false
set_option linter.unusedSimpArgs false
set_option maxRecDepth 8000

theorem regB_len {s : List UInt8} (h : 0 ≤ regB s) : s.length ≤ 8 := by
  unfold regB at h
  split at h
  · rename_i e; rw [e]; decide
  · split at h
    · rename_i e; rw [e]; decide
    · split at h
      · rename_i e; rw [e]; decide
      · split at h
        · rename_i e; rw [e]; decide
        · omega

theorem right_len {l : LT} (h : l.right = true) : l.rg.length ≤ 8 ∧ l.loc.length ≤ 8 ∧ l.lab.length ≤ 8 := by
  have hr := (right_iff l).mp h
  cases hr <;> refine ⟨?_, ?_, ?_⟩ <;> first | exact regB_len (by assumption) | exact nameB_len8 (by assumption) | simp

theorem words_small {l : LT} (h : Right l) (hn : inI l.n) : (wordsO l.op l.rg l.loc l.lab l.n).length ≤ 3 ∧ ∀ s ∈ wordsO l.op l.rg l.loc l.lab l.n, s.length ≤ 20 := by
  have k1 : movB.length = 3 := rfl
  have k2 : xchgB.length = 4 := rfl
  have k3 : mfenceB.length = 6 := rfl
  have k4 : cmpB.length = 3 := rfl
  have k5 : jmpB.length = 3 := rfl
  have k6 : jeB.length = 2 := rfl
  have k7 : jneB.length = 3 := rfl
  have k8 : ∀ loc, (atB loc).length = loc.length + 2 := fun loc => by simp [atB]
  have k9 : ∀ lab, (lab ++ [58] : List UInt8).length = lab.length + 1 := fun lab => by simp
  cases h with
  | imm rg n h1 =>
    show ([movB, rg, textB n] : List (List UInt8)).length ≤ 3 ∧ ∀ s ∈ ([movB, rg, textB n] : List (List UInt8)), s.length ≤ 20
    have := textB_length (n := n) hn
    have := regB_len h1
    simp only [List.length_cons, List.length_nil, List.forall_mem_cons, List.not_mem_nil, false_imp_iff, implies_true, and_true, k1, k2, k3, k4, k5, k6, k7, k8, k9]
    omega
  | load rg loc h1 h2 =>
    show ([movB, rg, atB loc] : List (List UInt8)).length ≤ 3 ∧ ∀ s ∈ ([movB, rg, atB loc] : List (List UInt8)), s.length ≤ 20
    have := regB_len h1
    have := nameB_len8 h2
    simp only [List.length_cons, List.length_nil, List.forall_mem_cons, List.not_mem_nil, false_imp_iff, implies_true, and_true, k1, k2, k3, k4, k5, k6, k7, k8, k9]
    omega
  | store rg loc h1 h2 =>
    show ([movB, atB loc, rg] : List (List UInt8)).length ≤ 3 ∧ ∀ s ∈ ([movB, atB loc, rg] : List (List UInt8)), s.length ≤ 20
    have := regB_len h1
    have := nameB_len8 h2
    simp only [List.length_cons, List.length_nil, List.forall_mem_cons, List.not_mem_nil, false_imp_iff, implies_true, and_true, k1, k2, k3, k4, k5, k6, k7, k8, k9]
    omega
  | put loc n h2 =>
    show ([movB, atB loc, textB n] : List (List UInt8)).length ≤ 3 ∧ ∀ s ∈ ([movB, atB loc, textB n] : List (List UInt8)), s.length ≤ 20
    have := textB_length (n := n) hn
    have := nameB_len8 h2
    simp only [List.length_cons, List.length_nil, List.forall_mem_cons, List.not_mem_nil, false_imp_iff, implies_true, and_true, k1, k2, k3, k4, k5, k6, k7, k8, k9]
    omega
  | xchg rg loc h1 h2 =>
    show ([xchgB, atB loc, rg] : List (List UInt8)).length ≤ 3 ∧ ∀ s ∈ ([xchgB, atB loc, rg] : List (List UInt8)), s.length ≤ 20
    have := regB_len h1
    have := nameB_len8 h2
    simp only [List.length_cons, List.length_nil, List.forall_mem_cons, List.not_mem_nil, false_imp_iff, implies_true, and_true, k1, k2, k3, k4, k5, k6, k7, k8, k9]
    omega
  | fence =>
    show ([mfenceB] : List (List UInt8)).length ≤ 3 ∧ ∀ s ∈ ([mfenceB] : List (List UInt8)), s.length ≤ 20
    simp only [List.length_cons, List.length_nil, List.forall_mem_cons, List.not_mem_nil, false_imp_iff, implies_true, and_true, k1, k2, k3, k4, k5, k6, k7, k8, k9]
    omega
  | cmp rg n h1 =>
    show ([cmpB, rg, textB n] : List (List UInt8)).length ≤ 3 ∧ ∀ s ∈ ([cmpB, rg, textB n] : List (List UInt8)), s.length ≤ 20
    have := textB_length (n := n) hn
    have := regB_len h1
    simp only [List.length_cons, List.length_nil, List.forall_mem_cons, List.not_mem_nil, false_imp_iff, implies_true, and_true, k1, k2, k3, k4, k5, k6, k7, k8, k9]
    omega
  | jmp lab h =>
    show ([jmpB, lab] : List (List UInt8)).length ≤ 3 ∧ ∀ s ∈ ([jmpB, lab] : List (List UInt8)), s.length ≤ 20
    have := nameB_len8 h
    simp only [List.length_cons, List.length_nil, List.forall_mem_cons, List.not_mem_nil, false_imp_iff, implies_true, and_true, k1, k2, k3, k4, k5, k6, k7, k8, k9]
    omega
  | je lab h =>
    show ([jeB, lab] : List (List UInt8)).length ≤ 3 ∧ ∀ s ∈ ([jeB, lab] : List (List UInt8)), s.length ≤ 20
    have := nameB_len8 h
    simp only [List.length_cons, List.length_nil, List.forall_mem_cons, List.not_mem_nil, false_imp_iff, implies_true, and_true, k1, k2, k3, k4, k5, k6, k7, k8, k9]
    omega
  | jne lab h =>
    show ([jneB, lab] : List (List UInt8)).length ≤ 3 ∧ ∀ s ∈ ([jneB, lab] : List (List UInt8)), s.length ≤ 20
    have := nameB_len8 h
    simp only [List.length_cons, List.length_nil, List.forall_mem_cons, List.not_mem_nil, false_imp_iff, implies_true, and_true, k1, k2, k3, k4, k5, k6, k7, k8, k9]
    omega
  | label lab h =>
    show ([lab ++ [58]] : List (List UInt8)).length ≤ 3 ∧ ∀ s ∈ ([lab ++ [58]] : List (List UInt8)), s.length ≤ 20
    have := nameB_len8 h
    simp only [List.length_cons, List.length_nil, List.forall_mem_cons, List.not_mem_nil, false_imp_iff, implies_true, and_true, k1, k2, k3, k4, k5, k6, k7, k8, k9]
    omega

theorem lineW_small (op : Int) (rg loc lab : List UInt8) (n : Int) (hn : inI n) : (lineW op rg loc lab n).length ≤ 3 ∧ ∀ s ∈ lineW op rg loc lab n, s.length ≤ 20 := by
  unfold lineW
  split
  · rename_i h
    exact words_small ((right_iff ⟨op, rg, loc, lab, n⟩).mp h) hn
  · simp

set_option maxHeartbeats 4000000 in
theorem opsBack_law (op : Int) (rg loc lab : List UInt8) (n : Int) (w : List (List UInt8)) (h1 : inI n) : HFn Tryd.prog 4 [lineV op rg loc lab n, .sl (strs w)] (.v (.bool true)) := by
  refine HCalls_body (fn := Tryd.f4) 69 [4] (by kernel_rfl) rfl (by kernel_rfl) (HW.run 400 (by kernel_rfl) ?_)
  simp (config := { decide := true }) only [go_sem, Int.reduceToNat, Nat.reduceAdd, Nat.reduceSub, Nat.reduceMul, Nat.reduceBEq, reduceIte, reduceCtorEq]
  refine callX_fn 3 (headPr) (by simp only [go_sem]) rfl ?_
  simp (config := { decide := true }) only [go_sem, Int.reduceToNat, Nat.reduceAdd, Nat.reduceSub, Nat.reduceMul, Nat.reduceBEq, reduceIte, reduceCtorEq]
  refine callX_fn 3 (greatLine op rg loc lab n) (by simp only [go_sem]) rfl ?_
  cases b1 : bigL rg loc lab with
  | true => simp (config := { decide := true }) only [go_sem, Int.reduceToNat, Nat.reduceAdd, Nat.reduceSub, Nat.reduceMul, Nat.reduceBEq, reduceIte, reduceCtorEq, b1]
  | false =>
    simp (config := { decide := true }) only [go_sem, Int.reduceToNat, Nat.reduceAdd, Nat.reduceSub, Nat.reduceMul, Nat.reduceBEq, reduceIte, reduceCtorEq, b1]
    refine callX_fn 3 (great w) (by simp only [go_sem]) rfl ?_
    cases b2 : bigW w with
    | true => simp (config := { decide := true }) only [go_sem, Int.reduceToNat, Nat.reduceAdd, Nat.reduceSub, Nat.reduceMul, Nat.reduceBEq, reduceIte, reduceCtorEq, b2]
    | false =>
      obtain ⟨s1, s2, s3⟩ := small_l b1
      obtain ⟨s4, s5⟩ := small_w b2
      have s6 : ∀ s ∈ w, s.length ≤ 1000000 := fun s hs => by have := s5 s hs; omega
      obtain ⟨z1, z2⟩ := lineW_small op rg loc lab n h1
      have z3 : ∀ s ∈ lineW op rg loc lab n, s.length ≤ 1000000 := fun s hs => by have := z2 s hs; omega
      simp (config := { decide := true }) only [go_sem, Int.reduceToNat, Nat.reduceAdd, Nat.reduceSub, Nat.reduceMul, Nat.reduceBEq, reduceIte, reduceCtorEq, b2]
      refine callX_fn 3 (opsWords op rg loc lab n (by omega) (by omega) h1) (by simp only [go_sem]) nz_owStrs ?_
      cases ha : rightB op rg loc lab n with
      | false =>
        have hw : lineW op rg loc lab n = [] := by unfold lineW; rw [ha]; rfl
        simp (config := { decide := true }) only [go_sem, Int.reduceToNat, Nat.reduceAdd, Nat.reduceSub, Nat.reduceMul, Nat.reduceBEq, reduceIte, reduceCtorEq, owStrs, hw]
        refine callX_fn 3 (get_at [] (zeroL, false) (by decide) (by decide) (by decide)) (by simp only [go_sem]) rfl ?_
        simp (config := { decide := true }) only [go_sem, Int.reduceToNat, Nat.reduceAdd, Nat.reduceSub, Nat.reduceMul, Nat.reduceBEq, reduceIte, reduceCtorEq, zeroL]
        refine callX_fn 3 (right_at op rg loc lab n false ha) (by simp only [go_sem]) rfl ?_
        simp (config := { decide := true }) only [go_sem, Int.reduceToNat, Nat.reduceAdd, Nat.reduceSub, Nat.reduceMul, Nat.reduceBEq, reduceIte, reduceCtorEq]
        cases hb : (getB w).2 with
        | false =>
          refine callX_fn 3 (get_at w (zeroL, false) s6 (by omega) (get_false hb)) (by simp only [go_sem]) rfl ?_
          simp (config := { decide := true }) only [go_sem, Int.reduceToNat, Nat.reduceAdd, Nat.reduceSub, Nat.reduceMul, Nat.reduceBEq, reduceIte, reduceCtorEq, zeroL]
        | true =>
          obtain ⟨y1, y2, y3⟩ := words_get (w := w) (l := (getB w).1) (by rw [← hb])
          have hs : getB w = ((getB w).1, true) := by rw [← hb]
          generalize (getB w).1 = y at y1 y2 y3 hs
          obtain ⟨yl1, yl2, yl3⟩ := right_len y1
          refine callX_fn 3 (get_at w (y, true) s6 (by omega) hs) (by simp only [go_sem]) rfl ?_
          simp (config := { decide := true }) only [go_sem, Int.reduceToNat, Nat.reduceAdd, Nat.reduceSub, Nat.reduceMul, Nat.reduceBEq, reduceIte, reduceCtorEq]
          refine callX_fn 3 (right_at y.op y.rg y.loc y.lab y.n true y1) (by simp only [go_sem]) rfl ?_
          simp (config := { decide := true }) only [go_sem, Int.reduceToNat, Nat.reduceAdd, Nat.reduceSub, Nat.reduceMul, Nat.reduceBEq, reduceIte, reduceCtorEq]
          refine callX_fn 3 (words_atL y.op y.rg y.loc y.lab y.n w (by omega) (by omega) y3 y2) (by simp only [go_sem]) nz_owStrs ?_
          simp (config := { decide := true }) only [go_sem, Int.reduceToNat, Nat.reduceAdd, Nat.reduceSub, Nat.reduceMul, Nat.reduceBEq, reduceIte, reduceCtorEq, owStrs]
          refine callX_fn 3 (same_at w w true (by omega) (by simp)) (by simp only [go_sem]) rfl ?_
          simp (config := { decide := true }) only [go_sem, Int.reduceToNat, Nat.reduceAdd, Nat.reduceSub, Nat.reduceMul, Nat.reduceBEq, reduceIte, reduceCtorEq]
      | true =>
        have hx : getB (lineW op rg loc lab n) = (⟨op, rg, loc, lab, n⟩, true) := get_words (l := ⟨op, rg, loc, lab, n⟩) ha h1
        have hne : 0 < (lineW op rg loc lab n).length := by
          have : lineW op rg loc lab n = wordsO op rg loc lab n := if_pos ha
          rw [this]
          exact List.length_pos_iff.mpr (words_ne ⟨op, rg, loc, lab, n⟩)
        have hne' : ((0 : Int) < ((lineW op rg loc lab n).length : Int)) = True := by simp only [eq_iff_iff, iff_true]; omega
        simp (config := { decide := true }) only [go_sem, Int.reduceToNat, Nat.reduceAdd, Nat.reduceSub, Nat.reduceMul, Nat.reduceBEq, reduceIte, reduceCtorEq, owStrs]
        refine callX_fn 3 (get_at (lineW op rg loc lab n) (⟨op, rg, loc, lab, n⟩, true) z3 (by omega) hx) (by simp only [go_sem]) rfl ?_
        simp (config := { decide := true }) only [go_sem, Int.reduceToNat, Nat.reduceAdd, Nat.reduceSub, Nat.reduceMul, Nat.reduceBEq, reduceIte, reduceCtorEq]
        refine callX_fn 3 (right_at op rg loc lab n true ha) (by simp only [go_sem]) rfl ?_
        simp (config := { decide := true }) only [go_sem, Int.reduceToNat, Nat.reduceAdd, Nat.reduceSub, Nat.reduceMul, Nat.reduceBEq, reduceIte, reduceCtorEq, hne']
        cases hb : (getB w).2 with
        | false =>
          refine callX_fn 3 (get_at w (zeroL, false) s6 (by omega) (get_false hb)) (by simp only [go_sem]) rfl ?_
          simp (config := { decide := true }) only [go_sem, Int.reduceToNat, Nat.reduceAdd, Nat.reduceSub, Nat.reduceMul, Nat.reduceBEq, reduceIte, reduceCtorEq, zeroL]
        | true =>
          obtain ⟨y1, y2, y3⟩ := words_get (w := w) (l := (getB w).1) (by rw [← hb])
          have hs : getB w = ((getB w).1, true) := by rw [← hb]
          generalize (getB w).1 = y at y1 y2 y3 hs
          obtain ⟨yl1, yl2, yl3⟩ := right_len y1
          refine callX_fn 3 (get_at w (y, true) s6 (by omega) hs) (by simp only [go_sem]) rfl ?_
          simp (config := { decide := true }) only [go_sem, Int.reduceToNat, Nat.reduceAdd, Nat.reduceSub, Nat.reduceMul, Nat.reduceBEq, reduceIte, reduceCtorEq]
          refine callX_fn 3 (right_at y.op y.rg y.loc y.lab y.n true y1) (by simp only [go_sem]) rfl ?_
          simp (config := { decide := true }) only [go_sem, Int.reduceToNat, Nat.reduceAdd, Nat.reduceSub, Nat.reduceMul, Nat.reduceBEq, reduceIte, reduceCtorEq]
          refine callX_fn 3 (words_atL y.op y.rg y.loc y.lab y.n w (by omega) (by omega) y3 y2) (by simp only [go_sem]) nz_owStrs ?_
          simp (config := { decide := true }) only [go_sem, Int.reduceToNat, Nat.reduceAdd, Nat.reduceSub, Nat.reduceMul, Nat.reduceBEq, reduceIte, reduceCtorEq, owStrs]
          refine callX_fn 3 (same_at w w true (by omega) (by simp)) (by simp only [go_sem]) rfl ?_
          simp (config := { decide := true }) only [go_sem, Int.reduceToNat, Nat.reduceAdd, Nat.reduceSub, Nat.reduceMul, Nat.reduceBEq, reduceIte, reduceCtorEq]
end Go.Proofs.YtcpefnjofekibaaDoor
