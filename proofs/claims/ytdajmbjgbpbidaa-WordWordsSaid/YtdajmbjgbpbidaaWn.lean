/- Word: parts, names. -/
import Derived.Test.YtdajmbjgbpbidaaWm
namespace Go.Proofs.Ytdajmbjgbpbidaa
open Go.RowKit
set_option linter.unusedVariables false
set_option linter.unusedSimpArgs false
set_option maxRecDepth 8000

theorem cutB_snoc (c : UInt8) (t : List UInt8) : ∀ s : List UInt8, cutB c (s ++ c :: t) = cutB c s ++ cutB c t
  | [] => by simp [cutB]
  | b :: s => by
    have ih := cutB_snoc c t s
    simp only [List.cons_append, cutB]
    split
    · rw [ih]; rfl
    · rw [ih]
      have hne := cutB_ne c s
      cases hc : cutB c s with
      | nil => exact absurd hc hne
      | cons w r => rfl

theorem linesB_snoc (s : List UInt8) : linesB (s ++ [10]) = cutB 10 s := by
  unfold linesB
  rw [cutB_snoc 10 [] s]
  simp [cutB]

theorem linesB_parts (s t : List UInt8) : linesB (s ++ [10] ++ t) = linesB (s ++ [10]) ++ linesB t := by
  rw [linesB_snoc]
  unfold linesB
  rw [List.append_assoc, List.singleton_append, cutB_snoc 10 t s]
  have hne := cutB_ne 10 t
  have e : (cutB 10 s ++ cutB 10 t).getLast? = (cutB 10 t).getLast? := by
    rw [List.getLast?_append, List.getLast?_eq_some_getLast hne]
    rfl
  rw [e]
  split
  · rw [List.dropLast_append_of_ne_nil hne]
  · rfl

theorem wordsB_parts (s t : List UInt8) : wordsB (s ++ [32] ++ t) = wordsB s ++ wordsB t := by
  unfold wordsB
  rw [List.append_assoc, List.singleton_append, cutB_snoc 32 t s, List.filter_append]

theorem wordsB_length (s : List UInt8) : (wordsB s).length ≤ s.length + 1 := Nat.le_trans (List.length_filter_le _ _) (cutB_length 32 s)
theorem linesB_length (s : List UInt8) : (linesB s).length ≤ s.length + 1 := by
  have := cutB_length 10 s
  unfold linesB
  split
  · simp; omega
  · omega

theorem wordParts_law (s t : List UInt8) : HFn Try.prog 6 [.v (str s), .v (str t)] (.v (.bool true)) := by
  refine HCalls_body (fn := Try.f6) 49 [4] rfl rfl (by kernel_rfl) (HW.run 400 (by kernel_rfl) ?_)
  simp (config := { decide := true }) only [go_sem, Nat.reduceAdd, Nat.reduceSub, Nat.reduceMul, Nat.reduceBEq, reduceIte, reduceCtorEq]
  refine callX_fn 3 (headPr) (by simp only [go_sem]) rfl ?_
  by_cases h : (1000 : Int) < s.length
  · simp (config := { decide := true }) only [go_sem, Nat.reduceAdd, Nat.reduceSub, Nat.reduceMul, Nat.reduceBEq, reduceIte, reduceCtorEq, h]
  · by_cases h2 : (1000 : Int) < t.length
    · simp (config := { decide := true }) only [go_sem, Nat.reduceAdd, Nat.reduceSub, Nat.reduceMul, Nat.reduceBEq, reduceIte, reduceCtorEq, h, h2]
    · have l1 := linesB_length (s ++ [10])
      have l2 := linesB_length (s ++ [10] ++ t)
      have l3 := linesB_length t
      have w1 := wordsB_length s
      have w2 := wordsB_length t
      have w3 := wordsB_length (s ++ [32] ++ t)
      simp only [List.length_append, List.length_cons, List.length_nil] at l1 l2 l3 w1 w2 w3
      simp (config := { decide := true }) only [go_sem, Nat.reduceAdd, Nat.reduceSub, Nat.reduceMul, Nat.reduceBEq, reduceIte, reduceCtorEq, h, h2]
      repeat refine And.intro (by omega) ?_
      refine callX_fn 3 (lines (s ++ [10]) (by simp; omega)) (by simp only [go_sem]) nz_owStrs ?_
      simp (config := { decide := true }) only [go_sem, Nat.reduceAdd, Nat.reduceSub, Nat.reduceMul, Nat.reduceBEq, reduceIte, reduceCtorEq, owStrs]
      repeat refine And.intro (by omega) ?_
      refine callX_fn 3 (lines (s ++ [10] ++ t) (by simp; omega)) (by simp only [go_sem]) nz_owStrs ?_
      simp (config := { decide := true }) only [go_sem, Nat.reduceAdd, Nat.reduceSub, Nat.reduceMul, Nat.reduceBEq, reduceIte, reduceCtorEq, owStrs]
      repeat refine And.intro (by omega) ?_
      refine callX_fn 3 (lines t (by omega)) (by simp only [go_sem]) nz_owStrs ?_
      simp (config := { decide := true }) only [go_sem, Nat.reduceAdd, Nat.reduceSub, Nat.reduceMul, Nat.reduceBEq, reduceIte, reduceCtorEq, owStrs]
      repeat refine And.intro (by omega) ?_
      refine callX_fn 3 (same_at (linesB (s ++ [10] ++ t)) (by omega)) (by rw [linesB_parts]; simp only [go_sem]) rfl ?_
      simp (config := { decide := true }) only [go_sem, Nat.reduceAdd, Nat.reduceSub, Nat.reduceMul, Nat.reduceBEq, reduceIte, reduceCtorEq]
      repeat refine And.intro (by omega) ?_
      refine callX_fn 3 (wordsPr (s ++ [32] ++ t) (by simp; omega)) (by simp only [go_sem]) nz_owStrs ?_
      simp (config := { decide := true }) only [go_sem, Nat.reduceAdd, Nat.reduceSub, Nat.reduceMul, Nat.reduceBEq, reduceIte, reduceCtorEq, owStrs]
      refine callX_fn 3 (wordsPr s (by omega)) (by simp only [go_sem]) nz_owStrs ?_
      simp (config := { decide := true }) only [go_sem, Nat.reduceAdd, Nat.reduceSub, Nat.reduceMul, Nat.reduceBEq, reduceIte, reduceCtorEq, owStrs]
      repeat refine And.intro (by omega) ?_
      refine callX_fn 3 (wordsPr t (by omega)) (by simp only [go_sem]) nz_owStrs ?_
      simp (config := { decide := true }) only [go_sem, Nat.reduceAdd, Nat.reduceSub, Nat.reduceMul, Nat.reduceBEq, reduceIte, reduceCtorEq, owStrs]
      repeat refine And.intro (by omega) ?_
      refine callX_fn 3 (same_at (wordsB (s ++ [32] ++ t)) (by omega)) (by rw [wordsB_parts]; simp only [go_sem]) rfl ?_
      simp (config := { decide := true }) only [go_sem, Nat.reduceAdd, Nat.reduceSub, Nat.reduceMul, Nat.reduceBEq, reduceIte, reduceCtorEq]

/-- A byte put behind a text, and ahead of it. -/
theorem nameB_snoc {s : List UInt8} (h : nameB s = true) (c : UInt8) : nameB (s ++ [c]) = (ldB c && decide ((s ++ [c]).length ≤ 8) && !keyB (s ++ [c]) && decide (regB (s ++ [c]) < 0)) := by
  cases s with
  | nil => simp [nameB, headB] at h
  | cons b r =>
    have hh : headB (b :: r) = true := by
      simp only [nameB, Bool.and_eq_true] at h; exact h.1.1.1
    have : headB ((b :: r) ++ [c]) = ldB c := by
      simp only [headB, Bool.and_eq_true] at hh
      simp only [List.cons_append, headB, hh.1, List.all_append, hh.2, List.all_cons, List.all_nil, Bool.true_and, Bool.and_true]
    unfold nameB
    rw [this]

theorem nameB_len {s : List UInt8} (h : nameB s = true) : s.length ≤ 8 := by
  simp only [nameB, Bool.and_eq_true, decide_eq_true_eq] at h
  exact h.1.1.2

theorem nameB_blank (s : List UInt8) (c : UInt8) : nameB ([c] ++ s ++ [32]) = false := by
  have : headB ([c] ++ s ++ [32]) = false := by
    have h32 : ldB 32 = false := by decide
    simp only [List.cons_append, List.nil_append, headB, List.all_append, List.all_cons, List.all_nil, h32, Bool.false_and, Bool.and_false]
  unfold nameB
  rw [this]
  rfl

set_option maxHeartbeats 4000000 in
theorem wordNames_law (s : List UInt8) (c : UInt8) : HFn Try.prog 8 [.v (str s), .v (.int .u8 (c.toNat : Int))] (.v (.bool true)) := by
  refine HCalls_body (fn := Try.f8) 74 [4] rfl rfl (by kernel_rfl) (HW.run 400 (by kernel_rfl) ?_)
  simp (config := { decide := true }) only [go_sem, Nat.reduceAdd, Nat.reduceSub, Nat.reduceMul, Nat.reduceBEq, reduceIte, reduceCtorEq]
  refine callX_fn 3 (headPr) (by simp only [go_sem]) rfl ?_
  by_cases h : (1000 : Int) < s.length
  · simp (config := { decide := true }) only [go_sem, Nat.reduceAdd, Nat.reduceSub, Nat.reduceMul, Nat.reduceBEq, reduceIte, reduceCtorEq, h]
  · simp (config := { decide := true }) only [go_sem, Nat.reduceAdd, Nat.reduceSub, Nat.reduceMul, Nat.reduceBEq, reduceIte, reduceCtorEq, h]
    refine callX_fn 3 (namePr s) (by simp only [go_sem]) rfl ?_
    cases hn : nameB s with
    | false => simp (config := { decide := true }) only [go_sem, Nat.reduceAdd, Nat.reduceSub, Nat.reduceMul, Nat.reduceBEq, reduceIte, reduceCtorEq, h]
    | true =>
      have h8 := nameB_len hn
      have h8' : (s.length : Int) ≤ 8 := by omega
      have hlen : ((s ++ [c]).length : Int) = (s.length : Int) + 1 := by simp
      have h97 : (97 : Int) ≤ (c.toNat : Int) ∨ ¬ (97 : Int) ≤ (c.toNat : Int) := Decidable.em _
      obtain ⟨e, he, hx⟩ : ∃ e : Bool, e = ldB c ∧ (∀ p1 p2 p3 p4 : Bool, p1 = decide ((97 : Int) ≤ (c.toNat : Int)) → p2 = decide ((c.toNat : Int) ≤ 122) → p3 = decide ((48 : Int) ≤ (c.toNat : Int)) → p4 = decide ((c.toNat : Int) ≤ 57) → e = ((p1 && p2) || (p3 && p4))) := by
        refine ⟨_, rfl, ?_⟩
        rintro p1 p2 p3 p4 rfl rfl rfl rfl
        rw [Bool.eq_iff_iff]
        simp only [ldB, letB, Bool.or_eq_true, Bool.and_eq_true, decide_eq_true_eq]
        omega
      obtain ⟨nb, hnb⟩ : ∃ nb, nameB (s ++ [c]) = nb := ⟨_, rfl⟩
      obtain ⟨kb, hkb⟩ : ∃ kb, keyB (s ++ [c]) = kb := ⟨_, rfl⟩
      have hnb' := nameB_snoc hn c
      rw [hnb, hkb, ← he] at hnb'
      have hlast : nameB ([c] ++ s ++ [32]) = false := nameB_blank s c
      by_cases p1 : (97 : Int) ≤ (c.toNat : Int) <;> by_cases p2 : (c.toNat : Int) ≤ 122 <;> by_cases p3 : (48 : Int) ≤ (c.toNat : Int) <;> by_cases p4 : (c.toNat : Int) ≤ 57
      all_goals
        have hx' := hx _ _ _ _ rfl rfl rfl rfl
        simp only [p1, p2, p3, p4, decide_true, decide_false, Bool.and_true, Bool.true_and, Bool.false_and, Bool.and_false, Bool.or_true, Bool.true_or, Bool.or_false, Bool.false_or] at hx'
        subst hx'
        simp (config := { decide := true }) only [go_sem, Nat.reduceAdd, Nat.reduceSub, Nat.reduceMul, Nat.reduceBEq, reduceIte, reduceCtorEq, h, UInt8.ofNat_toNat, p1, p2, p3, p4]
        repeat refine And.intro (by omega) ?_
        refine callX_fn 3 (name_at (s ++ [c]) nb hnb) rfl rfl ?_
        have last : ∀ {k : List Item → KS} {all l : List Oper} {d : Option Nat} {r : List Item} {T : Nat → HV} {H : Heap}, k (.ops all l :: r) (updO T d (nameV (.v (.bool false)) H).1) (nameV (.v (.bool false)) H).2 → callX k Try.prog 15 H [.v (str ([c] ++ s ++ [32]))] all d l r T :=
          fun hk => callX_fn 3 (name_at _ false hlast) rfl rfl hk
        simp only [List.length_append, List.length_cons, List.length_nil, Nat.zero_add] at hnb'
        by_cases hL : s.length + 1 ≤ 8
        · have hLi : (((s.length + 1 : Nat)) : Int) ≤ 8 := by omega
          have hLj : (s.length : Int) + 1 ≤ 8 := by omega
          simp (config := { decide := true }) only [go_sem, Nat.reduceAdd, Nat.reduceSub, Nat.reduceMul, Nat.reduceBEq, reduceIte, reduceCtorEq, h, UInt8.ofNat_toNat, p1, p2, p3, p4, hL, hLi, hLj, h8']
          first
          | refine callX_fn 3 (hkb ▸ refKey (s ++ [c]) : HFn Try.prog 21 [.v (str (s ++ [c]))] (.v (.bool kb))) rfl rfl ?_
            cases kb with
            | true =>
              have e : nb = false := by rw [hnb']; simp
              subst e
              simp (config := { decide := true }) only [go_sem, Nat.reduceAdd, Nat.reduceSub, Nat.reduceMul, Nat.reduceBEq, reduceIte, reduceCtorEq, h, UInt8.ofNat_toNat, p1, p2, p3, p4, hL, hLi, hLj, h8']
              repeat refine And.intro (by omega) ?_
              refine last ?_
              simp (config := { decide := true }) only [go_sem, Nat.reduceAdd, Nat.reduceSub, Nat.reduceMul, Nat.reduceBEq, reduceIte, reduceCtorEq]
            | false =>
              simp (config := { decide := true }) only [go_sem, Nat.reduceAdd, Nat.reduceSub, Nat.reduceMul, Nat.reduceBEq, reduceIte, reduceCtorEq, h, UInt8.ofNat_toNat, p1, p2, p3, p4, hL, hLi, hLj, h8']
              refine callX_fn 3 (refReg (s ++ [c])) rfl rfl ?_
              by_cases hr : regB (s ++ [c]) < 0
              · have e : nb = true := by rw [hnb']; simp [hL, hr]
                subst e
                simp (config := { decide := true }) only [go_sem, Nat.reduceAdd, Nat.reduceSub, Nat.reduceMul, Nat.reduceBEq, reduceIte, reduceCtorEq, h, UInt8.ofNat_toNat, p1, p2, p3, p4, hL, hLi, hLj, h8', hr]
                repeat refine And.intro (by omega) ?_
                refine last ?_
                simp (config := { decide := true }) only [go_sem, Nat.reduceAdd, Nat.reduceSub, Nat.reduceMul, Nat.reduceBEq, reduceIte, reduceCtorEq]
              · have e : nb = false := by rw [hnb']; simp [hr]
                subst e
                simp (config := { decide := true }) only [go_sem, Nat.reduceAdd, Nat.reduceSub, Nat.reduceMul, Nat.reduceBEq, reduceIte, reduceCtorEq, h, UInt8.ofNat_toNat, p1, p2, p3, p4, hL, hLi, hLj, h8', hr]
                repeat refine And.intro (by omega) ?_
                refine last ?_
                simp (config := { decide := true }) only [go_sem, Nat.reduceAdd, Nat.reduceSub, Nat.reduceMul, Nat.reduceBEq, reduceIte, reduceCtorEq]
          | have e : nb = false := by rw [hnb']; rfl
            subst e
            simp (config := { decide := true }) only [go_sem, Nat.reduceAdd, Nat.reduceSub, Nat.reduceMul, Nat.reduceBEq, reduceIte, reduceCtorEq, h, UInt8.ofNat_toNat, p1, p2, p3, p4, hL, hLi, hLj, h8']
            repeat refine And.intro (by omega) ?_
            refine last ?_
            simp (config := { decide := true }) only [go_sem, Nat.reduceAdd, Nat.reduceSub, Nat.reduceMul, Nat.reduceBEq, reduceIte, reduceCtorEq]
        · have hLi : ¬ (((s.length + 1 : Nat)) : Int) ≤ 8 := by omega
          have hLj : ¬ (s.length : Int) + 1 ≤ 8 := by omega
          have e : nb = false := by rw [hnb']; simp [hL]
          subst e
          simp (config := { decide := true }) only [go_sem, Nat.reduceAdd, Nat.reduceSub, Nat.reduceMul, Nat.reduceBEq, reduceIte, reduceCtorEq, h, UInt8.ofNat_toNat, p1, p2, p3, p4, hL, hLi, hLj, h8']
          repeat refine And.intro (by omega) ?_
          refine last ?_
          simp (config := { decide := true }) only [go_sem, Nat.reduceAdd, Nat.reduceSub, Nat.reduceMul, Nat.reduceBEq, reduceIte, reduceCtorEq]
end Go.Proofs.Ytdajmbjgbpbidaa
