/- Word: Lines, Words, Key, Reg as the document has them; key, Reg as the program has them. -/
import Derived.Test.YtcpefnjofekibaaDoorWc
namespace Go.Proofs.YtcpefnjofekibaaDoor
open Go.RowKit
set_option linter.unusedVariables false
set_option linter.unusedSimpArgs false
set_option maxRecDepth 8000

theorem refKey (s : List UInt8) : HFn Tryd.prog 51 [.v (str s)] (.v (.bool (keyB s))) := by
  refine HCalls_body (fn := Tryd.f51) 49 [2] (by kernel_rfl) rfl (by kernel_rfl) (HW.run 200 (by kernel_rfl) ?_)
  simp (config := { decide := true, contextual := true }) only [go_sem, Nat.reduceAdd, Nat.reduceSub, Nat.reduceMul, Nat.reduceBEq, reduceIte, reduceCtorEq]
  repeat' first | intro h | apply And.intro
  all_goals first | exact vb (keyB_in (by simp [keysB, *])).symm | exact vb (keyB_out (by simp [keysB, *])).symm | (refine vb ?_; simp [keyB, keysB, *])

theorem key (s : List UInt8) : HFn Tryd.prog 47 [.v (str s)] (.v (.bool (keyB s))) := by
  refine HCalls_body (fn := Tryd.f47) 17 [2] (by kernel_rfl) rfl (by kernel_rfl) (HW.run 200 (by kernel_rfl) ?_)
  simp (config := { decide := true, contextual := true }) only [go_sem, Nat.reduceAdd, Nat.reduceSub, Nat.reduceMul, Nat.reduceBEq, reduceIte, reduceCtorEq]
  repeat' first | intro h | apply And.intro
  all_goals first | exact vb (keyB_in (by simp [keysB, *])).symm | exact vb (keyB_out (by simp [keysB, *])).symm | (refine vb ?_; simp [keyB, keysB, *])

theorem refWords (s : List UInt8) (hs : s.length ≤ 1000000) : HFn Tryd.prog 25 [.v (str s)] (owStrs (wordsB s)) := by
  refine HCalls_body (fn := Tryd.f25) 27 [2] (by kernel_rfl) rfl (by kernel_rfl) (HW.run 200 (by kernel_rfl) ?_)
  simp (config := { decide := true }) only [go_sem, Nat.reduceAdd, Nat.reduceSub, Nat.reduceMul, Nat.reduceBEq, reduceIte, reduceCtorEq]
  refine callX_fn 3 (refCut s 32 hs) (by simp only [go_sem]; rfl) nz_owStrs ?_
  have hlen := cutB_length 32 s
  have hw : wordsB s = (cutB 32 s).filter fun w => !w.isEmpty := rfl
  generalize cutB 32 s = l at hlen hw ⊢
  simp (config := { decide := true }) only [go_sem, owStrs, Nat.reduceAdd, Nat.reduceSub, Nat.reduceMul, Nat.reduceBEq, reduceIte, reduceCtorEq]
  refine HW.loopG (fun k T H => ∃ (i : Nat), k = l.length - i ∧ i ≤ l.length ∧
    T 4 = .hd 0 0 l.length ∧ T 3 = .hd 1 0 ((l.take i).filter fun w => !w.isEmpty).length ∧ T 5 = .v (.int .i64 i) ∧ H = [some ⟨9, 1, strs l⟩, some ⟨9, 1, strs ((l.take i).filter fun w => !w.isEmpty)⟩]) l.length
    ⟨_, _, Ghost.nil 3 9 1 rfl, 0, by simp, by omega, rfl, rfl, rfl, rfl⟩ ?_
  rintro k T H ⟨i, rfl, hi, h4, h3, h5, rfl⟩
  have hfl : ((l.take i).filter fun w => !w.isEmpty).length ≤ i := Nat.le_trans (List.length_filter_le _ _) (by simp; omega)
  refine HW.run 200 (by kernel_rfl) ?_
  rcases Nat.lt_or_ge i l.length with hlt | hge
  · have hlt' : (i : Int) < (l.length : Int) := by omega
    have hx : l[i]? = some l[i] := by simp [hlt]
    have ht : l.take (i + 1) = l.take i ++ [l[i]] := by rw [List.take_add_one, hx]; rfl
    simp (config := { decide := true }) only [go_sem, Nat.reduceAdd, Nat.reduceSub, Nat.reduceMul, Nat.reduceBEq, reduceIte, reduceCtorEq, h4, h3, h5, hlt', hx]
    have hf : ¬ l[i] = [] → (l.take (i + 1)).filter (fun w => !w.isEmpty) = ((l.take i).filter fun w => !w.isEmpty) ++ [l[i]] := fun hne => by
      rw [ht, List.filter_append]
      simp [List.filter_cons, hne]
    have hf2 : l[i] = [] → (l.take (i + 1)).filter (fun w => !w.isEmpty) = ((l.take i).filter fun w => !w.isEmpty) := fun he => by
      rw [ht, List.filter_append]
      simp [List.filter_cons, he]
    refine ⟨fun hne => ⟨by omega, _, _, Ghost.trunc [3, 4, 5] 2 (by omega) ?_ ?_, l.length - (i + 1), by omega, i + 1, rfl, by omega, ?_, ?_, ?_, ?_⟩,
      fun he => ⟨_, _, Ghost.refl, l.length - (i + 1), by omega, i + 1, rfl, by omega, ?_, ?_, ?_, ?_⟩⟩
    · simp (config := { decide := true }) only [go_sem, Nat.reduceBEq, reduceIte, h4]
    · simp (config := { decide := true }) only [go_sem, Nat.reduceBEq, reduceIte]
    · simp (config := { decide := true }) only [go_sem, Nat.reduceBEq, reduceIte, h4]
    · rw [hf hne]
      simp (config := { decide := true }) only [go_sem, Nat.reduceBEq, reduceIte]
    · simp (config := { decide := true }) only [go_sem, Nat.reduceBEq, reduceIte]
      rw [w64 (by omega) (by omega)]; rfl
    · rw [hf hne]; rfl
    · simp (config := { decide := true }) only [go_sem, Nat.reduceBEq, reduceIte, h4]
    · rw [hf2 he]
      simp (config := { decide := true }) only [go_sem, Nat.reduceBEq, reduceIte, h3]
    · simp (config := { decide := true }) only [go_sem, Nat.reduceBEq, reduceIte]
      rw [w64 (by omega) (by omega)]; rfl
    · rw [hf2 he]
  · have ei : i = l.length := by omega
    subst ei
    rw [List.take_length] at h3
    simp (config := { decide := true }) only [go_sem, Nat.reduceAdd, Nat.reduceSub, Nat.reduceMul, Nat.reduceBEq, reduceIte, reduceCtorEq, h4, h3, h5, hw, Int.lt_irrefl]

theorem regNm_inj {i j : Int} (hi : 0 ≤ i ∧ i < 4) (hj : 0 ≤ j ∧ j < 4) (h : regNm i = regNm j) : i = j := by
  rcases (by omega : i = 0 ∨ i = 1 ∨ i = 2 ∨ i = 3) with rfl | rfl | rfl | rfl <;> rcases (by omega : j = 0 ∨ j = 1 ∨ j = 2 ∨ j = 3) with rfl | rfl | rfl | rfl <;> first | rfl | (exact absurd h (by decide))

theorem regB_in {s : List UInt8} {i : Nat} (hi : i < 4) (h : regNm (i : Int) = s) : regB s = (i : Int) := by
  subst h
  rcases (by omega : i = 0 ∨ i = 1 ∨ i = 2 ∨ i = 3) with rfl | rfl | rfl | rfl <;> decide

theorem regB_out {s : List UInt8} (h : ∀ j : Nat, j < 4 → s ≠ regNm (j : Int)) : regB s = -1 := by
  have h0 : s ≠ regNm 0 := h 0 (by omega)
  have h1 : s ≠ regNm 1 := h 1 (by omega)
  have h2 : s ≠ regNm 2 := h 2 (by omega)
  have h3 : s ≠ regNm 3 := h 3 (by omega)
  unfold regB
  rw [if_neg h0, if_neg h1, if_neg h2, if_neg h3]

theorem refReg (s : List UInt8) : HFn Tryd.prog 35 [.v (str s)] (.v (.int .i64 (regB s))) := by
  refine HCalls_body (fn := Tryd.f35) 13 [2] (by kernel_rfl) rfl (by kernel_rfl) (HW.run 200 (by kernel_rfl) ?_)
  simp (config := { decide := true }) only [go_sem, Nat.reduceAdd, Nat.reduceSub, Nat.reduceMul, Nat.reduceBEq, reduceIte, reduceCtorEq]
  refine HW.loopG (fun k T H => ∃ (i : Nat), k = 4 - i ∧ i ≤ 4 ∧ (∀ j : Nat, j < i → s ≠ regNm j) ∧ T 0 = .v (str s) ∧ T 3 = .v (.int .i64 i) ∧ H = []) 4
    ⟨_, _, Ghost.refl, 0, by simp, by omega, by simp, rfl, rfl, rfl⟩ ?_
  rintro k T H ⟨i, rfl, hi, hno, h0, h3, rfl⟩
  refine HW.run 200 (by kernel_rfl) ?_
  rcases Nat.lt_or_ge i 4 with hlt | hge
  · have hlt' : (i : Int) < 4 := by omega
    simp (config := { decide := true }) only [go_sem, Nat.reduceAdd, Nat.reduceSub, Nat.reduceMul, Nat.reduceBEq, reduceIte, reduceCtorEq, h0, h3, hlt']
    refine callX_fn 3 (refRegName i) (by simp only [go_sem]) rfl ?_
    simp (config := { decide := true }) only [go_sem, Nat.reduceAdd, Nat.reduceSub, Nat.reduceMul, Nat.reduceBEq, reduceIte, reduceCtorEq, h0, h3]
    refine ⟨fun he => ?_, fun hne => ⟨_, _, Ghost.refl, 4 - (i + 1), by omega, i + 1, rfl, by omega, ?_, ?_, ?_, rfl⟩⟩
    · rw [regB_in hlt he]
    · intro j hj e
      rcases Nat.lt_or_ge j i with h | h
      · exact hno j h e
      · have : j = i := by omega
        subst this; exact hne e.symm
    · simp (config := { decide := true }) only [go_sem, Nat.reduceBEq, reduceIte, h0]
    · simp (config := { decide := true }) only [go_sem, Nat.reduceBEq, reduceIte]
      rw [w64 (by omega) (by omega)]; rfl
  · have ei : i = 4 := by omega
    subst ei
    simp (config := { decide := true }) only [go_sem, Nat.reduceAdd, Nat.reduceSub, Nat.reduceMul, Nat.reduceBEq, reduceIte, reduceCtorEq, h0, h3, Int.cast_ofNat_Int, Int.lt_irrefl]
    rw [regB_out hno]

theorem reg (s : List UInt8) : HFn Tryd.prog 32 [.v (str s)] (.v (.int .i64 (regB s))) := by
  refine HCalls_body (fn := Tryd.f32) 13 [2] (by kernel_rfl) rfl (by kernel_rfl) (HW.run 200 (by kernel_rfl) ?_)
  simp (config := { decide := true }) only [go_sem, Nat.reduceAdd, Nat.reduceSub, Nat.reduceMul, Nat.reduceBEq, reduceIte, reduceCtorEq]
  refine HW.loopG (fun k T H => ∃ (i : Nat), k = 4 - i ∧ i ≤ 4 ∧ (∀ j : Nat, j < i → s ≠ regNm j) ∧ T 0 = .v (str s) ∧ T 4 = .v (.int .i64 i) ∧ H = []) 4
    ⟨_, _, Ghost.refl, 0, by simp, by omega, by simp, rfl, rfl, rfl⟩ ?_
  rintro k T H ⟨i, rfl, hi, hno, h0, h3, rfl⟩
  refine HW.run 200 (by kernel_rfl) ?_
  rcases Nat.lt_or_ge i 4 with hlt | hge
  · have hlt' : (i : Int) < 4 := by omega
    simp (config := { decide := true }) only [go_sem, Nat.reduceAdd, Nat.reduceSub, Nat.reduceMul, Nat.reduceBEq, reduceIte, reduceCtorEq, h0, h3, hlt']
    refine callX_fn 3 (regName i) (by simp only [go_sem]) rfl ?_
    simp (config := { decide := true }) only [go_sem, Nat.reduceAdd, Nat.reduceSub, Nat.reduceMul, Nat.reduceBEq, reduceIte, reduceCtorEq, h0, h3]
    refine ⟨fun he => ?_, fun hne => ⟨_, _, Ghost.refl, 4 - (i + 1), by omega, i + 1, rfl, by omega, ?_, ?_, ?_, rfl⟩⟩
    · rw [regB_in hlt he]
    · intro j hj e
      rcases Nat.lt_or_ge j i with h | h
      · exact hno j h e
      · have : j = i := by omega
        subst this; exact hne e.symm
    · simp (config := { decide := true }) only [go_sem, Nat.reduceBEq, reduceIte, h0]
    · simp (config := { decide := true }) only [go_sem, Nat.reduceBEq, reduceIte]
      rw [w64 (by omega) (by omega)]; rfl
  · have ei : i = 4 := by omega
    subst ei
    simp (config := { decide := true }) only [go_sem, Nat.reduceAdd, Nat.reduceSub, Nat.reduceMul, Nat.reduceBEq, reduceIte, reduceCtorEq, h0, h3, Int.cast_ofNat_Int, Int.lt_irrefl]
    rw [regB_out hno]
end Go.Proofs.YtcpefnjofekibaaDoor
