/- Word: Name as the document has it. -/
import Derived.Test.YtcpefnjofekibaaDoorWd
namespace Go.Proofs.YtcpefnjofekibaaDoor
open Go.RowKit
set_option linter.unusedVariables false
set_option linter.unusedSimpArgs false
set_option maxRecDepth 8000

theorem refName (s : List UInt8) (hs : s.length ≤ 1000000) : HFn Tryd.prog 36 [.v (str s)] (.v (.bool (nameB s))) := by
  refine HCalls_body (fn := Tryd.f36) 54 [2] (by kernel_rfl) rfl (by kernel_rfl) (HW.run 200 (by kernel_rfl) ?_)
  simp (config := { decide := true }) only [go_sem, Nat.reduceAdd, Nat.reduceSub, Nat.reduceMul, Nat.reduceBEq, reduceIte, reduceCtorEq]
  refine HW.loopG (fun k T H => ∃ (i : Nat), k = s.length - i ∧ i ≤ s.length ∧ (∀ j : Nat, j < i → ∀ b, s[j]? = some b → okB j b = true) ∧ T 0 = .v (str s) ∧ T 3 = .v (.int .i64 i) ∧ H = []) s.length
    ⟨_, _, Ghost.refl, 0, by simp, by omega, by simp, rfl, rfl, rfl⟩ ?_
  rintro k T H ⟨i, rfl, hi, hok, h0, h3, rfl⟩
  refine HW.run 200 (by kernel_rfl) ?_
  rcases Nat.lt_or_ge i s.length with hlt | hge
  · have hlt' : (i : Int) < (s.length : Int) := by omega
    have hx : s[i]? = some s[i] := by simp [hlt]
    have next : ∀ T' : Nat → HV, okB i s[i] = true → T' 0 = .v (str s) → T' 3 = .v (.int .i64 (IntKind.i64.wrap ((i : Int) + 1))) →
        GQ 54 0 (fun T' H' => ∃ k', k' < s.length - i ∧ ∃ (i : Nat), k' = s.length - i ∧ i ≤ s.length ∧ (∀ j : Nat, j < i → ∀ b, s[j]? = some b → okB j b = true) ∧ T' 0 = .v (str s) ∧ T' 3 = .v (.int .i64 i) ∧ H' = []) T' [] := by
      intro T' hb t0 t3
      refine ⟨_, _, Ghost.refl, s.length - (i + 1), by omega, i + 1, rfl, by omega, ?_, t0, ?_, rfl⟩
      · intro j hj b hjb
        rcases Nat.lt_or_ge j i with h | h
        · exact hok j h b hjb
        · have : j = i := by omega
          subst this
          rw [hx] at hjb; cases hjb; exact hb
      · rw [t3, w64 (by omega) (by omega)]; rfl
    simp (config := { decide := true, contextual := true }) only [go_sem, Nat.reduceAdd, Nat.reduceSub, Nat.reduceMul, Nat.reduceBEq, reduceIte, reduceCtorEq, h0, h3, hlt', hx]
    repeat' first | intro h | apply And.intro
    all_goals first
      | exact vb (nameB_bad hx (okB_false (by omega))).symm
      | (refine next _ (okB_true (by omega)) ?_ ?_ <;> simp (config := { decide := true }) only [go_sem, Nat.reduceBEq, reduceIte, h0])
  · have ei : i = s.length := by omega
    subst ei
    have hall : ∀ i : Nat, ∀ b, s[i]? = some b → okB i b = true := fun i b hb => hok i (List.getElem?_eq_some_iff.1 hb).1 b hb
    rw [nameB_good hall]
    simp (config := { decide := true, contextual := true }) only [go_sem, Nat.reduceAdd, Nat.reduceSub, Nat.reduceMul, Nat.reduceBEq, reduceIte, reduceCtorEq, h0, h3, Int.lt_irrefl]
    refine ⟨fun h1 => ⟨fun h8 => ?_, fun h8 => ?_⟩, fun h1 => ?_⟩
    · have e1 : (!s.isEmpty) = true := by cases s <;> simp_all
      have e2 : decide (s.length ≤ 8) = true := by rw [decide_eq_true_eq]; omega
      rw [e1, e2, Bool.true_and, Bool.true_and]
      refine callX_fn 3 (refKey s) (by simp only [go_sem]) rfl ?_
      simp (config := { decide := true, contextual := true }) only [go_sem, Nat.reduceAdd, Nat.reduceSub, Nat.reduceMul, Nat.reduceBEq, reduceIte, reduceCtorEq, h0]
      refine ⟨fun hk => ?_, fun hk => ?_⟩
      · refine callX_fn 3 (refReg s) (by simp only [go_sem]) rfl ?_
        simp (config := { decide := true, contextual := true }) only [go_sem, Nat.reduceAdd, Nat.reduceSub, Nat.reduceMul, Nat.reduceBEq, reduceIte, reduceCtorEq, h0, hk]
      · simp [hk]
    · have e2 : decide (s.length ≤ 8) = false := by rw [decide_eq_false_iff_not]; omega
      rw [e2]; simp
    · have e1 : (!s.isEmpty) = false := by cases s <;> simp_all; omega
      rw [e1]; simp
end Go.Proofs.YtcpefnjofekibaaDoor
