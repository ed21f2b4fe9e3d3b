/- Word: a text cut at its first byte c. -/
import Derived.Test.YtcpefnjofekibaaDoorWp
import Derived.Lib.IndexMore
namespace Go.Proofs.YtcpefnjofekibaaDoor
set_option linter.unusedVariables false
set_option maxRecDepth 8000

theorem index1 (c : UInt8) : ∀ s : List UInt8, (∃ p r, s = p ++ c :: r ∧ c ∉ p ∧ Lib.index s [c] = (p.length : Int)) ∨ (c ∉ s ∧ Lib.index s [c] = -1)
  | [] => .inr ⟨by simp, by simp [Lib.index]⟩
  | b :: l => by
    by_cases hb : c = b
    · subst hb
      exact .inl ⟨[], l, rfl, by simp, by simp [Lib.index, List.isPrefixOf]⟩
    · have hp : ([c] : List UInt8).isPrefixOf (b :: l) = false := by simp [List.isPrefixOf, hb]
      rcases index1 c l with ⟨p, r, rfl, h1, h2⟩ | ⟨h1, h2⟩
      · refine .inl ⟨b :: p, r, rfl, by simp [hb, h1], ?_⟩
        have hne : (p.length : Int) ≠ -1 := by omega
        simp only [Lib.index, hp, h2]
        simp [hne]
      · refine .inr ⟨by simp [hb, h1], ?_⟩
        simp only [Lib.index, hp, h2]
        simp

theorem cut1 (c : UInt8) (s : List UInt8) : (∃ p r, s = p ++ c :: r ∧ c ∉ p ∧ Lib.cut s [c] = (p, r, true)) ∨ (c ∉ s ∧ Lib.cut s [c] = (s, [], false)) := by
  rcases index1 c s with ⟨p, r, rfl, h1, h2⟩ | ⟨h1, h2⟩
  · refine .inl ⟨p, r, rfl, h1, ?_⟩
    unfold Lib.cut
    rw [h2, if_pos (by omega)]
    simp
  · refine .inr ⟨h1, ?_⟩
    unfold Lib.cut
    rw [h2, if_neg (by omega)]

theorem linesB_nil : linesB [] = [] := by decide

theorem linesB_step {s : List UInt8} (hs : s ≠ []) : linesB s = (Lib.cut s [10]).1 :: linesB (Lib.cut s [10]).2.1 ∧ (Lib.cut s [10]).2.1.length < s.length := by
  rcases cut1 10 s with ⟨p, r, rfl, h1, h2⟩ | ⟨h1, h2⟩
  · rw [h2]
    refine ⟨?_, by simp; omega⟩
    unfold linesB
    rw [cutB_sep h1]
    have hne := cutB_ne 10 r
    rw [List.getLast?_cons_of_ne_nil hne]
    split
    · rw [List.dropLast_cons_of_ne_nil hne]
    · rfl
  · rw [h2]
    refine ⟨?_, by simpa using List.length_pos_iff.2 hs⟩
    unfold linesB
    rw [cutB_plain h1]
    simp [cutB, hs]
end Go.Proofs.YtcpefnjofekibaaDoor
