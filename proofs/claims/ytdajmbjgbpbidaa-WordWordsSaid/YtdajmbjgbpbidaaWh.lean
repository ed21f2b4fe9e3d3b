/- Word: Lines as the program has them. -/
import Derived.Test.YtdajmbjgbpbidaaWf
import Derived.Test.YtdajmbjgbpbidaaWg
import Derived.Test.YtdajmbjgbpbidaaHiU
namespace Go.Proofs.Ytdajmbjgbpbidaa
open Go.RowKit
set_option linter.unusedVariables false
set_option linter.unusedSimpArgs false
set_option maxRecDepth 8000

/-- What holds at the label. -/
def LinesI (s : List UInt8) (k : Nat) (T : Nat → HV) (H : Heap) : Prop := ∃ out cur, k = cur.length ∧ linesB s = out ++ linesB cur ∧ out.length + cur.length ≤ s.length ∧
  T 0 = .v (str cur) ∧ T 3 = .hd 0 0 out.length ∧ H = [some ⟨9, 1, strs out⟩]

theorem lines (s : List UInt8) (hs : s.length ≤ 1000000) : HFn Try.prog 11 [.v (str s)] (owStrs (linesB s)) := by
  refine HCalls_body (fn := Try.f11) 21 [2] rfl rfl (by kernel_rfl) (HW.run 200 (by kernel_rfl) ?_)
  simp (config := { decide := true }) only [go_sem, Nat.reduceAdd, Nat.reduceSub, Nat.reduceMul, Nat.reduceBEq, reduceIte, reduceCtorEq]
  refine (fun (pass : ∀ k T H, LinesI s k T H → HW Try.prog 21 0 _ (jumpQ 0 (GQ 21 0 fun T' H' => ∃ k', k' < k ∧ LinesI s k' T' H') _) T H) => HW.scopeG 0 (LinesI s) rfl (HW.seq (HW.run 60 (by kernel_rfl) ?_)) (fun k T H h => HW.seq (HW.skip (pass k T H h)))) ?_
  · simp (config := { decide := true }) only [go_sem, Nat.reduceAdd, Nat.reduceSub, Nat.reduceMul, Nat.reduceBEq, reduceIte, reduceCtorEq]
    refine HW.ghost (Ghost.nil 3 9 1 rfl) (HW.seq (HW.label (HW.mono (pass s.length _ _ ⟨[], s, rfl, rfl, by simp, rfl, rfl, rfl⟩) ?_)))
    intro e T H hq
    cases e with
    | goto l =>
      obtain ⟨h1, T', H', g, k, _, hk⟩ := hq
      exact ⟨h1, T', H', g, k, hk⟩
    | _ => exact hq
  · rintro k T H ⟨out, cur, rfl, hl, hb, h0, h3, rfl⟩
    refine HW.run 200 (by kernel_rfl) ?_
    by_cases hc : cur = []
    · subst hc
      simp (config := { decide := true }) only [go_sem, Nat.reduceAdd, Nat.reduceSub, Nat.reduceMul, Nat.reduceBEq, reduceIte, reduceCtorEq, h0, h3]
      rw [hl, linesB_nil, List.append_nil]
      rfl
    · simp (config := { decide := true }) only [go_sem, Nat.reduceAdd, Nat.reduceSub, Nat.reduceMul, Nat.reduceBEq, reduceIte, reduceCtorEq, h0, h3, hc]
      obtain ⟨hst, hlt⟩ := linesB_step hc
      refine callX_fn 3 (stringsCut cur [10] (by omega)) (by simp only [go_sem]) rfl ?_
      generalize Lib.cut cur [10] = ct at hst hlt ⊢
      obtain ⟨ln, rs, fd⟩ := ct
      simp (config := { decide := true }) only [go_sem, Nat.reduceAdd, Nat.reduceSub, Nat.reduceMul, Nat.reduceBEq, reduceIte, reduceCtorEq, h0, h3]
      refine ⟨by omega, _, _, Ghost.trunc [0, 3] 1 (by omega) ?_ ?_, rs.length, hlt, out ++ [ln], rs, rfl, ?_, ?_, ?_, ?_, rfl⟩
      · simp (config := { decide := true }) only [go_sem, Nat.reduceBEq, reduceIte]
      · simp (config := { decide := true }) only [go_sem, Nat.reduceBEq, reduceIte]
      · rw [hl, hst]; simp
      · simp only [List.length_append, List.length_cons, List.length_nil] at hlt ⊢
        omega
      · simp (config := { decide := true }) only [go_sem, Nat.reduceBEq, reduceIte]
      · simp (config := { decide := true }) only [go_sem, Nat.reduceBEq, reduceIte]
end Go.Proofs.Ytdajmbjgbpbidaa
