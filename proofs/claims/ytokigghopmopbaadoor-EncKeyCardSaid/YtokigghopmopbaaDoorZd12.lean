/- Parts of the proof: Eu. -/
import Derived.Test.YtokigghopmopbaaDoorZd07
import Derived.Test.YtokigghopmopbaaDoorZd06
import Derived.Test.YtokigghopmopbaaDoorZd11
set_option linter.unusedSectionVars false
set_option linter.unusedVariables false
set_option linter.unusedSimpArgs false
namespace Go.Proofs.YtokigghopmopbaaDoor
open Go.RowKit
set_option maxRecDepth 8000
theorem wf_u16 {n : Int} (h : (Lit.int .u16 n).wf = true) : 0 ≤ n ∧ n < 65536 := by
  have h2 : IntKind.u16.min ≤ n ∧ n ≤ IntKind.u16.max := by simpa [Lit.wf] using h
  have e1 : IntKind.u16.min = 0 := by decide
  have e2 : IntKind.u16.max = 65535 := by decide
  rw [e1, e2] at h2
  omega
theorem fitS {s : Sta} (h : WfS s) : FitS s := by
  have hm : maxLen ≤ 9223372036854775807 := by decide
  intro n hn
  unfold numsB at hn
  rcases List.mem_append.1 hn with hn | hn
  · rcases List.mem_append.1 hn with hn | hn
    · rcases List.mem_append.1 hn with hn | hn
      · have := h.ml; rw [List.mem_singleton.1 hn]; unfold inI; omega
      · exact wf_inI (h.mem n hn)
    · have := h.tl; rw [List.mem_singleton.1 hn]; unfold inI; omega
  · obtain ⟨t, ht, hn⟩ := List.mem_flatMap.1 hn
    have w := h.ths t ht
    have w1 := w.rl
    have w2 := w.bl
    have w3 := wf_inI w.pc
    unfold numsT at hn
    rcases List.mem_append.1 hn with hn | hn
    · rcases List.mem_append.1 hn with hn | hn
      · rcases List.mem_append.1 hn with hn | hn
        · simp only [List.mem_cons, List.not_mem_nil, or_false] at hn
          unfold inI
          rcases hn with rfl | rfl | rfl
          · exact w3
          · split <;> omega
          · omega
        · exact wf_inI (w.regs n hn)
      · rw [List.mem_singleton.1 hn]; unfold inI; omega
    · unfold flatW at hn
      obtain ⟨x, hx, hn⟩ := List.mem_flatMap.1 hn
      obtain ⟨k1, k2⟩ := w.buf x hx
      simp only [List.mem_cons, List.not_mem_nil, or_false] at hn
      rcases hn with rfl | rfl
      · exact wf_inI k1
      · exact wf_inI k2
end Go.Proofs.YtokigghopmopbaaDoor
