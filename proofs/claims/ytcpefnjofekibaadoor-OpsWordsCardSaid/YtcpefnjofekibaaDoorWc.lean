/- Word: cut, Lines and Words as the document has them. -/
import Derived.Test.YtcpefnjofekibaaDoorWb
import Derived.Test.YtcpefnjofekibaaDoorWp
namespace Go.Proofs.YtcpefnjofekibaaDoor
open Go.RowKit
set_option linter.unusedVariables false
set_option maxRecDepth 8000
set_option linter.unusedSimpArgs false

theorem byteEq {b c : UInt8} : ((b.toNat : Int) = (c.toNat : Int)) = (b = c) := by
  simp only [eq_iff_iff]
  constructor
  · intro h; exact UInt8.toNat_inj.1 (by omega)
  · rintro rfl; rfl

theorem refCut (s : List UInt8) (c : UInt8) (hs : s.length ≤ 1000000) : HFn Tryd.prog 39 [.v (str s), .v (.int .u8 (c.toNat : Int))] (owStrs (cutB c s)) := by
  refine HCalls_body (fn := Tryd.f39) 34 [4] (by kernel_rfl) rfl (by kernel_rfl) (HW.run 200 (by kernel_rfl) ?_)
  simp (config := { decide := true }) only [go_sem, Nat.reduceAdd, Nat.reduceSub, Nat.reduceMul, Nat.reduceBEq, reduceIte, reduceCtorEq]
  refine HW.loopG (fun k T H => ∃ (i from' : Nat) (out : List (List UInt8)), k = s.length - i ∧ i ≤ s.length ∧ from' ≤ i ∧ out.length ≤ from' ∧ cutB c s = out ++ cutB c (s.drop from') ∧ c ∉ (s.take i).drop from' ∧
    T 0 = .v (str s) ∧ T 1 = .v (.int .u8 (c.toNat : Int)) ∧ T 5 = .hd 0 0 out.length ∧ T 6 = .v (.int .i64 from') ∧ T 7 = .v (.int .i64 i) ∧ H = [some ⟨9, 1, strs out⟩]) s.length
    ⟨_, _, Ghost.nil 5 9 1 rfl, 0, 0, [], by simp, by omega, by omega, by simp, by simp, by simp, rfl, rfl, rfl, rfl, rfl, rfl⟩ ?_
  rintro k T H ⟨i, fr, out, rfl, hi, hfr, hout, hcut, hno, h0, h1, h5, h6, h7, rfl⟩
  refine HW.run 200 (by kernel_rfl) ?_
  rcases Nat.lt_or_ge i s.length with hlt | hge
  · have hlt' : (i : Int) < (s.length : Int) := by omega
    have hx : s[i]? = some s[i] := by simp [hlt]
    simp (config := { decide := true }) only [go_sem, Nat.reduceAdd, Nat.reduceSub, Nat.reduceMul, Nat.reduceBEq, reduceIte, reduceCtorEq, h0, h1, h5, h6, h7, hlt', hx, byteEq]
    refine ⟨fun he => ⟨by omega, by omega, _, _, Ghost.trunc [0, 1, 5, 6, 7] 1 (by omega) ?_ ?_, s.length - (i + 1), by omega, i + 1, i + 1, out ++ [(s.take i).drop fr], rfl, by omega, by omega, by simp; omega, ?_, ?_, ?_, ?_, ?_, ?_, ?_, ?_⟩,
      fun hne => ⟨_, _, Ghost.refl, s.length - (i + 1), by omega, i + 1, fr, out, rfl, by omega, by omega, by omega, hcut, ?_, ?_, ?_, ?_, ?_, ?_, rfl⟩⟩
    · simp (config := { decide := true }) only [go_sem, Nat.reduceBEq, reduceIte, h0, h1]
    · simp (config := { decide := true }) only [go_sem, Nat.reduceBEq, reduceIte]
    · have e : s.drop fr = (s.take i).drop fr ++ c :: s.drop (i + 1) := by
        have h1 : s.drop fr = (s.take i).drop fr ++ s.drop i := by
          conv => lhs; rw [← List.take_append_drop i s]
          rw [List.drop_append_of_le_length (by simp; omega)]
        rw [h1, List.drop_eq_getElem_cons hlt, he]
      rw [hcut, e, cutB_sep hno]
      simp
    · simp
    iterate 5
      · first | rfl | (simp (config := { decide := true }) only [go_sem, Nat.reduceBEq, reduceIte, h0, h1]; done) | (simp (config := { decide := true }) only [go_sem, Nat.reduceBEq, reduceIte]; rw [w64 (by omega) (by omega)]; rfl)
    · rfl
    · have e : (s.take (i + 1)).drop fr = (s.take i).drop fr ++ [s[i]] := by
        rw [List.take_add_one, hx, List.drop_append_of_le_length (by simp; omega)]
        rfl
      rw [e]
      simp only [List.mem_append, List.mem_singleton]
      rintro (h | h)
      · exact hno h
      · exact hne h.symm
    all_goals first | rfl | (simp (config := { decide := true }) only [go_sem, Nat.reduceBEq, reduceIte, h0, h1, h5, h6]; done) | (simp (config := { decide := true }) only [go_sem, Nat.reduceBEq, reduceIte]; rw [w64 (by omega) (by omega)]; rfl)
  · have hge' : ¬ (i : Int) < (s.length : Int) := by omega
    simp (config := { decide := true }) only [go_sem, Nat.reduceAdd, Nat.reduceSub, Nat.reduceMul, Nat.reduceBEq, reduceIte, reduceCtorEq, h0, h1, h5, h6, h7, hge']
    refine ⟨by omega, by omega, ?_⟩
    have e : i = s.length := by omega
    rw [e, List.take_length] at hno
    rw [hcut, cutB_plain hno]
    rfl
end Go.Proofs.YtcpefnjofekibaaDoor
