/- Ops: the law on the words of a right line. -/
import Derived.Test.YtcpefnjofekibaaDoorPe
namespace Go.Proofs.YtcpefnjofekibaaDoor
open Go.RowKit
set_option linter.unusedVariables false
set_option linter.unusedSimpArgs false
set_option maxRecDepth 8000

theorem word_one {s : List UInt8} (h1 : s ≠ []) (h2 : (32 : UInt8) ∉ s) : wordsB s = [s] := by
  unfold wordsB
  rw [cutB_plain h2]
  cases s with
  | nil => exact absurd rfl h1
  | cons a s => simp

theorem all_no32 {s : List UInt8} {p : UInt8 → Bool} (h : s.all p = true) (hp : p 32 = false) : (32 : UInt8) ∉ s := fun hm => by
  have := List.all_eq_true.1 h _ hm
  rw [hp] at this; cases this

theorem textB_no32 (n : Int) : (32 : UInt8) ∉ textB n := by
  have hd := all_no32 (dB_digs n.natAbs) (by decide)
  unfold textB
  split
  · simp only [List.mem_cons, not_or]; exact ⟨by decide, hd⟩
  · exact hd

theorem words_one {l : LT} (h : Right l) : ∀ s ∈ wordsO l.op l.rg l.loc l.lab l.n, wordsB s = [s] := by
  have hr : ∀ rg, 0 ≤ regB rg → wordsB rg = [rg] := fun rg h1 => word_one (by rintro rfl; exact absurd h1 (by decide)) (all_no32 (regB_ld h1) (by decide))
  have hn : ∀ nm, nameB nm = true → wordsB nm = [nm] := fun nm h1 => word_one (by rintro rfl; cases h1) (all_no32 (nameB_ld h1) (by decide))
  have ha : ∀ nm, nameB nm = true → wordsB (atB nm) = [atB nm] := fun nm h1 => word_one (by simp [atB]) (by
    have := all_no32 (nameB_ld h1) (by decide)
    simp only [atB, List.mem_append, List.mem_singleton, not_or]
    exact ⟨⟨by decide, this⟩, by decide⟩)
  have hc : ∀ nm, nameB nm = true → wordsB (nm ++ [58]) = [nm ++ [58]] := fun nm h1 => word_one (by simp) (by
    have := all_no32 (nameB_ld h1) (by decide)
    simp only [List.mem_append, List.mem_singleton, not_or]
    exact ⟨this, by decide⟩)
  have ht : ∀ n, wordsB (textB n) = [textB n] := fun n => word_one (textB_ne n) (textB_no32 n)
  have k1 : wordsB movB = [movB] := by decide
  have k2 : wordsB xchgB = [xchgB] := by decide
  have k3 : wordsB mfenceB = [mfenceB] := by decide
  have k4 : wordsB cmpB = [cmpB] := by decide
  have k5 : wordsB jmpB = [jmpB] := by decide
  have k6 : wordsB jeB = [jeB] := by decide
  have k7 : wordsB jneB = [jneB] := by decide
  cases h with
  | imm rg n h1 => show ∀ s ∈ ([movB, rg, textB n] : List (List UInt8)), _; simp [k1, hr rg h1, ht]
  | load rg loc h1 h2 => show ∀ s ∈ ([movB, rg, atB loc] : List (List UInt8)), _; simp [k1, hr rg h1, ha loc h2]
  | store rg loc h1 h2 => show ∀ s ∈ ([movB, atB loc, rg] : List (List UInt8)), _; simp [k1, hr rg h1, ha loc h2]
  | put loc n h2 => show ∀ s ∈ ([movB, atB loc, textB n] : List (List UInt8)), _; simp [k1, ht, ha loc h2]
  | xchg rg loc h1 h2 => show ∀ s ∈ ([xchgB, atB loc, rg] : List (List UInt8)), _; simp [k2, hr rg h1, ha loc h2]
  | fence => show ∀ s ∈ ([mfenceB] : List (List UInt8)), _; simp [k3]
  | cmp rg n h1 => show ∀ s ∈ ([cmpB, rg, textB n] : List (List UInt8)), _; simp [k4, hr rg h1, ht]
  | jmp lab h => show ∀ s ∈ ([jmpB, lab] : List (List UInt8)), _; simp [k5, hn lab h]
  | je lab h => show ∀ s ∈ ([jeB, lab] : List (List UInt8)), _; simp [k6, hn lab h]
  | jne lab h => show ∀ s ∈ ([jneB, lab] : List (List UInt8)), _; simp [k7, hn lab h]
  | label lab h => show ∀ s ∈ ([lab ++ [58]] : List (List UInt8)), _; simp [hc lab h]

set_option maxHeartbeats 8000000 in
theorem opsWords_law (op : Int) (rg loc lab : List UInt8) (n : Int) (s : List UInt8) (h1 : inI n) : HFn Tryd.prog 8 [lineV op rg loc lab n, .v (str s)] (.v (.bool true)) := by
  have e : ∀ s : List UInt8, ((1000 : Int) < (s.length : Int)) = (1000 < s.length) := fun s => int_gt s.length 1000
  refine HCalls_body (fn := Tryd.f8) 93 [4] (by kernel_rfl) rfl (by kernel_rfl) (HW.run 400 (by kernel_rfl) ?_)
  simp (config := { decide := true }) only [go_sem, Int.reduceToNat, Nat.reduceAdd, Nat.reduceSub, Nat.reduceMul, Nat.reduceBEq, reduceIte, reduceCtorEq]
  refine callX_fn 3 (headPr) (by simp only [go_sem]) rfl ?_
  simp (config := { decide := true }) only [go_sem, Int.reduceToNat, Nat.reduceAdd, Nat.reduceSub, Nat.reduceMul, Nat.reduceBEq, reduceIte, reduceCtorEq]
  refine callX_fn 3 (greatLine op rg loc lab n) (by simp only [go_sem]) rfl ?_
  cases b1 : bigL rg loc lab with
  | true => simp (config := { decide := true }) only [go_sem, Int.reduceToNat, Nat.reduceAdd, Nat.reduceSub, Nat.reduceMul, Nat.reduceBEq, reduceIte, reduceCtorEq, b1]
  | false =>
    by_cases b4 : 1000 < s.length
    · simp (config := { decide := true }) only [go_sem, Int.reduceToNat, Nat.reduceAdd, Nat.reduceSub, Nat.reduceMul, Nat.reduceBEq, reduceIte, reduceCtorEq, b1, e, b4]
    · simp (config := { decide := true }) only [go_sem, Int.reduceToNat, Nat.reduceAdd, Nat.reduceSub, Nat.reduceMul, Nat.reduceBEq, reduceIte, reduceCtorEq, b1, e, b4]
      refine callX_fn 3 (opsRight op rg loc lab n) (by simp only [go_sem]) rfl ?_
      cases ha : rightB op rg loc lab n with
      | false => simp (config := { decide := true }) only [go_sem, Int.reduceToNat, Nat.reduceAdd, Nat.reduceSub, Nat.reduceMul, Nat.reduceBEq, reduceIte, reduceCtorEq, ha]
      | true =>
        simp (config := { decide := true }) only [go_sem, Int.reduceToNat, Nat.reduceAdd, Nat.reduceSub, Nat.reduceMul, Nat.reduceBEq, reduceIte, reduceCtorEq, ha]
        obtain ⟨s1, s2, s3⟩ := small_l b1
        refine callX_fn 3 (opsWords op rg loc lab n (by omega) (by omega) h1) (by simp only [go_sem]) nz_owStrs ?_
        have hw : lineW op rg loc lab n = wordsO op rg loc lab n := if_pos ha
        have hone : ∀ s ∈ wordsO op rg loc lab n, wordsB s = [s] := words_one (l := ⟨op, rg, loc, lab, n⟩) ((right_iff ⟨op, rg, loc, lab, n⟩).mp ha)
        obtain ⟨z1, z2⟩ := lineW_small op rg loc lab n h1
        have hne : wordsO op rg loc lab n ≠ [] := words_ne ⟨op, rg, loc, lab, n⟩
        rw [← hw] at hone hne
        generalize lineW op rg loc lab n = ws at *
        have hpos : 0 < ws.length := List.length_pos_iff.mpr hne
        simp (config := { decide := true }) only [go_sem, Int.reduceToNat, Nat.reduceAdd, Nat.reduceSub, Nat.reduceMul, Nat.reduceBEq, reduceIte, reduceCtorEq, owStrs]
        refine HW.loopG (fun μ T H => ∃ (i : Nat), μ = ws.length - i ∧ i ≤ ws.length ∧ T 0 = lineV op rg loc lab n ∧ T 1 = .v (str s) ∧ T 2 = .pt 0 1 0 0 ∧ T 4 = .v (.bool false) ∧ T 5 = .v (.bool true) ∧ T 6 = .hd 1 0 ws.length ∧ T 7 = .v (.int .i64 i) ∧ H = [some ⟨23, 5, [[.v (.int .i64 op), .v (str rg), .v (str loc), .v (str lab), .v (.int .i64 n)]]⟩, some ⟨9, 1, strs ws⟩]) ws.length ⟨_, _, Ghost.refl, 0, rfl, by omega, rfl, rfl, rfl, rfl, rfl, rfl, rfl, rfl⟩ ?_
        rintro μ T H ⟨i, rfl, hi, t0, t1, t2, t4, t5, t6, t7, rfl⟩
        refine HW.run 400 (by kernel_rfl) ?_
        by_cases hlt : i < ws.length
        · have hlt' : ((i : Int) < (ws.length : Int)) = True := by simp only [eq_iff_iff, iff_true]; omega
          have hx : ws[i]? = some ws[i] := List.getElem?_eq_getElem hlt
          have hm := List.getElem_mem hlt
          have hwx := hone _ hm
          have hlx := z2 _ hm
          generalize ws[i] = x at hx hwx hlx hm
          simp (config := { decide := true }) only [go_sem, Int.reduceToNat, Nat.reduceAdd, Nat.reduceSub, Nat.reduceMul, Nat.reduceBEq, reduceIte, reduceCtorEq, t0, t1, t2, t4, t5, t6, t7, hlt', hx]
          refine HW.quiet 120 follows (by kernel_rfl) ?_
          simp (config := { decide := true }) only [go_sem, Int.reduceToNat, Nat.reduceAdd, Nat.reduceSub, Nat.reduceMul, Nat.reduceBEq, reduceIte, reduceCtorEq, t0, t1, t2, t4, t5, t6, t7, hlt', hx]
          refine callQ_shut 3 (refWords x (by omega)) (by simp only [go_sem]) nz_owStrs ?_
          rw [hwx]
          simp (config := { decide := true }) only [go_sem, Int.reduceToNat, Nat.reduceAdd, Nat.reduceSub, Nat.reduceMul, Nat.reduceBEq, reduceIte, reduceCtorEq, t0, t1, t2, t4, t5, t6, t7, hlt', hx]
          refine callQ_shut 3 (refWords x (by omega)) (by simp only [go_sem]) nz_owStrs ?_
          rw [hwx]
          simp (config := { decide := true }) only [go_sem, Int.reduceToNat, Nat.reduceAdd, Nat.reduceSub, Nat.reduceMul, Nat.reduceBEq, reduceIte, reduceCtorEq, t0, t1, t2, t4, t5, t6, t7, hlt', hx]
          refine ⟨_, _, Ghost.refl, ws.length - (i + 1), by omega, i + 1, rfl, by omega, ?_, ?_, ?_, ?_, ?_, ?_, ?_, rfl⟩
          all_goals first | (simp (config := { decide := true }) only [go_sem, Nat.reduceBEq, reduceIte, t0, t1, t2, t4, t5, t6]; done) | (simp (config := { decide := true }) only [go_sem, Nat.reduceBEq, reduceIte]; rw [w64 (by omega) (by omega)]; rfl)
        · have hlt' : ((i : Int) < (ws.length : Int)) = False := by simp only [eq_iff_iff, iff_false]; omega
          simp (config := { decide := true }) only [go_sem, Int.reduceToNat, Nat.reduceAdd, Nat.reduceSub, Nat.reduceMul, Nat.reduceBEq, reduceIte, reduceCtorEq, t0, t1, t2, t4, t5, t6, t7, hlt']
          refine ⟨⟨by omega, by omega⟩, ⟨by omega, by omega⟩, ?_⟩
          have s6 : ∀ x ∈ ws ++ [s], x.length ≤ 1000000 := by
            intro x hx
            rcases List.mem_append.1 hx with h | h
            · have := z2 x h; omega
            · obtain rfl : x = s := by simpa using h
              omega
          have z3 : (ws ++ [s]).length ≤ 1000000 := by simp; omega
          have g1 : (1 ≤ (ws.length : Int)) = True := by simp only [eq_iff_iff, iff_true]; omega
          have g2 : ((ws.length : Int) ≤ 3) = True := by simp only [eq_iff_iff, iff_true]; omega
          cases hb : (getB (ws ++ [s])).2 with
          | false =>
            refine callX_fn 3 (get_at (ws ++ [s]) (zeroL, false) s6 z3 (get_false hb)) (by simp only [go_sem]) rfl ?_
            simp (config := { decide := true }) only [go_sem, Int.reduceToNat, Nat.reduceAdd, Nat.reduceSub, Nat.reduceMul, Nat.reduceBEq, reduceIte, reduceCtorEq, t0, t1, t2, t4, t5, t6, t7, zeroL, g1, g2]
            by_cases g3 : (ws.length : Int) < 3 <;> simp (config := { decide := true }) only [go_sem, Int.reduceToNat, Nat.reduceAdd, Nat.reduceSub, Nat.reduceMul, Nat.reduceBEq, reduceIte, reduceCtorEq, t0, t1, t2, t4, t5, t6, t7, g3]
          | true =>
            obtain ⟨y1, y2, y3⟩ := words_get (w := ws ++ [s]) (l := (getB (ws ++ [s])).1) (by rw [← hb])
            have hs : getB (ws ++ [s]) = ((getB (ws ++ [s])).1, true) := by rw [← hb]
            generalize (getB (ws ++ [s])).1 = y at y1 y2 y3 hs
            have y4 : (ws ++ [s]).length ≤ 3 := by
              rw [← y2]; exact (lineW_small y.op y.rg y.loc y.lab y.n y3).1
            rw [List.length_append, List.length_singleton] at y4
            have g3 : ((ws.length : Int) < 3) = True := by simp only [eq_iff_iff, iff_true]; omega
            refine callX_fn 3 (get_at (ws ++ [s]) (y, true) s6 z3 hs) (by simp only [go_sem]) rfl ?_
            simp (config := { decide := true }) only [go_sem, Int.reduceToNat, Nat.reduceAdd, Nat.reduceSub, Nat.reduceMul, Nat.reduceBEq, reduceIte, reduceCtorEq, t0, t1, t2, t4, t5, t6, t7, zeroL, g1, g2, g3]
            refine callX_fn 3 (right_at y.op y.rg y.loc y.lab y.n true y1) (by simp only [go_sem]) rfl ?_
            simp (config := { decide := true }) only [go_sem, Int.reduceToNat, Nat.reduceAdd, Nat.reduceSub, Nat.reduceMul, Nat.reduceBEq, reduceIte, reduceCtorEq, t0, t1, t2, t4, t5, t6, t7]
end Go.Proofs.YtcpefnjofekibaaDoor
