/- Parts of the proof: Ci, Ch, Cj, Co, Cl, Cr, Lk, Cu, De, Ct. -/
import Derived.Test.YteieinhgdjjdoaaZc11
import Derived.Test.YteieinhgdjjdoaaZc10
import Derived.Test.YteieinhgdjjdoaaZc09
import Derived.Shelf.SlIterI.Nil
import Derived.Shelf.SortM.Plain
import Derived.Shelf.SortM.SortNone
import Derived.Test.YteieinhgdjjdoaaProg
import Derived.KernelRfl
set_option linter.unusedSectionVars false
namespace Go.Proofs.Yteieinhgdjjdoaa
open Go.RowKit
set_option linter.unusedVariables false
set_option linter.unusedSimpArgs false
set_option maxRecDepth 8000
abbrev pushH (p : Prg) (s : Sta) (y : Thd) (x : Stp) (mem : List Int) (ths : List (List HV)) (c : HV) (t : Nat) : Heap :=
  [some ⟨25, 2, [[.sl (ints p.init), .sl (thrs p.thr)]]⟩, some ⟨38, 2, [[.sl (ints s.mem), .sl (thds s.ths)]]⟩,
   some ⟨38, 2, [[.v (.slice none 0 0), .v (.slice none 0 0)]]⟩,
   some ⟨50, 4, [[.v (.int .i64 y.pc), .sl (ints y.regs), .v (.bool y.eq), .sl (wrts y.buf)]]⟩,
   some ⟨3, 1, ints mem⟩, some ⟨50, 4, ths⟩,
   some ⟨38, 2, [[c, .hd 5 0 s.ths.length]]⟩, some ⟨116, 1, [[.pt 5 s.ths.length t 0]]⟩,
   some ⟨44, 5, [[.v (.int .i64 x.op), .v (.int .i64 x.reg), .v (.int .i64 x.loc), .v (.int .i64 x.n), .v (.int .i64 x.to)]]⟩]
set_option maxHeartbeats 8000000 in
theorem pushC (p : Prg) (s : Sta) (y z : Thd) (x : Stp) (m' : List Int) (t : Nat) (loc n : Int) (ht : t < s.ths.length) (hml : s.mem.length ≤ 100000) (hyb : y.buf.length ≤ 100000) (hm' : m'.length = s.mem.length) :
    HCalls Try.prog 78 (pushH p s y x m' (thdsO (s.ths.set t z)) (.hd 4 0 s.mem.length) t) [.v (.int .i64 loc), .v (.int .i64 n), .pt 3 1 0 0, .pt 7 1 0 0, .pt 1 1 0 0, .pt 6 1 0 0]
      (fun r H' => r = .tu [] ∧ H' = pushH p s y x m' (thdsO (s.ths.set t { z with buf := y.buf ++ [(loc, n)] })) (.ow 3 1 (ints s.mem)) t) := by
  refine HCalls_bodyC (fn := Try.f78) 21 [] (by kernel_rfl) rfl rfl (by kernel_rfl) (HW.weaken (Q' := fun e => GQ _ _ (endC _ _ _ _ e)) (HW.run 400 (by kernel_rfl) ?_) (fun _ _ _ h => h))
  have hst2 : ∀ (z : Thd) X, ((thdsO (s.ths.set t z)).set t X)[t]? = some X := fun z => set_get (by rw [thdsO_length, List.length_set]; exact ht)
  have hx2 : ∀ z : Thd, (s.ths.set t z)[t]? = some z := fun z => by simp [ht]
  have hlv : (s.ths.length == s.ths.length && s.ths.length != 0) = true := by
    rw [Bool.and_eq_true]
    exact ⟨beq_self_eq_true _, by simp only [bne_iff_ne]; omega⟩
  simp (config := { decide := true }) only [go_sem, Int.reduceToNat, Nat.reduceAdd, Nat.reduceSub, Nat.reduceMul, Nat.reduceBEq, reduceIte, reduceCtorEq, hst2, hx2, hlv, List.length_set]
  refine HW.mixed 80 7 (9, 0) [6] follows (by kernel_rfl) (by decide) ?_
  simp (config := { decide := true }) only [go_sem, Int.reduceToNat, Nat.reduceAdd, Nat.reduceSub, Nat.reduceMul, Nat.reduceBEq, reduceIte, reduceCtorEq, hst2, hx2, hlv, List.length_set]
  refine callM_nm (bufPush y.buf loc n (by omega)) rfl rfl ?_
  simp (config := { decide := true }) only [go_sem, Int.reduceToNat, Nat.reduceAdd, Nat.reduceSub, Nat.reduceMul, Nat.reduceBEq, reduceIte, reduceCtorEq, hst2, hx2, hlv, List.length_set, List.map_set, List.set_set]
  refine callX_nm (cloneInts s.mem (by omega)) rfl rfl ?_
  simp (config := { decide := true }) only [go_sem, Int.reduceToNat, Nat.reduceAdd, Nat.reduceSub, Nat.reduceMul, Nat.reduceBEq, reduceIte, reduceCtorEq, hst2, hx2, hlv, List.length_set, List.map_set, List.set_set, List.length_append, List.length_singleton]
  refine GQ.step (Ghost.absorb 6 0 0) ?_
  simp (config := { decide := true }) only [go_sem, Int.reduceToNat, Nat.reduceAdd, Nat.reduceSub, Nat.reduceMul, Nat.reduceBEq, reduceIte, reduceCtorEq, hst2, hx2, hlv, List.length_set, List.map_set, List.set_set, List.length_append, List.length_singleton]
  refine GQ.step (Ghost.absorb 5 t 3) ?_
  simp (config := { decide := true }) only [go_sem, Int.reduceToNat, Nat.reduceAdd, Nat.reduceSub, Nat.reduceMul, Nat.reduceBEq, reduceIte, reduceCtorEq, hst2, hx2, hlv, List.length_set, List.map_set, List.set_set, List.length_append, List.length_singleton]
  refine GQ.done ?_
  simp (config := { decide := true }) only [go_sem, Int.reduceToNat, Nat.reduceAdd, Nat.reduceSub, Nat.reduceMul, Nat.reduceBEq, reduceIte, reduceCtorEq, hst2, hx2, hlv, List.length_set, List.map_set, List.set_set, List.length_append, List.length_singleton, packV_nil0, endP_eq]
  try exact ⟨rfl, rfl, rfl⟩
end Go.Proofs.Yteieinhgdjjdoaa
namespace Go.Proofs.Yteieinhgdjjdoaa
open Go.RowKit
set_option linter.unusedVariables false
set_option linter.unusedSimpArgs false
set_option maxRecDepth 8000
theorem setTh_nat' {s : Sta} {t : Nat} {mem : List Int} {y : Thd} : setTh s (t : Int) mem y = ⟨mem, s.ths.set t y⟩ := by unfold setTh; rw [Int.toNat_natCast]
set_option maxHeartbeats 4000000 in
theorem tsoDrain (s : Sta) (t : Nat) (y : Thd) (hx : s.ths[t]? = some y) (hml : s.mem.length ≤ 100000) (htl : s.ths.length ≤ 1000) (hrl : ∀ t ∈ s.ths, t.regs.length ≤ 100000 ∧ t.buf.length ≤ 100000) :
    HFn Try.prog 66 [staH s, .v (.int .i64 t)] (.tu [staO (if (drainB y.buf s.mem).2.2 = true then setTh s t (drainB y.buf s.mem).2.1 { y with buf := (drainB y.buf s.mem).1 } else s), .v (.bool (drainB y.buf s.mem).2.2)]) := by
  refine HCalls_bodyC (fn := Try.f66) 36 [.cell 4 38, .tmp 5] (by kernel_rfl) rfl rfl (by kernel_rfl) (HW.weaken (Q' := fun e => GQ _ _ (endC _ _ _ _ e)) (HW.run 400 (by kernel_rfl) ?_) (fun _ _ _ h => h))
  have ht : t < s.ths.length := (List.getElem?_eq_some_iff.1 hx).1
  have hyp : y ∈ s.ths := List.mem_of_getElem? hx
  obtain ⟨_, hyb⟩ := hrl _ hyp
  have hc2 : ((t : Int) < (s.ths.length : Int)) = True := by rw [int_lt]; simp [ht]
  have hst : ∀ X, ((thdsO s.ths).set t X)[t]? = some X := set_get (by rw [thdsO_length]; exact ht)
  have hlv : (s.ths.length == s.ths.length && s.ths.length != 0) = true := by
    rw [Bool.and_eq_true]
    exact ⟨beq_self_eq_true _, by simp only [bne_iff_ne]; omega⟩
  simp (config := { decide := true }) only [go_sem, Int.reduceToNat, Nat.reduceAdd, Nat.reduceSub, Nat.reduceMul, Nat.reduceBEq, reduceIte, reduceCtorEq]
  refine callX_fn 3 (tsoOwn s hml htl hrl) (by simp only [go_sem]) (by simp only [go_sem]) ?_
  simp (config := { decide := true }) only [go_sem, Int.reduceToNat, Nat.reduceAdd, Nat.reduceSub, Nat.reduceMul, Nat.reduceBEq, reduceIte, reduceCtorEq]
  refine HW.ghost (Ghost.open 3 t 3) ?_
  simp (config := { decide := true }) only [go_sem, Int.reduceToNat, Nat.reduceAdd, Nat.reduceSub, Nat.reduceMul, Nat.reduceBEq, reduceIte, reduceCtorEq, hx]
  refine HW.mixed 100 16 (6, 0) [8] follows (by kernel_rfl) (by decide) ?_
  simp (config := { decide := true }) only [go_sem, Int.reduceToNat, Nat.reduceAdd, Nat.reduceSub, Nat.reduceMul, Nat.reduceBEq, reduceIte, reduceCtorEq, hx, hc2, hlv, hst, List.map_set, List.set_set, List.length_set]
  refine callM_fn 3 (bufDrain y.buf s.mem (by omega) (by omega)) (by simp only [go_sem]) (by simp only [go_sem]) ?_
  have hdm : (drainB y.buf s.mem).2.1.length = s.mem.length := by
    unfold drainB
    split
    · rfl
    · split
      · exact setI_length
      · rfl
  cases hd : (drainB y.buf s.mem).2.2 with
  | true =>
    rw [if_pos rfl, setTh_nat']
    simp (config := { decide := true }) only [go_sem, Int.reduceToNat, Nat.reduceAdd, Nat.reduceSub, Nat.reduceMul, Nat.reduceBEq, reduceIte, reduceCtorEq, hx, hc2, hlv, hst, List.map_set, List.set_set, List.length_set, hd, hdm]
    refine GQ.step (Ghost.absorb 3 t 3) ?_
    simp (config := { decide := true }) only [go_sem, Int.reduceToNat, Nat.reduceAdd, Nat.reduceSub, Nat.reduceMul, Nat.reduceBEq, reduceIte, reduceCtorEq, hx, hc2, hlv, hst, List.map_set, List.set_set, List.length_set, hd, hdm]
    refine GQ.done ?_
    simp (config := { decide := true }) only [go_sem, Int.reduceToNat, Nat.reduceAdd, Nat.reduceSub, Nat.reduceMul, Nat.reduceBEq, reduceIte, reduceCtorEq, hx, hc2, hlv, hst, List.map_set, List.set_set, List.length_set, hd, hdm]
  | false =>
    rw [if_neg (by simp)]
    simp (config := { decide := true }) only [go_sem, Int.reduceToNat, Nat.reduceAdd, Nat.reduceSub, Nat.reduceMul, Nat.reduceBEq, reduceIte, reduceCtorEq, hx, hc2, hlv, hst, List.map_set, List.set_set, List.length_set, hd, hdm]
    refine GQ.step (Ghost.absorb 3 t 3) ?_
    simp (config := { decide := true }) only [go_sem, Int.reduceToNat, Nat.reduceAdd, Nat.reduceSub, Nat.reduceMul, Nat.reduceBEq, reduceIte, reduceCtorEq, hx, hc2, hlv, hst, List.map_set, List.set_set, List.length_set, hd, hdm]
    refine GQ.done ?_
    simp (config := { decide := true }) only [go_sem, Int.reduceToNat, Nat.reduceAdd, Nat.reduceSub, Nat.reduceMul, Nat.reduceBEq, reduceIte, reduceCtorEq, hx, hc2, hlv, hst, List.map_set, List.set_set, List.length_set, hd, hdm]
    have e : s.ths.set t ⟨y.pc, y.regs, y.eq, y.buf⟩ = s.ths := set_self hx
    rw [e]
set_option maxHeartbeats 16000000 in
theorem tsoTake (p : Prg) (s : Sta) (t : Nat) (y : Thd) (hx : s.ths[t]? = some y) (hp : RightP p) (hs : RightS p s) (hb : ∀ t ∈ s.ths, t.buf.length ≤ 100000) :
    HFn Try.prog 67 [prgH p, staH s, .v (.int .i64 t)] (.tu [staO (stepW p s ⟨t, false⟩).1, .v (.bool (stepW p s ⟨t, false⟩).2)]) := by
  refine HCalls_bodyC (fn := Try.f67) 94 [.cell 6 38, .tmp 7] (by kernel_rfl) rfl rfl (by kernel_rfl) (HW.weaken (Q' := fun e => GQ _ _ (endC _ _ _ _ e)) (HW.run 400 (by kernel_rfl) ?_) (fun _ _ _ h => h))
  have hml : s.mem.length ≤ 100000 := by have := hs.mem; have := hp.init; omega
  have htl : s.ths.length ≤ 1000 := by have := hs.ths; have := hp.thr; omega
  have hrl : ∀ t ∈ s.ths, t.regs.length ≤ 100000 ∧ t.buf.length ≤ 100000 := fun t ht => by
    obtain ⟨i, hi⟩ := List.getElem?_of_mem ht
    have hlt := (List.getElem?_eq_some_iff.1 hi).1
    have := (hs.t i _ t (List.getElem?_eq_getElem (show i < p.thr.length by rw [← hs.ths]; exact hlt)) hi).regs
    exact ⟨by omega, hb t ht⟩
  have ht : t < s.ths.length := (List.getElem?_eq_some_iff.1 hx).1
  have hyp : y ∈ s.ths := List.mem_of_getElem? hx
  obtain ⟨hyr, hyb⟩ := hrl _ hyp
  have htA : thAt s (t : Int) = y := by unfold thAt; rw [Int.toNat_natCast, hx]; rfl
  have hc2 : ((t : Int) < (s.ths.length : Int)) = True := by rw [int_lt]; simp [ht]
  have hst : ∀ X, ((thdsO s.ths).set t X)[t]? = some X := set_get (by rw [thdsO_length]; exact ht)
  have hlv : (s.ths.length == s.ths.length && s.ths.length != 0) = true := by
    rw [Bool.and_eq_true]
    exact ⟨beq_self_eq_true _, by simp only [bne_iff_ne]; omega⟩
  simp (config := { decide := true }) only [go_sem, Int.reduceToNat, Nat.reduceAdd, Nat.reduceSub, Nat.reduceMul, Nat.reduceBEq, reduceIte, reduceCtorEq, hx, hc2]
  refine callX_fn 3 (scStep p s t hp hs hb) (by simp only [go_sem]) (by simp only [go_sem]) ?_
  cases ha : atS p s (t : Int) with
  | none =>
    have e : stepW p s ⟨t, false⟩ = (s, false) := by
      unfold stepW
      rw [if_neg (fun h => h ⟨Int.natCast_nonneg t, Int.ofNat_lt.2 ht⟩), if_neg (by simp)]
      simp only [ha]
    rw [e, atS_none ha]
    simp (config := { decide := true }) only [go_sem, Int.reduceToNat, Nat.reduceAdd, Nat.reduceSub, Nat.reduceMul, Nat.reduceBEq, reduceIte, reduceCtorEq, hx, hc2]
    refine GQ.done ?_
    simp (config := { decide := true }) only [go_sem, Int.reduceToNat, Nat.reduceAdd, Nat.reduceSub, Nat.reduceMul, Nat.reduceBEq, reduceIte, reduceCtorEq, hx, hc2]
  | some x =>
    obtain ⟨l, c1, c2, hpt, _, hT, hz, hR, hlt⟩ := atS_spec hp hs ha
    rw [Int.toNat_natCast] at hpt
    rw [htA] at hT hz hR hlt
    rw [atS_step ha, htA]
    simp only [setTh_nat']
    have hW : stepW p s ⟨t, false⟩ = if y.buf ≠ [] ∧ (x.op = 6 ∨ x.op = 5) then (s, false)
        else if x.op = 2 then (setTh s t s.mem { (thStep x s.mem y).2 with regs := setI y.regs x.reg (viewB y.buf s.mem x.loc).1 }, true)
        else if x.op = 3 then (setTh s t s.mem { (thStep x s.mem y).2 with buf := y.buf ++ [(x.loc, getI y.regs x.reg)] }, true)
        else if x.op = 4 then (setTh s t s.mem { (thStep x s.mem y).2 with buf := y.buf ++ [(x.loc, x.n)] }, true)
        else (setTh s t (thStep x s.mem y).1 (thStep x s.mem y).2, true) := by
      unfold stepW
      rw [if_neg (fun h => h ⟨Int.natCast_nonneg t, Int.ofNat_lt.2 ht⟩), if_neg (by simp)]
      simp only [ha, htA]
    rw [hW]
    simp only [setTh_nat']
    have hm' : (thStep x s.mem y).1.length = s.mem.length := thStep_mem
    have hbz : (thStep x s.mem y).2.buf = y.buf := thStep_buf
    have hrz : (thStep x s.mem y).2.regs.length = y.regs.length := thStep_regs
    obtain ⟨k, hk⟩ : ∃ k : Nat, y.pc = k := ⟨y.pc.toNat, by have := hT.pc; omega⟩
    rw [hk, Int.toNat_natCast] at hz
    have hkl : k < l.length := by omega
    have hc3 : ((t : Int) < (p.thr.length : Int)) = True := by have := hs.ths; rw [int_lt]; simp; omega
    have hc4 : ((k : Int) < (l.length : Int)) = True := by rw [int_lt]; simp [hkl]
    have hst2 : ∀ (z : Thd) X, ((thdsO (s.ths.set t z)).set t X)[t]? = some X := fun z => set_get (by rw [thdsO_length, List.length_set]; exact ht)
    have hx2 : ∀ z : Thd, (s.ths.set t z)[t]? = some z := fun z => by simp [ht]
    have hj2 : x.op = 2 → (thStep x s.mem y).1 = s.mem ∧ (thStep x s.mem y).2.regs = setI y.regs x.reg (getI s.mem x.loc) := fun h => by simp [thStep, h]
    generalize thStep x s.mem y = z at hm' hbz hrz hj2 ⊢
    obtain ⟨m', z⟩ := z
    simp only at hm' hbz hrz hj2 ⊢
    have r1 : (0 ≤ x.reg) = True := by simp only [eq_iff_iff, iff_true]; exact hR.reg.1
    have r2 : (x.reg < (z.regs.length : Int)) = True := by have := hR.reg.2.1; have := hT.regs; simp only [eq_iff_iff, iff_true]; omega
    have r2y : (x.reg < (y.regs.length : Int)) = True := by have := hR.reg.2.1; have := hT.regs; simp only [eq_iff_iff, iff_true]; omega
    have r3 : y.regs[x.reg.toNat]? = some (getI y.regs x.reg) := by
      have : x.reg.toNat < y.regs.length := by have := hR.reg; have := hT.regs; omega
      unfold getI; rw [List.getElem?_eq_getElem this]; rfl
    have r4 : z.regs[x.reg.toNat]? = some (z.regs[x.reg.toNat]'(by have := hR.reg; have := hT.regs; omega)) := List.getElem?_eq_getElem _
    have hop : x.op = 1 ∨ x.op = 2 ∨ x.op = 3 ∨ x.op = 4 ∨ x.op = 5 ∨ x.op = 6 ∨ x.op = 7 ∨ x.op = 8 ∨ x.op = 9 ∨ x.op = 10 := by have := hR.op; omega
    by_cases hbe : y.buf = []
    · have b0 : ((0 : Int) < (y.buf.length : Int)) = False := by rw [hbe]; simp
      rw [if_neg (fun h => h.1 hbe)]
      rcases hop with h | h | h | h | h | h | h | h | h | h
      · rw [if_neg (by omega), if_neg (by omega), if_neg (by omega)]
        simp (config := { decide := true }) only [go_sem, Int.reduceToNat, Nat.reduceAdd, Nat.reduceSub, Nat.reduceMul, Nat.reduceBEq, reduceIte, reduceCtorEq, hx, hc2, hm', hlv, hx2, hst2, List.length_set, hpt, hc3, hk, hc4, hz, h, List.map_set, List.set_set, b0]
        refine HW.mixed 100 10 (6, 0) [9] follows (by kernel_rfl) (by decide) ?_
        simp (config := { decide := true }) only [go_sem, Int.reduceToNat, Nat.reduceAdd, Nat.reduceSub, Nat.reduceMul, Nat.reduceBEq, reduceIte, reduceCtorEq, hx, hc2, hm', hlv, hx2, hst2, List.length_set, hpt, hc3, hk, hc4, hz, h, List.map_set, List.set_set, b0]
        refine GQ.done ?_
        simp (config := { decide := true }) only [go_sem, Int.reduceToNat, Nat.reduceAdd, Nat.reduceSub, Nat.reduceMul, Nat.reduceBEq, reduceIte, reduceCtorEq, hx, hc2, hm', hlv, hx2, hst2, List.length_set, hpt, hc3, hk, hc4, hz, h, List.map_set, List.set_set, b0]
      · rw [if_pos h]
        obtain ⟨e1, e2⟩ := hj2 h
        simp (config := { decide := true }) only [go_sem, Int.reduceToNat, Nat.reduceAdd, Nat.reduceSub, Nat.reduceMul, Nat.reduceBEq, reduceIte, reduceCtorEq, hx, hc2, hm', hlv, hx2, hst2, List.length_set, hpt, hc3, hk, hc4, hz, h, List.map_set, List.set_set, b0]
        refine HW.mixed 100 10 (6, 0) [9] follows (by kernel_rfl) (by decide) ?_
        simp (config := { decide := true }) only [go_sem, Int.reduceToNat, Nat.reduceAdd, Nat.reduceSub, Nat.reduceMul, Nat.reduceBEq, reduceIte, reduceCtorEq, hx, hc2, hm', hlv, hx2, hst2, List.length_set, hpt, hc3, hk, hc4, hz, h, List.map_set, List.set_set, b0]
        refine HW.ghost (Ghost.open 5 t 1) ?_
        simp (config := { decide := true }) only [go_sem, Int.reduceToNat, Nat.reduceAdd, Nat.reduceSub, Nat.reduceMul, Nat.reduceBEq, reduceIte, reduceCtorEq, hx, hc2, hm', hlv, hx2, hst2, List.length_set, hpt, hc3, hk, hc4, hz, h, List.map_set, List.set_set, b0]
        refine HW.mixed 120 18 (4, 10) [17, 2017, 1000, 1001, 1002, 1003, 1004, 1005, 1006, 1007, 1008, 1009, 1010, 1011, 1016] follows (by kernel_rfl) (by decide) ?_
        simp (config := { decide := true }) only [go_sem, Int.reduceToNat, Nat.reduceAdd, Nat.reduceSub, Nat.reduceMul, Nat.reduceBEq, reduceIte, reduceCtorEq, hx, hc2, hm', hlv, hx2, hst2, List.length_set, hpt, hc3, hk, hc4, hz, h, List.map_set, List.set_set, b0, r1, r2, r4]
        refine callN_nm (bufView y.buf s.mem x.loc (by omega)) rfl rfl ?_
        simp (config := { decide := true }) only [go_sem, Int.reduceToNat, Nat.reduceAdd, Nat.reduceSub, Nat.reduceMul, Nat.reduceBEq, reduceIte, reduceCtorEq, hx, hc2, hm', hlv, hx2, hst2, List.length_set, hpt, hc3, hk, hc4, hz, h, List.map_set, List.set_set, b0, r1, r2, r4]
        refine GQ.step (Ghost.absorb 5 t 1) ?_
        simp (config := { decide := true }) only [go_sem, Int.reduceToNat, Nat.reduceAdd, Nat.reduceSub, Nat.reduceMul, Nat.reduceBEq, reduceIte, reduceCtorEq, hx, hc2, hm', hlv, hx2, hst2, List.length_set, hpt, hc3, hk, hc4, hz, h, List.map_set, List.set_set, b0, r1, r2, r4]
        refine GQ.done ?_
        simp (config := { decide := true }) only [go_sem, Int.reduceToNat, Nat.reduceAdd, Nat.reduceSub, Nat.reduceMul, Nat.reduceBEq, reduceIte, reduceCtorEq, hx, hc2, hm', hlv, hx2, hst2, List.length_set, hpt, hc3, hk, hc4, hz, h, List.map_set, List.set_set, b0, r1, r2, r4]
        rw [e1, e2]
        simp only [setI, List.set_set]
      · rw [if_neg (by omega), if_pos h]
        simp (config := { decide := true }) only [go_sem, Int.reduceToNat, Nat.reduceAdd, Nat.reduceSub, Nat.reduceMul, Nat.reduceBEq, reduceIte, reduceCtorEq, hx, hc2, hm', hlv, hx2, hst2, List.length_set, hpt, hc3, hk, hc4, hz, h, List.map_set, List.set_set, b0]
        refine HW.mixed 100 10 (6, 0) [9] follows (by kernel_rfl) (by decide) ?_
        simp (config := { decide := true }) only [go_sem, Int.reduceToNat, Nat.reduceAdd, Nat.reduceSub, Nat.reduceMul, Nat.reduceBEq, reduceIte, reduceCtorEq, hx, hc2, hm', hlv, hx2, hst2, List.length_set, hpt, hc3, hk, hc4, hz, h, List.map_set, List.set_set, b0]
        refine HW.mixed 120 9 (9, 0) [] follows (by kernel_rfl) (by decide) ?_
        simp (config := { decide := true }) only [go_sem, Int.reduceToNat, Nat.reduceAdd, Nat.reduceSub, Nat.reduceMul, Nat.reduceBEq, reduceIte, reduceCtorEq, hx, hc2, hm', hlv, hx2, hst2, List.length_set, hpt, hc3, hk, hc4, hz, h, List.map_set, List.set_set, b0, r1, r2y, r3]
        refine ⟨_, pushC p s ⟨k, y.regs, y.eq, y.buf⟩ z ⟨3, x.reg, x.loc, x.n, x.to⟩ m' t x.loc (getI y.regs x.reg) ht hml hyb hm', ?_⟩
        rintro r H' ⟨rfl, rfl⟩ -
        simp (config := { decide := true }) only [go_sem, Int.reduceToNat, Nat.reduceAdd, Nat.reduceSub, Nat.reduceMul, Nat.reduceBEq, reduceIte, reduceCtorEq, hx, hc2, hm', hlv, hx2, hst2, List.length_set, hpt, hc3, hk, hc4, hz, h, List.map_set, List.set_set, b0, r1, r2y, r3]
        refine GQ.done ?_
        simp (config := { decide := true }) only [go_sem, Int.reduceToNat, Nat.reduceAdd, Nat.reduceSub, Nat.reduceMul, Nat.reduceBEq, reduceIte, reduceCtorEq, hx, hc2, hm', hlv, hx2, hst2, List.length_set, hpt, hc3, hk, hc4, hz, h, List.map_set, List.set_set, b0, r1, r2y, r3]
      · rw [if_neg (by omega), if_neg (by omega), if_pos h]
        simp (config := { decide := true }) only [go_sem, Int.reduceToNat, Nat.reduceAdd, Nat.reduceSub, Nat.reduceMul, Nat.reduceBEq, reduceIte, reduceCtorEq, hx, hc2, hm', hlv, hx2, hst2, List.length_set, hpt, hc3, hk, hc4, hz, h, List.map_set, List.set_set, b0]
        refine HW.mixed 100 10 (6, 0) [9] follows (by kernel_rfl) (by decide) ?_
        simp (config := { decide := true }) only [go_sem, Int.reduceToNat, Nat.reduceAdd, Nat.reduceSub, Nat.reduceMul, Nat.reduceBEq, reduceIte, reduceCtorEq, hx, hc2, hm', hlv, hx2, hst2, List.length_set, hpt, hc3, hk, hc4, hz, h, List.map_set, List.set_set, b0]
        refine ⟨_, pushC p s ⟨k, y.regs, y.eq, y.buf⟩ z ⟨4, x.reg, x.loc, x.n, x.to⟩ m' t x.loc x.n ht hml hyb hm', ?_⟩
        rintro r H' ⟨rfl, rfl⟩ -
        simp (config := { decide := true }) only [go_sem, Int.reduceToNat, Nat.reduceAdd, Nat.reduceSub, Nat.reduceMul, Nat.reduceBEq, reduceIte, reduceCtorEq, hx, hc2, hm', hlv, hx2, hst2, List.length_set, hpt, hc3, hk, hc4, hz, h, List.map_set, List.set_set, b0, r1, r2y, r3]
        refine GQ.done ?_
        simp (config := { decide := true }) only [go_sem, Int.reduceToNat, Nat.reduceAdd, Nat.reduceSub, Nat.reduceMul, Nat.reduceBEq, reduceIte, reduceCtorEq, hx, hc2, hm', hlv, hx2, hst2, List.length_set, hpt, hc3, hk, hc4, hz, h, List.map_set, List.set_set, b0, r1, r2y, r3]
      · rw [if_neg (by omega), if_neg (by omega), if_neg (by omega)]
        simp (config := { decide := true }) only [go_sem, Int.reduceToNat, Nat.reduceAdd, Nat.reduceSub, Nat.reduceMul, Nat.reduceBEq, reduceIte, reduceCtorEq, hx, hc2, hm', hlv, hx2, hst2, List.length_set, hpt, hc3, hk, hc4, hz, h, List.map_set, List.set_set, b0]
        refine HW.mixed 100 10 (6, 0) [9] follows (by kernel_rfl) (by decide) ?_
        simp (config := { decide := true }) only [go_sem, Int.reduceToNat, Nat.reduceAdd, Nat.reduceSub, Nat.reduceMul, Nat.reduceBEq, reduceIte, reduceCtorEq, hx, hc2, hm', hlv, hx2, hst2, List.length_set, hpt, hc3, hk, hc4, hz, h, List.map_set, List.set_set, b0]
        refine GQ.done ?_
        simp (config := { decide := true }) only [go_sem, Int.reduceToNat, Nat.reduceAdd, Nat.reduceSub, Nat.reduceMul, Nat.reduceBEq, reduceIte, reduceCtorEq, hx, hc2, hm', hlv, hx2, hst2, List.length_set, hpt, hc3, hk, hc4, hz, h, List.map_set, List.set_set, b0]
      · rw [if_neg (by omega), if_neg (by omega), if_neg (by omega)]
        simp (config := { decide := true }) only [go_sem, Int.reduceToNat, Nat.reduceAdd, Nat.reduceSub, Nat.reduceMul, Nat.reduceBEq, reduceIte, reduceCtorEq, hx, hc2, hm', hlv, hx2, hst2, List.length_set, hpt, hc3, hk, hc4, hz, h, List.map_set, List.set_set, b0]
        refine HW.mixed 100 10 (6, 0) [9] follows (by kernel_rfl) (by decide) ?_
        simp (config := { decide := true }) only [go_sem, Int.reduceToNat, Nat.reduceAdd, Nat.reduceSub, Nat.reduceMul, Nat.reduceBEq, reduceIte, reduceCtorEq, hx, hc2, hm', hlv, hx2, hst2, List.length_set, hpt, hc3, hk, hc4, hz, h, List.map_set, List.set_set, b0]
        refine GQ.done ?_
        simp (config := { decide := true }) only [go_sem, Int.reduceToNat, Nat.reduceAdd, Nat.reduceSub, Nat.reduceMul, Nat.reduceBEq, reduceIte, reduceCtorEq, hx, hc2, hm', hlv, hx2, hst2, List.length_set, hpt, hc3, hk, hc4, hz, h, List.map_set, List.set_set, b0]
      · rw [if_neg (by omega), if_neg (by omega), if_neg (by omega)]
        simp (config := { decide := true }) only [go_sem, Int.reduceToNat, Nat.reduceAdd, Nat.reduceSub, Nat.reduceMul, Nat.reduceBEq, reduceIte, reduceCtorEq, hx, hc2, hm', hlv, hx2, hst2, List.length_set, hpt, hc3, hk, hc4, hz, h, List.map_set, List.set_set, b0]
        refine HW.mixed 100 10 (6, 0) [9] follows (by kernel_rfl) (by decide) ?_
        simp (config := { decide := true }) only [go_sem, Int.reduceToNat, Nat.reduceAdd, Nat.reduceSub, Nat.reduceMul, Nat.reduceBEq, reduceIte, reduceCtorEq, hx, hc2, hm', hlv, hx2, hst2, List.length_set, hpt, hc3, hk, hc4, hz, h, List.map_set, List.set_set, b0]
        refine GQ.done ?_
        simp (config := { decide := true }) only [go_sem, Int.reduceToNat, Nat.reduceAdd, Nat.reduceSub, Nat.reduceMul, Nat.reduceBEq, reduceIte, reduceCtorEq, hx, hc2, hm', hlv, hx2, hst2, List.length_set, hpt, hc3, hk, hc4, hz, h, List.map_set, List.set_set, b0]
      · rw [if_neg (by omega), if_neg (by omega), if_neg (by omega)]
        simp (config := { decide := true }) only [go_sem, Int.reduceToNat, Nat.reduceAdd, Nat.reduceSub, Nat.reduceMul, Nat.reduceBEq, reduceIte, reduceCtorEq, hx, hc2, hm', hlv, hx2, hst2, List.length_set, hpt, hc3, hk, hc4, hz, h, List.map_set, List.set_set, b0]
        refine HW.mixed 100 10 (6, 0) [9] follows (by kernel_rfl) (by decide) ?_
        simp (config := { decide := true }) only [go_sem, Int.reduceToNat, Nat.reduceAdd, Nat.reduceSub, Nat.reduceMul, Nat.reduceBEq, reduceIte, reduceCtorEq, hx, hc2, hm', hlv, hx2, hst2, List.length_set, hpt, hc3, hk, hc4, hz, h, List.map_set, List.set_set, b0]
        refine GQ.done ?_
        simp (config := { decide := true }) only [go_sem, Int.reduceToNat, Nat.reduceAdd, Nat.reduceSub, Nat.reduceMul, Nat.reduceBEq, reduceIte, reduceCtorEq, hx, hc2, hm', hlv, hx2, hst2, List.length_set, hpt, hc3, hk, hc4, hz, h, List.map_set, List.set_set, b0]
      · rw [if_neg (by omega), if_neg (by omega), if_neg (by omega)]
        simp (config := { decide := true }) only [go_sem, Int.reduceToNat, Nat.reduceAdd, Nat.reduceSub, Nat.reduceMul, Nat.reduceBEq, reduceIte, reduceCtorEq, hx, hc2, hm', hlv, hx2, hst2, List.length_set, hpt, hc3, hk, hc4, hz, h, List.map_set, List.set_set, b0]
        refine HW.mixed 100 10 (6, 0) [9] follows (by kernel_rfl) (by decide) ?_
        simp (config := { decide := true }) only [go_sem, Int.reduceToNat, Nat.reduceAdd, Nat.reduceSub, Nat.reduceMul, Nat.reduceBEq, reduceIte, reduceCtorEq, hx, hc2, hm', hlv, hx2, hst2, List.length_set, hpt, hc3, hk, hc4, hz, h, List.map_set, List.set_set, b0]
        refine GQ.done ?_
        simp (config := { decide := true }) only [go_sem, Int.reduceToNat, Nat.reduceAdd, Nat.reduceSub, Nat.reduceMul, Nat.reduceBEq, reduceIte, reduceCtorEq, hx, hc2, hm', hlv, hx2, hst2, List.length_set, hpt, hc3, hk, hc4, hz, h, List.map_set, List.set_set, b0]
      · rw [if_neg (by omega), if_neg (by omega), if_neg (by omega)]
        simp (config := { decide := true }) only [go_sem, Int.reduceToNat, Nat.reduceAdd, Nat.reduceSub, Nat.reduceMul, Nat.reduceBEq, reduceIte, reduceCtorEq, hx, hc2, hm', hlv, hx2, hst2, List.length_set, hpt, hc3, hk, hc4, hz, h, List.map_set, List.set_set, b0]
        refine HW.mixed 100 10 (6, 0) [9] follows (by kernel_rfl) (by decide) ?_
        simp (config := { decide := true }) only [go_sem, Int.reduceToNat, Nat.reduceAdd, Nat.reduceSub, Nat.reduceMul, Nat.reduceBEq, reduceIte, reduceCtorEq, hx, hc2, hm', hlv, hx2, hst2, List.length_set, hpt, hc3, hk, hc4, hz, h, List.map_set, List.set_set, b0]
        refine GQ.done ?_
        simp (config := { decide := true }) only [go_sem, Int.reduceToNat, Nat.reduceAdd, Nat.reduceSub, Nat.reduceMul, Nat.reduceBEq, reduceIte, reduceCtorEq, hx, hc2, hm', hlv, hx2, hst2, List.length_set, hpt, hc3, hk, hc4, hz, h, List.map_set, List.set_set, b0]
    · have b0 : ((0 : Int) < (y.buf.length : Int)) = True := by
        have := List.length_pos_iff.mpr hbe
        simp only [eq_iff_iff, iff_true]; omega
      rcases hop with h | h | h | h | h | h | h | h | h | h
      · rw [if_neg (fun h' => by have := h'.2; omega)]
        rw [if_neg (by omega), if_neg (by omega), if_neg (by omega)]
        simp (config := { decide := true }) only [go_sem, Int.reduceToNat, Nat.reduceAdd, Nat.reduceSub, Nat.reduceMul, Nat.reduceBEq, reduceIte, reduceCtorEq, hx, hc2, hm', hlv, hx2, hst2, List.length_set, hpt, hc3, hk, hc4, hz, h, List.map_set, List.set_set, b0]
        refine HW.mixed 100 10 (6, 0) [9] follows (by kernel_rfl) (by decide) ?_
        simp (config := { decide := true }) only [go_sem, Int.reduceToNat, Nat.reduceAdd, Nat.reduceSub, Nat.reduceMul, Nat.reduceBEq, reduceIte, reduceCtorEq, hx, hc2, hm', hlv, hx2, hst2, List.length_set, hpt, hc3, hk, hc4, hz, h, List.map_set, List.set_set, b0]
        refine GQ.done ?_
        simp (config := { decide := true }) only [go_sem, Int.reduceToNat, Nat.reduceAdd, Nat.reduceSub, Nat.reduceMul, Nat.reduceBEq, reduceIte, reduceCtorEq, hx, hc2, hm', hlv, hx2, hst2, List.length_set, hpt, hc3, hk, hc4, hz, h, List.map_set, List.set_set, b0]
      · rw [if_neg (fun h' => by have := h'.2; omega)]
        rw [if_pos h]
        obtain ⟨e1, e2⟩ := hj2 h
        simp (config := { decide := true }) only [go_sem, Int.reduceToNat, Nat.reduceAdd, Nat.reduceSub, Nat.reduceMul, Nat.reduceBEq, reduceIte, reduceCtorEq, hx, hc2, hm', hlv, hx2, hst2, List.length_set, hpt, hc3, hk, hc4, hz, h, List.map_set, List.set_set, b0]
        refine HW.mixed 100 10 (6, 0) [9] follows (by kernel_rfl) (by decide) ?_
        simp (config := { decide := true }) only [go_sem, Int.reduceToNat, Nat.reduceAdd, Nat.reduceSub, Nat.reduceMul, Nat.reduceBEq, reduceIte, reduceCtorEq, hx, hc2, hm', hlv, hx2, hst2, List.length_set, hpt, hc3, hk, hc4, hz, h, List.map_set, List.set_set, b0]
        refine HW.ghost (Ghost.open 5 t 1) ?_
        simp (config := { decide := true }) only [go_sem, Int.reduceToNat, Nat.reduceAdd, Nat.reduceSub, Nat.reduceMul, Nat.reduceBEq, reduceIte, reduceCtorEq, hx, hc2, hm', hlv, hx2, hst2, List.length_set, hpt, hc3, hk, hc4, hz, h, List.map_set, List.set_set, b0]
        refine HW.mixed 120 18 (4, 10) [17, 2017, 1000, 1001, 1002, 1003, 1004, 1005, 1006, 1007, 1008, 1009, 1010, 1011, 1016] follows (by kernel_rfl) (by decide) ?_
        simp (config := { decide := true }) only [go_sem, Int.reduceToNat, Nat.reduceAdd, Nat.reduceSub, Nat.reduceMul, Nat.reduceBEq, reduceIte, reduceCtorEq, hx, hc2, hm', hlv, hx2, hst2, List.length_set, hpt, hc3, hk, hc4, hz, h, List.map_set, List.set_set, b0, r1, r2, r4]
        refine callN_nm (bufView y.buf s.mem x.loc (by omega)) rfl rfl ?_
        simp (config := { decide := true }) only [go_sem, Int.reduceToNat, Nat.reduceAdd, Nat.reduceSub, Nat.reduceMul, Nat.reduceBEq, reduceIte, reduceCtorEq, hx, hc2, hm', hlv, hx2, hst2, List.length_set, hpt, hc3, hk, hc4, hz, h, List.map_set, List.set_set, b0, r1, r2, r4]
        refine GQ.step (Ghost.absorb 5 t 1) ?_
        simp (config := { decide := true }) only [go_sem, Int.reduceToNat, Nat.reduceAdd, Nat.reduceSub, Nat.reduceMul, Nat.reduceBEq, reduceIte, reduceCtorEq, hx, hc2, hm', hlv, hx2, hst2, List.length_set, hpt, hc3, hk, hc4, hz, h, List.map_set, List.set_set, b0, r1, r2, r4]
        refine GQ.done ?_
        simp (config := { decide := true }) only [go_sem, Int.reduceToNat, Nat.reduceAdd, Nat.reduceSub, Nat.reduceMul, Nat.reduceBEq, reduceIte, reduceCtorEq, hx, hc2, hm', hlv, hx2, hst2, List.length_set, hpt, hc3, hk, hc4, hz, h, List.map_set, List.set_set, b0, r1, r2, r4]
        rw [e1, e2]
        simp only [setI, List.set_set]
      · rw [if_neg (fun h' => by have := h'.2; omega)]
        rw [if_neg (by omega), if_pos h]
        simp (config := { decide := true }) only [go_sem, Int.reduceToNat, Nat.reduceAdd, Nat.reduceSub, Nat.reduceMul, Nat.reduceBEq, reduceIte, reduceCtorEq, hx, hc2, hm', hlv, hx2, hst2, List.length_set, hpt, hc3, hk, hc4, hz, h, List.map_set, List.set_set, b0]
        refine HW.mixed 100 10 (6, 0) [9] follows (by kernel_rfl) (by decide) ?_
        simp (config := { decide := true }) only [go_sem, Int.reduceToNat, Nat.reduceAdd, Nat.reduceSub, Nat.reduceMul, Nat.reduceBEq, reduceIte, reduceCtorEq, hx, hc2, hm', hlv, hx2, hst2, List.length_set, hpt, hc3, hk, hc4, hz, h, List.map_set, List.set_set, b0]
        refine HW.mixed 120 9 (9, 0) [] follows (by kernel_rfl) (by decide) ?_
        simp (config := { decide := true }) only [go_sem, Int.reduceToNat, Nat.reduceAdd, Nat.reduceSub, Nat.reduceMul, Nat.reduceBEq, reduceIte, reduceCtorEq, hx, hc2, hm', hlv, hx2, hst2, List.length_set, hpt, hc3, hk, hc4, hz, h, List.map_set, List.set_set, b0, r1, r2y, r3]
        refine ⟨_, pushC p s ⟨k, y.regs, y.eq, y.buf⟩ z ⟨3, x.reg, x.loc, x.n, x.to⟩ m' t x.loc (getI y.regs x.reg) ht hml hyb hm', ?_⟩
        rintro r H' ⟨rfl, rfl⟩ -
        simp (config := { decide := true }) only [go_sem, Int.reduceToNat, Nat.reduceAdd, Nat.reduceSub, Nat.reduceMul, Nat.reduceBEq, reduceIte, reduceCtorEq, hx, hc2, hm', hlv, hx2, hst2, List.length_set, hpt, hc3, hk, hc4, hz, h, List.map_set, List.set_set, b0, r1, r2y, r3]
        refine GQ.done ?_
        simp (config := { decide := true }) only [go_sem, Int.reduceToNat, Nat.reduceAdd, Nat.reduceSub, Nat.reduceMul, Nat.reduceBEq, reduceIte, reduceCtorEq, hx, hc2, hm', hlv, hx2, hst2, List.length_set, hpt, hc3, hk, hc4, hz, h, List.map_set, List.set_set, b0, r1, r2y, r3]
      · rw [if_neg (fun h' => by have := h'.2; omega)]
        rw [if_neg (by omega), if_neg (by omega), if_pos h]
        simp (config := { decide := true }) only [go_sem, Int.reduceToNat, Nat.reduceAdd, Nat.reduceSub, Nat.reduceMul, Nat.reduceBEq, reduceIte, reduceCtorEq, hx, hc2, hm', hlv, hx2, hst2, List.length_set, hpt, hc3, hk, hc4, hz, h, List.map_set, List.set_set, b0]
        refine HW.mixed 100 10 (6, 0) [9] follows (by kernel_rfl) (by decide) ?_
        simp (config := { decide := true }) only [go_sem, Int.reduceToNat, Nat.reduceAdd, Nat.reduceSub, Nat.reduceMul, Nat.reduceBEq, reduceIte, reduceCtorEq, hx, hc2, hm', hlv, hx2, hst2, List.length_set, hpt, hc3, hk, hc4, hz, h, List.map_set, List.set_set, b0]
        refine ⟨_, pushC p s ⟨k, y.regs, y.eq, y.buf⟩ z ⟨4, x.reg, x.loc, x.n, x.to⟩ m' t x.loc x.n ht hml hyb hm', ?_⟩
        rintro r H' ⟨rfl, rfl⟩ -
        simp (config := { decide := true }) only [go_sem, Int.reduceToNat, Nat.reduceAdd, Nat.reduceSub, Nat.reduceMul, Nat.reduceBEq, reduceIte, reduceCtorEq, hx, hc2, hm', hlv, hx2, hst2, List.length_set, hpt, hc3, hk, hc4, hz, h, List.map_set, List.set_set, b0, r1, r2y, r3]
        refine GQ.done ?_
        simp (config := { decide := true }) only [go_sem, Int.reduceToNat, Nat.reduceAdd, Nat.reduceSub, Nat.reduceMul, Nat.reduceBEq, reduceIte, reduceCtorEq, hx, hc2, hm', hlv, hx2, hst2, List.length_set, hpt, hc3, hk, hc4, hz, h, List.map_set, List.set_set, b0, r1, r2y, r3]
      · rw [if_pos ⟨hbe, by omega⟩]
        simp (config := { decide := true }) only [go_sem, Int.reduceToNat, Nat.reduceAdd, Nat.reduceSub, Nat.reduceMul, Nat.reduceBEq, reduceIte, reduceCtorEq, hx, hc2, hm', hlv, hx2, hst2, List.length_set, hpt, hc3, hk, hc4, hz, h, List.map_set, List.set_set, b0]
        refine HW.mixed 100 10 (6, 0) [9] follows (by kernel_rfl) (by decide) ?_
        simp (config := { decide := true }) only [go_sem, Int.reduceToNat, Nat.reduceAdd, Nat.reduceSub, Nat.reduceMul, Nat.reduceBEq, reduceIte, reduceCtorEq, hx, hc2, hm', hlv, hx2, hst2, List.length_set, hpt, hc3, hk, hc4, hz, h, List.map_set, List.set_set, b0]
        refine callX_fn 3 (tsoOwn s hml htl hrl) (by simp only [go_sem]) (by simp only [go_sem]) ?_
        simp (config := { decide := true }) only [go_sem, Int.reduceToNat, Nat.reduceAdd, Nat.reduceSub, Nat.reduceMul, Nat.reduceBEq, reduceIte, reduceCtorEq, hx, hc2, hm', hlv, hx2, hst2, List.length_set, hpt, hc3, hk, hc4, hz, h, List.map_set, List.set_set, b0]
        refine GQ.done ?_
        simp (config := { decide := true }) only [go_sem, Int.reduceToNat, Nat.reduceAdd, Nat.reduceSub, Nat.reduceMul, Nat.reduceBEq, reduceIte, reduceCtorEq, hx, hc2, hm', hlv, hx2, hst2, List.length_set, hpt, hc3, hk, hc4, hz, h, List.map_set, List.set_set, b0]
      · rw [if_pos ⟨hbe, by omega⟩]
        simp (config := { decide := true }) only [go_sem, Int.reduceToNat, Nat.reduceAdd, Nat.reduceSub, Nat.reduceMul, Nat.reduceBEq, reduceIte, reduceCtorEq, hx, hc2, hm', hlv, hx2, hst2, List.length_set, hpt, hc3, hk, hc4, hz, h, List.map_set, List.set_set, b0]
        refine HW.mixed 100 10 (6, 0) [9] follows (by kernel_rfl) (by decide) ?_
        simp (config := { decide := true }) only [go_sem, Int.reduceToNat, Nat.reduceAdd, Nat.reduceSub, Nat.reduceMul, Nat.reduceBEq, reduceIte, reduceCtorEq, hx, hc2, hm', hlv, hx2, hst2, List.length_set, hpt, hc3, hk, hc4, hz, h, List.map_set, List.set_set, b0]
        refine callX_fn 3 (tsoOwn s hml htl hrl) (by simp only [go_sem]) (by simp only [go_sem]) ?_
        simp (config := { decide := true }) only [go_sem, Int.reduceToNat, Nat.reduceAdd, Nat.reduceSub, Nat.reduceMul, Nat.reduceBEq, reduceIte, reduceCtorEq, hx, hc2, hm', hlv, hx2, hst2, List.length_set, hpt, hc3, hk, hc4, hz, h, List.map_set, List.set_set, b0]
        refine GQ.done ?_
        simp (config := { decide := true }) only [go_sem, Int.reduceToNat, Nat.reduceAdd, Nat.reduceSub, Nat.reduceMul, Nat.reduceBEq, reduceIte, reduceCtorEq, hx, hc2, hm', hlv, hx2, hst2, List.length_set, hpt, hc3, hk, hc4, hz, h, List.map_set, List.set_set, b0]
      · rw [if_neg (fun h' => by have := h'.2; omega)]
        rw [if_neg (by omega), if_neg (by omega), if_neg (by omega)]
        simp (config := { decide := true }) only [go_sem, Int.reduceToNat, Nat.reduceAdd, Nat.reduceSub, Nat.reduceMul, Nat.reduceBEq, reduceIte, reduceCtorEq, hx, hc2, hm', hlv, hx2, hst2, List.length_set, hpt, hc3, hk, hc4, hz, h, List.map_set, List.set_set, b0]
        refine HW.mixed 100 10 (6, 0) [9] follows (by kernel_rfl) (by decide) ?_
        simp (config := { decide := true }) only [go_sem, Int.reduceToNat, Nat.reduceAdd, Nat.reduceSub, Nat.reduceMul, Nat.reduceBEq, reduceIte, reduceCtorEq, hx, hc2, hm', hlv, hx2, hst2, List.length_set, hpt, hc3, hk, hc4, hz, h, List.map_set, List.set_set, b0]
        refine GQ.done ?_
        simp (config := { decide := true }) only [go_sem, Int.reduceToNat, Nat.reduceAdd, Nat.reduceSub, Nat.reduceMul, Nat.reduceBEq, reduceIte, reduceCtorEq, hx, hc2, hm', hlv, hx2, hst2, List.length_set, hpt, hc3, hk, hc4, hz, h, List.map_set, List.set_set, b0]
      · rw [if_neg (fun h' => by have := h'.2; omega)]
        rw [if_neg (by omega), if_neg (by omega), if_neg (by omega)]
        simp (config := { decide := true }) only [go_sem, Int.reduceToNat, Nat.reduceAdd, Nat.reduceSub, Nat.reduceMul, Nat.reduceBEq, reduceIte, reduceCtorEq, hx, hc2, hm', hlv, hx2, hst2, List.length_set, hpt, hc3, hk, hc4, hz, h, List.map_set, List.set_set, b0]
        refine HW.mixed 100 10 (6, 0) [9] follows (by kernel_rfl) (by decide) ?_
        simp (config := { decide := true }) only [go_sem, Int.reduceToNat, Nat.reduceAdd, Nat.reduceSub, Nat.reduceMul, Nat.reduceBEq, reduceIte, reduceCtorEq, hx, hc2, hm', hlv, hx2, hst2, List.length_set, hpt, hc3, hk, hc4, hz, h, List.map_set, List.set_set, b0]
        refine GQ.done ?_
        simp (config := { decide := true }) only [go_sem, Int.reduceToNat, Nat.reduceAdd, Nat.reduceSub, Nat.reduceMul, Nat.reduceBEq, reduceIte, reduceCtorEq, hx, hc2, hm', hlv, hx2, hst2, List.length_set, hpt, hc3, hk, hc4, hz, h, List.map_set, List.set_set, b0]
      · rw [if_neg (fun h' => by have := h'.2; omega)]
        rw [if_neg (by omega), if_neg (by omega), if_neg (by omega)]
        simp (config := { decide := true }) only [go_sem, Int.reduceToNat, Nat.reduceAdd, Nat.reduceSub, Nat.reduceMul, Nat.reduceBEq, reduceIte, reduceCtorEq, hx, hc2, hm', hlv, hx2, hst2, List.length_set, hpt, hc3, hk, hc4, hz, h, List.map_set, List.set_set, b0]
        refine HW.mixed 100 10 (6, 0) [9] follows (by kernel_rfl) (by decide) ?_
        simp (config := { decide := true }) only [go_sem, Int.reduceToNat, Nat.reduceAdd, Nat.reduceSub, Nat.reduceMul, Nat.reduceBEq, reduceIte, reduceCtorEq, hx, hc2, hm', hlv, hx2, hst2, List.length_set, hpt, hc3, hk, hc4, hz, h, List.map_set, List.set_set, b0]
        refine GQ.done ?_
        simp (config := { decide := true }) only [go_sem, Int.reduceToNat, Nat.reduceAdd, Nat.reduceSub, Nat.reduceMul, Nat.reduceBEq, reduceIte, reduceCtorEq, hx, hc2, hm', hlv, hx2, hst2, List.length_set, hpt, hc3, hk, hc4, hz, h, List.map_set, List.set_set, b0]
      · rw [if_neg (fun h' => by have := h'.2; omega)]
        rw [if_neg (by omega), if_neg (by omega), if_neg (by omega)]
        simp (config := { decide := true }) only [go_sem, Int.reduceToNat, Nat.reduceAdd, Nat.reduceSub, Nat.reduceMul, Nat.reduceBEq, reduceIte, reduceCtorEq, hx, hc2, hm', hlv, hx2, hst2, List.length_set, hpt, hc3, hk, hc4, hz, h, List.map_set, List.set_set, b0]
        refine HW.mixed 100 10 (6, 0) [9] follows (by kernel_rfl) (by decide) ?_
        simp (config := { decide := true }) only [go_sem, Int.reduceToNat, Nat.reduceAdd, Nat.reduceSub, Nat.reduceMul, Nat.reduceBEq, reduceIte, reduceCtorEq, hx, hc2, hm', hlv, hx2, hst2, List.length_set, hpt, hc3, hk, hc4, hz, h, List.map_set, List.set_set, b0]
        refine GQ.done ?_
        simp (config := { decide := true }) only [go_sem, Int.reduceToNat, Nat.reduceAdd, Nat.reduceSub, Nat.reduceMul, Nat.reduceBEq, reduceIte, reduceCtorEq, hx, hc2, hm', hlv, hx2, hst2, List.length_set, hpt, hc3, hk, hc4, hz, h, List.map_set, List.set_set, b0]
end Go.Proofs.Yteieinhgdjjdoaa
namespace Go.Proofs.Yteieinhgdjjdoaa
open Go.RowKit
set_option linter.unusedVariables false
set_option linter.unusedSimpArgs false
set_option maxRecDepth 8000
set_option maxHeartbeats 4000000 in
theorem tsoStep (p : Prg) (s : Sta) (k : Pck) (hp : RightP p) (hs : RightS p s) (hb : ∀ t ∈ s.ths, t.buf.length ≤ 100000) : HFn Try.prog 52 [prgH p, staH s, pckH k] (.tu [staO (stepW p s k).1, .v (.bool (stepW p s k).2)]) := by
  refine HCalls_bodyC (fn := Try.f52) 38 [.cell 6 38, .tmp 7] (by kernel_rfl) rfl rfl (by kernel_rfl) (HW.weaken (Q' := fun e => GQ _ _ (endC _ _ _ _ e)) (HW.run 400 (by kernel_rfl) ?_) (fun _ _ _ h => h))
  obtain ⟨th, dr⟩ := k
  have hml : s.mem.length ≤ 100000 := by have := hs.mem; have := hp.init; omega
  have htl : s.ths.length ≤ 1000 := by have := hs.ths; have := hp.thr; omega
  have hrl : ∀ t ∈ s.ths, t.regs.length ≤ 100000 ∧ t.buf.length ≤ 100000 := fun t ht => by
    obtain ⟨i, hi⟩ := List.getElem?_of_mem ht
    have hlt := (List.getElem?_eq_some_iff.1 hi).1
    have := (hs.t i _ t (List.getElem?_eq_getElem (show i < p.thr.length by rw [← hs.ths]; exact hlt)) hi).regs
    exact ⟨by omega, hb t ht⟩
  by_cases c1 : 0 ≤ th
  case neg =>
    have c1' : (th < 0) = True := by simp only [eq_iff_iff, iff_true]; omega
    have e : stepW p s ⟨th, dr⟩ = (s, false) := if_pos (fun h => c1 h.1)
    rw [e]
    simp (config := { decide := true }) only [go_sem, Int.reduceToNat, Nat.reduceAdd, Nat.reduceSub, Nat.reduceMul, Nat.reduceBEq, reduceIte, reduceCtorEq, c1']
    refine callX_fn 3 (tsoOwn s hml htl hrl) (by simp only [go_sem]) (by simp only [go_sem]) ?_
    simp (config := { decide := true }) only [go_sem, Int.reduceToNat, Nat.reduceAdd, Nat.reduceSub, Nat.reduceMul, Nat.reduceBEq, reduceIte, reduceCtorEq, c1']
    refine GQ.done ?_
    simp (config := { decide := true }) only [go_sem, Int.reduceToNat, Nat.reduceAdd, Nat.reduceSub, Nat.reduceMul, Nat.reduceBEq, reduceIte, reduceCtorEq]
  have c1' : (th < 0) = False := by simp only [eq_iff_iff, iff_false]; omega
  by_cases c2 : th < s.ths.length
  case neg =>
    have c2' : ((s.ths.length : Int) ≤ th) = True := by simp only [eq_iff_iff, iff_true]; omega
    have e : stepW p s ⟨th, dr⟩ = (s, false) := if_pos (fun h => c2 h.2)
    rw [e]
    simp (config := { decide := true }) only [go_sem, Int.reduceToNat, Nat.reduceAdd, Nat.reduceSub, Nat.reduceMul, Nat.reduceBEq, reduceIte, reduceCtorEq, c1', c2']
    refine callX_fn 3 (tsoOwn s hml htl hrl) (by simp only [go_sem]) (by simp only [go_sem]) ?_
    simp (config := { decide := true }) only [go_sem, Int.reduceToNat, Nat.reduceAdd, Nat.reduceSub, Nat.reduceMul, Nat.reduceBEq, reduceIte, reduceCtorEq, c1', c2']
    refine GQ.done ?_
    simp (config := { decide := true }) only [go_sem, Int.reduceToNat, Nat.reduceAdd, Nat.reduceSub, Nat.reduceMul, Nat.reduceBEq, reduceIte, reduceCtorEq]
  have c2' : ((s.ths.length : Int) ≤ th) = False := by simp only [eq_iff_iff, iff_false]; omega
  obtain ⟨t, rfl⟩ : ∃ t : Nat, th = t := ⟨th.toNat, by omega⟩
  have ht : t < s.ths.length := by omega
  have hx : s.ths[t]? = some s.ths[t] := List.getElem?_eq_getElem ht
  have htA : thAt s (t : Int) = s.ths[t] := by unfold thAt; rw [Int.toNat_natCast, hx]; rfl
  cases dr with
  | true =>
    have e : stepW p s ⟨t, true⟩ = if (drainB (s.ths[t]).buf s.mem).2.2 = true then (setTh s t (drainB (s.ths[t]).buf s.mem).2.1 { s.ths[t] with buf := (drainB (s.ths[t]).buf s.mem).1 }, true) else (s, false) := by
      unfold stepW
      rw [if_neg (fun h => h ⟨c1, c2⟩), if_pos rfl, htA]
    rw [e]
    have hD := tsoDrain s t _ hx hml htl hrl
    generalize s.ths[t] = y at hx hD ⊢
    simp (config := { decide := true }) only [go_sem, Int.reduceToNat, Nat.reduceAdd, Nat.reduceSub, Nat.reduceMul, Nat.reduceBEq, reduceIte, reduceCtorEq, c1', c2']
    cases hd : (drainB y.buf s.mem).2.2 with
    | true =>
      rw [hd, if_pos rfl] at hD
      refine callX_fn 3 (hD) (by simp only [go_sem]) (by simp only [go_sem]) ?_
      rw [if_pos rfl]
      simp (config := { decide := true }) only [go_sem, Int.reduceToNat, Nat.reduceAdd, Nat.reduceSub, Nat.reduceMul, Nat.reduceBEq, reduceIte, reduceCtorEq, c1', c2']
      refine GQ.done ?_
      simp (config := { decide := true }) only [go_sem, Int.reduceToNat, Nat.reduceAdd, Nat.reduceSub, Nat.reduceMul, Nat.reduceBEq, reduceIte, reduceCtorEq]
    | false =>
      rw [hd, if_neg (by simp)] at hD
      refine callX_fn 3 (hD) (by simp only [go_sem]) (by simp only [go_sem]) ?_
      rw [if_neg (by simp)]
      simp (config := { decide := true }) only [go_sem, Int.reduceToNat, Nat.reduceAdd, Nat.reduceSub, Nat.reduceMul, Nat.reduceBEq, reduceIte, reduceCtorEq, c1', c2']
      refine GQ.done ?_
      simp (config := { decide := true }) only [go_sem, Int.reduceToNat, Nat.reduceAdd, Nat.reduceSub, Nat.reduceMul, Nat.reduceBEq, reduceIte, reduceCtorEq]
  | false =>
    simp (config := { decide := true }) only [go_sem, Int.reduceToNat, Nat.reduceAdd, Nat.reduceSub, Nat.reduceMul, Nat.reduceBEq, reduceIte, reduceCtorEq, c1', c2']
    refine callX_fn 3 (tsoTake p s t _ hx hp hs hb) (by simp only [go_sem]) (by simp only [go_sem]) ?_
    simp (config := { decide := true }) only [go_sem, Int.reduceToNat, Nat.reduceAdd, Nat.reduceSub, Nat.reduceMul, Nat.reduceBEq, reduceIte, reduceCtorEq, c1', c2']
    refine GQ.done ?_
    simp (config := { decide := true }) only [go_sem, Int.reduceToNat, Nat.reduceAdd, Nat.reduceSub, Nat.reduceMul, Nat.reduceBEq, reduceIte, reduceCtorEq]
end Go.Proofs.Yteieinhgdjjdoaa
namespace Go.Proofs.Yteieinhgdjjdoaa
open Go.RowKit
set_option linter.unusedVariables false
set_option linter.unusedSimpArgs false
set_option maxRecDepth 8000
abbrev doneH (k : Pck) (t : Thd) : HV := .ag [.v (.int .i64 k.th), .v (.bool k.dr), .v (.int .i64 t.pc), .v (.bool (decide ((0 : Int) < (t.buf.length : Int))))]
abbrev badH : HV := .ag [.v (.int .i64 (-1)), .v (.bool false), .v (.int .i64 0), .v (.bool false)]
def alongX (p : Prg) : Sta → List Pck → List (List HV)
  | _, [] => []
  | s, k :: l => if (stepW p s k).2 = true then [doneH k (thAt s k.th)] :: alongX p (stepW p s k).1 l else [[badH]]
theorem alongX_cons (p : Prg) (s : Sta) (k : Pck) (l : List Pck) : alongX p s (k :: l) = if (stepW p s k).2 = true then [doneH k (thAt s k.th)] :: alongX p (stepW p s k).1 l else [[badH]] := rfl
theorem tsoStepH (p : Prg) (s : Sta) (k : Pck) (hp : RightP p) (hs : RightS p s) (hb : ∀ t ∈ s.ths, t.buf.length ≤ 100000) : HFn Try.prog 52 [prgH p, staH s, pckH k] (.tu [staH (stepW p s k).1, .v (.bool (stepW p s k).2)]) :=
  (tsoStep p s k hp hs hb).shut (by simp only [fzo, fzoL, ints_fzoR, thdsO_fzoR])
theorem stepW_th {p : Prg} {s : Sta} {k : Pck} (h : (stepW p s k).2 = true) : 0 ≤ k.th ∧ k.th < s.ths.length := by
  unfold stepW at h
  split at h
  · cases h
  · rename_i hc; exact Decidable.not_not.1 hc
theorem crossAlong (p : Prg) (l : List Pck) : HFn Try.prog 31 [prgH p, .sl (pcks l)] (.fn 50 [.bx 25 2 [.sl (ints p.init), .sl (thrs p.thr)], .bx 26 1 [.sl (pcks l)]]) := by
  refine HCalls_body (fn := Try.f31) 6 [4] (by kernel_rfl) rfl (by kernel_rfl) (HW.run 400 (by kernel_rfl) ?_)
  simp (config := { decide := true }) only [go_sem, Int.reduceToNat, Nat.reduceAdd, Nat.reduceSub, Nat.reduceMul, Nat.reduceBEq, reduceIte, reduceCtorEq]
def AlongI (p : Prg) (l : List Pck) (m id : Nat) (J : Nat → Heap → Prop) (k : Nat) (T : Nat → HV) (H : Heap) : Prop := ∃ i Hq pre s, k = l.length - i ∧ i ≤ l.length ∧ J i Hq ∧ Hq.length = m ∧
  alongX p (beginS p) l = pre ++ alongX p s (l.drop i) ∧ pre.length = i ∧ RightS p s ∧ Few s i ∧
  T 0 = .yl id ∧ T 1 = .pt m 1 0 0 ∧ T 2 = .pt (m + 1) 1 0 0 ∧ T 4 = .pt (m + 2) 1 0 0 ∧ T 12 = .sl (pcks l) ∧ T 13 = .v (.int .i64 l.length) ∧ T 14 = .v (.int .i64 i) ∧
  H = Hq ++ [some ⟨25, 2, [[.sl (ints p.init), .sl (thrs p.thr)]]⟩, some ⟨26, 1, [[.sl (pcks l)]]⟩, some ⟨38, 2, [[.sl (ints s.mem), .sl (thds s.ths)]]⟩]
set_option maxHeartbeats 8000000 in
theorem along1 (p : Prg) (l : List Pck) (hp : RightP p) (hl : l.length ≤ 10000) (Hc : Heap) (n n' : Nat) (hne : n ≠ n') (hn : Hc[n]? = some (some ⟨25, 2, [[.sl (ints p.init), .sl (thrs p.thr)]]⟩)) (hn' : Hc[n']? = some (some ⟨26, 1, [[.sl (pcks l)]]⟩)) :
    HSeq Try.prog 50 Hc [.pt n 1 0 0, .pt n' 1 0 0] ((Hc.set n none).set n' none) (alongX p (beginS p) l) := by
  intro id J K hid hJ hK hY h0
  have hsm := hp.small
  have hlt' : n' < Hc.length := (List.getElem?_eq_some_iff.1 hn').1
  refine HCalls_body (fn := Try.f50) 50 [] rfl rfl (by kernel_rfl) (HW.ghost ((Ghost.move 1 n 1 0 0 _ rfl hn).trans (Ghost.move 2 n' 1 0 0 ⟨26, 1, [[.sl (pcks l)]]⟩ rfl (by
    rw [List.getElem?_append_left (by rw [List.length_set]; exact hlt'), List.getElem?_set_ne hne]; exact hn'))) (HW.run 60 (by kernel_rfl) ?_))
  have hset : ∀ B : Heap, (Hc.set n none ++ B).set n' none = (Hc.set n none).set n' none ++ B := fun B => by
    rw [List.set_append_left _ _ (by rw [List.length_set]; exact hlt')]
  rw [hset]
  have hl0 : ((Hc.set n none).set n' none).length = Hc.length := by simp
  generalize (Hc.set n none).set n' none = A at h0 hl0 ⊢
  have hlA : (Hc.set n none ++ [some (⟨25, 2, [[.sl (ints p.init), .sl (thrs p.thr)]]⟩ : HObj)]).length = Hc.length + 1 := by simp
  have g0 : ∀ B : Heap, getO (A ++ B) Hc.length = getO B 0 := fun B => getO_behind0 hl0
  have g1 : ∀ (j : Nat) (B : Heap), getO (A ++ B) (Hc.length + j) = getO B j := fun j B => getO_behind hl0
  have g2 : ∀ (j : Nat) (B : Heap) x, (A ++ B).set (Hc.length + j) x = A ++ B.set j x := fun j B x => set_behind hl0
  simp (config := { decide := true }) only [go_sem, Int.reduceToNat, Nat.reduceAdd, Nat.reduceSub, Nat.reduceMul, Nat.reduceBEq, reduceIte, reduceCtorEq, g0, g1, g2, hl0, List.append_assoc, hlA, List.length_set, List.length_append]
  refine callX_nm (scBegin p (by have := hsm.thr; omega) (by have := hp.init; omega)) rfl rfl ?_
  simp (config := { decide := true }) only [go_sem, Int.reduceToNat, Nat.reduceAdd, Nat.reduceSub, Nat.reduceMul, Nat.reduceBEq, reduceIte, reduceCtorEq, g0, g1, g2, hl0, List.append_assoc, hlA, List.length_set, List.length_append]
  refine HW.loopG (AlongI p l Hc.length id J) l.length ⟨_, _, Ghost.refl, 0, A, [], beginS p, rfl, by omega, h0, hl0, rfl, rfl, begin_right, ?_, ?_, ?_, ?_, ?_, ?_, ?_, ?_, rfl⟩ ?_
  · intro t ht
    simp only [beginS, List.mem_map] at ht
    obtain ⟨_, _, rfl⟩ := ht
    simp
  iterate 6 simp (config := { decide := true }) only [go_sem, Nat.reduceBEq, reduceIte, hl0]
  · simp (config := { decide := true }) only [go_sem, Nat.reduceBEq, reduceIte]; rfl
  rintro k T H ⟨i, Hq, pre, s, rfl, hi, hJi, hlen, hX, hpre, hs, hf, h0, h1, h2, h4, h12, h13, h14, rfl⟩
  refine HW.run 200 (by kernel_rfl) ?_
  have g0 : ∀ B : Heap, getO (Hq ++ B) Hc.length = getO B 0 := fun B => getO_behind0 hlen
  have g1 : ∀ (j : Nat) (B : Heap), getO (Hq ++ B) (Hc.length + j) = getO B j := fun j B => getO_behind hlen
  have g2 : ∀ (j : Nat) (B : Heap) x, (Hq ++ B).set (Hc.length + j) x = Hq ++ B.set j x := fun j B x => set_behind hlen
  by_cases hlt : i < l.length
  · have hlt' : ((i : Int) < (l.length : Int)) = True := by rw [int_lt]; simp [hlt]
    have hx : l[i]? = some l[i] := List.getElem?_eq_getElem hlt
    have hd : l.drop i = l[i] :: l.drop (i + 1) := List.drop_eq_getElem_cons hlt
    generalize l[i] = q at hx hd
    simp (config := { decide := true }) only [go_sem, Int.reduceToNat, Nat.reduceAdd, Nat.reduceSub, Nat.reduceMul, Nat.reduceBEq, reduceIte, reduceCtorEq, h0, h1, h2, h4, h12, h13, h14, g0, g1, g2, hlen, hlt', hx, List.append_assoc, List.length_append]
    refine callX_nm (tsoStepH p s q hp hs (fun t ht => by have := hf t ht; omega)) rfl rfl ?_
    rw [hd, alongX_cons] at hX
    cases hw : (stepW p s q).2 with
    | false =>
      rw [hw, if_neg (by simp)] at hX
      have hXi : (alongX p (beginS p) l)[i]? = some [badH] := by rw [hX, List.getElem?_append_right (by omega), hpre, Nat.sub_self]; rfl
      have hXl : (alongX p (beginS p) l).length = i + 1 := by rw [hX, List.length_append, hpre]; rfl
      simp (config := { decide := true }) only [go_sem, Int.reduceToNat, Nat.reduceAdd, Nat.reduceSub, Nat.reduceMul, Nat.reduceBEq, reduceIte, reduceCtorEq, h0, h1, h2, h4, h12, h13, h14, g0, g1, g2, hlen, hw, List.append_assoc, List.length_append]
      refine yieldX_at hlen hid (hJ _ _ hJi).2 rfl (hY _ _ Hq hXi hJi) ?_
      intro c Hq' hc' hlen'
      simp (config := { decide := true }) only [go_sem, Int.reduceToNat, Nat.reduceAdd, Nat.reduceSub, Nat.reduceMul, Nat.reduceBEq, reduceIte, reduceCtorEq]
      refine endP_behind hlen' ?_ ?_
      · cases c with
        | true => exact (hJ _ _ hc').2
        | false => exact hK _ _ hc'
      · cases c with
        | true => rw [hXl]; exact .inl hc'
        | false => exact .inr ⟨_, hc'⟩
    | true =>
      rw [hw, if_pos rfl] at hX
      obtain ⟨c1, c2⟩ := stepW_th hw
      have hXi : (alongX p (beginS p) l)[i]? = some [doneH q (thAt s q.th)] := by rw [hX, List.getElem?_append_right (by omega), hpre, Nat.sub_self]; rfl
      have hT : s.ths[q.th.toNat]? = some (thAt s q.th) := thAt_get ⟨c1, c2⟩
      have c1' : (0 ≤ q.th) = True := by simp [c1]
      have c2' : (q.th < (s.ths.length : Int)) = True := by simp [c2]
      generalize thAt s q.th = y at hXi hT hX
      simp (config := { decide := true }) only [go_sem, Int.reduceToNat, Nat.reduceAdd, Nat.reduceSub, Nat.reduceMul, Nat.reduceBEq, reduceIte, reduceCtorEq, h0, h1, h2, h4, h12, h13, h14, g0, g1, g2, hlen, hw, List.append_assoc, List.length_append, hT, c1', c2']
      refine yieldX_at hlen hid (hJ _ _ hJi).2 rfl (hY _ _ Hq hXi hJi) ?_
      intro c Hq' hc' hlen'
      have g0 : ∀ B : Heap, getO (Hq' ++ B) Hc.length = getO B 0 := fun B => getO_behind0 hlen'
      have g1 : ∀ (j : Nat) (B : Heap), getO (Hq' ++ B) (Hc.length + j) = getO B j := fun j B => getO_behind hlen'
      have g2 : ∀ (j : Nat) (B : Heap) x, (Hq' ++ B).set (Hc.length + j) x = Hq' ++ B.set j x := fun j B x => set_behind hlen'
      cases c with
      | true =>
        simp only [if_true] at hc'
        simp (config := { decide := true }) only [go_sem, Int.reduceToNat, Nat.reduceAdd, Nat.reduceSub, Nat.reduceMul, Nat.reduceBEq, reduceIte, reduceCtorEq, h0, h1, h2, h4, h12, h13, h14, g0, g1, g2, hlen', List.append_assoc, List.length_append]
        have t1 : ∀ B : Heap, (Hq' ++ B).take (Hc.length + 3) = Hq' ++ B.take 3 := fun B => take_behind3 hlen'
        refine ⟨_, _, Ghost.trunc [0, 1, 2, 4, 12, 13, 14] (Hc.length + 3) (by omega) ?_ (nmH_behind hlen' (hJ _ _ hc').2 ?_), l.length - (i + 1), by omega, i + 1, Hq', pre ++ [[doneH q y]], (stepW p s q).1, rfl, by omega, hc', hlen', ?_, ?_, stepW_right hp hs, stepW_few hf, ?_, ?_, ?_, ?_, ?_, ?_, ?_, ?_⟩
        · simp (config := { decide := true }) only [go_sem, Nat.reduceBEq, reduceIte, h0, h1, h2, h4, h12, h13, List.all_cons, List.all_nil]
          simp [nm]; omega
        · simp (config := { decide := true }) only [go_sem, Nat.reduceBEq, reduceIte, List.set_cons_succ, List.set_cons_zero, List.take_succ_cons, List.take_zero, List.all_cons, List.all_nil]
        · rw [hX, List.append_assoc]; rfl
        · simp [hpre]
        iterate 6 simp (config := { decide := true }) only [go_sem, Nat.reduceBEq, reduceIte, h0, h1, h2, h4, h12, h13]
        · simp (config := { decide := true }) only [go_sem, Nat.reduceBEq, reduceIte]; rw [w64 (by omega) (by omega)]; rfl
        · rw [t1]; rfl
      | false =>
        simp only [Bool.false_eq_true, if_false] at hc'
        simp (config := { decide := true }) only [go_sem, Int.reduceToNat, Nat.reduceAdd, Nat.reduceSub, Nat.reduceMul, Nat.reduceBEq, reduceIte, reduceCtorEq, h0, h1, h2, h4, h12, h13, h14, g0, g1, g2, hlen']
        exact endP_behind hlen' (hK _ _ hc') (.inr ⟨_, hc'⟩)
  · have hlt' : ((i : Int) < (l.length : Int)) = False := by rw [int_lt]; simp [hlt]
    have e : i = (alongX p (beginS p) l).length := by
      rw [hX, List.drop_eq_nil_of_le (by omega), List.length_append, hpre]; rfl
    simp (config := { decide := true }) only [go_sem, Int.reduceToNat, Nat.reduceAdd, Nat.reduceSub, Nat.reduceMul, Nat.reduceBEq, reduceIte, reduceCtorEq, h0, h1, h2, h4, h12, h13, h14, g0, hlt']
    exact endP_behind hlen (hJ _ _ hJi).2 (.inl (e ▸ hJi))
end Go.Proofs.Yteieinhgdjjdoaa
namespace Go.Proofs.Yteieinhgdjjdoaa
open Go.RowKit
set_option linter.unusedVariables false
set_option linter.unusedSimpArgs false
set_option maxRecDepth 8000
theorem slotsF_at : ∀ (thr : List (List Stp)) (t0 k : Nat) (w : Nat × Nat), (slotsF t0 thr)[k]? = some w → ∃ t l, thr[t]? = some l ∧ w.1 = t0 + t ∧ w.2 < l.length ∧ k = startB thr t + w.2
  | [], _, k, w, h => by simp [slotsF] at h
  | x :: r, t0, k, w, h => by
    unfold slotsF at h
    rcases Nat.lt_or_ge k x.length with hk | hk
    · rw [List.getElem?_append_left (by simpa using hk), List.getElem?_map, List.getElem?_range hk] at h
      simp only [Option.map_some, Option.some.injEq] at h
      subst h
      exact ⟨0, x, rfl, rfl, hk, by simp [startB]⟩
    · rw [List.getElem?_append_right (by simpa using hk), List.length_map, List.length_range] at h
      obtain ⟨t, l, h1, h2, h3, h4⟩ := slotsF_at r (t0 + 1) (k - x.length) w h
      exact ⟨t + 1, l, by simpa using h1, by omega, h3, by rw [startB_cons]; omega⟩
theorem slotX_at {thr : List (List Stp)} {j : Nat} {x : List HV} (h : (slotX thr)[j]? = some x) : ∃ t a l, thr[t]? = some l ∧ a < l.length ∧ j = startB thr t + a ∧ (slotsF 0 thr)[j]? = some (t, a) ∧ x = [.v (.int .i64 (j : Int)), .ag [.v (.int .i64 (t : Int)), .v (.int .i64 (a : Int))]] := by
  unfold slotX at h
  rw [List.getElem?_map, List.getElem?_zipIdx] at h
  cases hw : (slotsF 0 thr)[j]? with
  | none => rw [hw] at h; cases h
  | some w =>
    rw [hw] at h
    simp only [Option.map_some, Option.some.injEq, Nat.zero_add] at h
    obtain ⟨t, l, h1, h2, h3, h4⟩ := slotsF_at thr 0 j w hw
    obtain ⟨w1, w2⟩ := w
    simp only [Nat.zero_add] at h2 h3 h4 h
    subst h2
    exact ⟨w1, w2, l, h1, h3, h4, rfl, h.symm⟩
set_option maxHeartbeats 8000000 in
theorem slotsNum (p : Prg) (th at_ : Int) (hp : SmallP p) : HFn Try.prog 32 [prgH p, .v (.int .i64 th), .v (.int .i64 at_)] (.v (.int .i64 (numS p th at_))) := by
  refine HCalls_bodyC (fn := Try.f32) 19 [.cell 6 3] (by kernel_rfl) rfl rfl (by kernel_rfl) (HW.run 400 (by kernel_rfl) ?_)
  simp (config := { decide := true }) only [go_sem, Int.reduceToNat, Nat.reduceAdd, Nat.reduceSub, Nat.reduceMul, Nat.reduceBEq, reduceIte, reduceCtorEq]
  refine callX_nm (slotsAll p) rfl rfl ?_
  simp (config := { decide := true }) only [go_sem, Int.reduceToNat, Nat.reduceAdd, Nat.reduceSub, Nat.reduceMul, Nat.reduceBEq, reduceIte, reduceCtorEq]
  refine HW.rangeFunc rfl (by decide) rfl (slotX p.thr) [some ⟨25, 2, [[.sl (ints p.init), .sl (thrs p.thr)]]⟩, some ⟨3, 1, [[.v (.int .i64 th)]]⟩, some ⟨3, 1, [[.v (.int .i64 at_)]]⟩, some ⟨3, 1, [[.v (.int .i64 0)]]⟩, none]
    (fun j Hi => Hi = [some ⟨25, 2, [[.sl (ints p.init), .sl (thrs p.thr)]]⟩, some ⟨3, 1, [[.v (.int .i64 th)]]⟩, some ⟨3, 1, [[.v (.int .i64 at_)]]⟩, some ⟨3, 1, [[.v (.int .i64 0)]]⟩, none] ∧ ∀ k, k < j → ∀ w, (slotsF 0 p.thr)[k]? = some w → ¬ ((w.1 : Int) = th ∧ (w.2 : Int) = at_))
    (fun c Hi => c = .ret ∧ Hi = [some ⟨25, 2, [[.sl (ints p.init), .sl (thrs p.thr)]]⟩, some ⟨3, 1, [[.v (.int .i64 th)]]⟩, some ⟨3, 1, [[.v (.int .i64 at_)]]⟩, some ⟨3, 1, [[.v (.int .i64 (numS p th at_))]]⟩, none])
    (SubH.spec (And.intro rfl (And.intro rfl (And.intro rfl (And.intro rfl trivial))))) ?_ (fun o => slotsAll1 p hp _ 4 rfl) ⟨rfl, by simp⟩ ?_ ?_ ?_
  · intro x hx
    obtain ⟨j, hj⟩ := List.mem_iff_getElem?.1 hx
    obtain ⟨t, a, l, _, _, _, _, rfl⟩ := slotX_at hj
    exact ⟨rfl, rfl⟩
  · rintro j x Hi hx - ⟨rfl, hno⟩
    obtain ⟨t, a, l, e1, e2, e3, e4, rfl⟩ := slotX_at hx
    refine HW.run 60 (by kernel_rfl) ?_
    simp (config := { decide := true }) only [go_sem, Int.reduceToNat, Nat.reduceAdd, Nat.reduceSub, Nat.reduceMul, Nat.reduceBEq, reduceIte, reduceCtorEq]
    refine HW.run 60 (by kernel_rfl) ?_
    by_cases hc : (t : Int) = th ∧ (a : Int) = at_
    · obtain ⟨rfl, rfl⟩ := hc
      have hl : numS p t a = (j : Int) := by
        unfold numS
        rw [Int.toNat_natCast, e1, Option.getD_some, if_pos ⟨by omega, by have := (List.getElem?_eq_some_iff.1 e1).1; omega, by omega, by omega⟩, e3]
        omega
      simp (config := { decide := true }) only [go_sem, Int.reduceToNat, Nat.reduceAdd, Nat.reduceSub, Nat.reduceMul, Nat.reduceBEq, reduceIte, reduceCtorEq]
      exact ⟨_, _, Ghost.trunc [] 5 (by omega) rfl rfl, rfl, by rw [hl]; rfl⟩
    · have hc' : ((t : Int) = th → (a : Int) = at_ → False) = True := by simp only [eq_iff_iff, iff_true]; exact fun h1 h2 => hc ⟨h1, h2⟩
      simp (config := { decide := true }) only [go_sem, Int.reduceToNat, Nat.reduceAdd, Nat.reduceSub, Nat.reduceMul, Nat.reduceBEq, reduceIte, reduceCtorEq]
      refine ⟨fun hh => ?_, fun _ => ⟨_, _, Ghost.trunc [] 5 (by omega) rfl rfl, rfl, rfl, fun k hk w hw => ?_⟩⟩
      · rw [Bool.and_eq_true, decide_eq_true_eq, decide_eq_true_eq] at hh
        exact absurd hh hc
      · rcases Nat.lt_or_ge k j with h | h
        · exact hno k h w hw
        · obtain rfl : k = j := by omega
          rw [e4] at hw; cases hw; exact hc
  · rintro Hf - ⟨rfl, hno⟩
    have hl : numS p th at_ = -1 := by
      unfold numS
      rw [if_neg]
      rintro ⟨h1, h2, h3, h4⟩
      have e1 : p.thr[th.toNat]? = some (p.thr[th.toNat]'(by omega)) := List.getElem?_eq_getElem (by omega)
      rw [e1, Option.getD_some] at h4
      have e2 := slotsF_get p.thr 0 th.toNat at_.toNat _ e1 (by omega)
      have hlt := (List.getElem?_eq_some_iff.1 e2).1
      rw [slotsF_length, ← slotX_length] at hlt
      refine hno _ hlt _ e2 ⟨?_, ?_⟩
      · simp only [Nat.zero_add]; omega
      · show ((at_.toNat : Nat) : Int) = at_; omega
    simp (config := { decide := true }) only [go_sem, Int.reduceToNat, Nat.reduceAdd, Nat.reduceSub, Nat.reduceMul, Nat.reduceBEq, reduceIte, reduceCtorEq, hl]
  · rintro c Hf - ⟨rfl, rfl⟩
    unfold XQ
    simp (config := { decide := true }) only [go_sem, Int.reduceToNat, Nat.reduceAdd, Nat.reduceSub, Nat.reduceMul, Nat.reduceBEq, reduceIte, reduceCtorEq]
end Go.Proofs.Yteieinhgdjjdoaa
namespace Go.Proofs.Yteieinhgdjjdoaa
open Go.RowKit
set_option linter.unusedVariables false
set_option linter.unusedSimpArgs false
set_option maxRecDepth 8000
theorem alongX_at {p : Prg} {s0 s : Sta} {l r : List Pck} {pre : List (List HV)} {j : Nat} {x : List HV} (h : alongX p s0 l = pre ++ alongX p s r) (hj : pre.length = j) (hx : (alongX p s0 l)[j]? = some x) :
    ∃ k r', r = k :: r' ∧ (((stepW p s k).2 = true ∧ x = [doneH k (thAt s k.th)] ∧ alongX p s0 l = (pre ++ [x]) ++ alongX p (stepW p s k).1 r') ∨ ((stepW p s k).2 = false ∧ x = [badH])) := by
  rw [h, List.getElem?_append_right (by omega), hj, Nat.sub_self] at hx
  cases r with
  | nil => simp [alongX] at hx
  | cons k r' =>
    refine ⟨k, r', rfl, ?_⟩
    rw [alongX_cons] at hx h
    cases hw : (stepW p s k).2 with
    | true =>
      rw [hw, if_pos rfl] at hx h
      simp only [List.getElem?_cons_zero, Option.some.injEq] at hx
      subst hx
      exact .inl ⟨rfl, rfl, by rw [h, List.append_assoc]; rfl⟩
    | false =>
      rw [hw, if_neg (by simp)] at hx
      simp only [List.getElem?_cons_zero, Option.some.injEq] at hx
      exact .inr ⟨rfl, hx.symm⟩
theorem alongX_end {p : Prg} {s0 s : Sta} {l r : List Pck} {pre : List (List HV)} (h : alongX p s0 l = pre ++ alongX p s r) (hj : pre.length = (alongX p s0 l).length) : r = [] := by
  rw [h, List.length_append] at hj
  cases r with
  | nil => rfl
  | cons k r' =>
    rw [alongX_cons] at hj
    split at hj <;> simp at hj
theorem along_rows {p : Prg} : ∀ {l : List Pck} {s : Sta} {x : List HV}, x ∈ alongX p s l → (∃ k t, x = [doneH k t]) ∨ x = [badH]
  | [], s, x, h => by simp [alongX] at h
  | k :: l, s, x, h => by
    rw [alongX_cons] at h
    split at h
    · rcases List.mem_cons.1 h with rfl | h
      · exact .inl ⟨_, _, rfl⟩
      · exact along_rows h
    · simp at h; exact .inr h
theorem along_len {p : Prg} : ∀ (l : List Pck) (s : Sta), (alongX p s l).length ≤ l.length
  | [], s => by simp [alongX]
  | k :: l, s => by
    have := along_len (p := p) l (stepW p s k).1
    rw [alongX_cons]
    split <;> simp <;> omega
abbrev raiH (p : Prg) (g : List Int) (a : List HV) (b : Bool) (n : Nat) (out : List Pck) : Heap :=
  [some ⟨25, 2, [[.sl (ints p.init), .sl (thrs p.thr)]]⟩, some ⟨26, 1, [a]⟩, some ⟨4, 1, [[.v (.bool b)]]⟩, some (mapI (keysB g)), some ⟨64, 1, [[.mp 3]]⟩,
   some ⟨26, 1, [[.hd 8 0 n]]⟩, none, none, some ⟨62, 2, pcks out⟩]
set_option maxHeartbeats 8000000 in
theorem crossRaise (p : Prg) (g : List Int) (l : List Pck) (hp : RightP p) (hg : g.length ≤ 10000) (hl : l.length ≤ 10000) : HFn Try.prog 15 [prgH p, .sl (ints g), .sl (pcks l)]
    (.tu [owPcks ((raiseF p g (beginS p) [] l).getD []), .v (.bool (raiseF p g (beginS p) [] l).isSome)]) := by
  refine HCalls.conv (Q := fun x _ => x = .tu [owPcks ((raiseF p g (beginS p) [] l).getD []), .v (.bool (raiseF p g (beginS p) [] l).isSome)] ∨ (raiseF p g (beginS p) [] l = none ∧ x = .tu [.v (.slice none 0 0), .v (.bool false)])) ?_ ?_
  rotate_left
  · rintro x H' (rfl | ⟨h, rfl⟩)
    · exact ⟨_, rfl, .inl rfl⟩
    · rw [h]; exact ⟨_, rfl, .inr ⟨rfl, Conv.nilTuOw _ _ _⟩⟩
  have hsm := hp.small
  refine HCalls_bodyC (fn := Try.f15) 52 [.cell 6 26, .cell 7 4] (by kernel_rfl) rfl rfl (by kernel_rfl) (HW.run 400 (by kernel_rfl) ?_)
  simp (config := { decide := true }) only [go_sem, Int.reduceToNat, Nat.reduceAdd, Nat.reduceSub, Nat.reduceMul, Nat.reduceBEq, reduceIte, reduceCtorEq]
  refine callX_nm (crossKeys g (by omega)) rfl rfl ?_
  simp (config := { decide := true }) only [go_sem, Int.reduceToNat, Nat.reduceAdd, Nat.reduceSub, Nat.reduceMul, Nat.reduceBEq, reduceIte, reduceCtorEq]
  refine callX_nm (crossAlong p l) rfl rfl ?_
  simp (config := { decide := true }) only [go_sem, Int.reduceToNat, Nat.reduceAdd, Nat.reduceSub, Nat.reduceMul, Nat.reduceBEq, reduceIte, reduceCtorEq]
  refine HW.ghost ((Ghost.cell 5 0 0 (.ow 62 2 []) rfl rfl rfl rfl (Conv.nilOw _ _) (by simp)).trans (Ghost.open 5 0 0)) ?_
  simp (config := { decide := true }) only [go_sem, Int.reduceToNat, Nat.reduceAdd, Nat.reduceSub, Nat.reduceMul, Nat.reduceBEq, reduceIte, reduceCtorEq]
  refine HW.rangeFunc rfl (by decide) rfl (alongX p (beginS p) l) (raiH p g [.v (.slice none 0 0)] false 0 [])
    (fun j Hi => ∃ pre s out r, alongX p (beginS p) l = pre ++ alongX p s r ∧ pre.length = j ∧ out.length ≤ 2 * j ∧ j ≤ l.length ∧ raiseF p g (beginS p) [] l = raiseF p g s out r ∧ Hi = raiH p g [.v (.slice none 0 0)] false out.length out)
    (fun c Hi => c = .ret ∧ raiseF p g (beginS p) [] l = none ∧ ∃ n out, Hi = raiH p g [.v (.slice none 0 0)] false n out)
    ?_ ?_ (fun o => along1 p l hp hl _ 6 7 (by omega) rfl rfl) ⟨[], beginS p, [], l, rfl, rfl, by simp, by simp, rfl, rfl⟩ ?_ ?_ ?_
  · refine ⟨rfl, fun j o hj => ?_⟩
    rcases j with _ | _ | _ | _ | _ | _ | _ | _ | _ | j <;> simp at hj ⊢ <;> exact hj
  · intro x hx
    rcases along_rows hx with ⟨k, t, rfl⟩ | rfl <;> exact ⟨rfl, rfl⟩
  · rintro j x Hi hx - ⟨pre, s, out, r, hX, hpre, hout, hjl, hR, rfl⟩
    obtain ⟨k, r', rfl, hcase⟩ := alongX_at hX hpre hx
    have hlen := along_len (p := p) l (beginS p)
    have hj1 : j + 1 ≤ l.length := by
      have := (List.getElem?_eq_some_iff.1 hx).1
      omega
    refine HW.run 60 (by kernel_rfl) ?_
    rcases hcase with ⟨hw, rfl, hX'⟩ | ⟨hw, rfl⟩
    · have hthr := (stepW_th hw).1
      have c0 : (k.th < 0) = False := by simp only [eq_iff_iff, iff_false]; omega
      have hR' : raiseF p g s out (k :: r') = (if k.dr = false ∧ hasB g (numS p k.th (thAt s k.th).pc) = true then (if (thAt s k.th).buf ≠ [] then none else raiseF p g (stepW p s k).1 (out ++ [⟨k.th, false⟩] ++ [k]) r') else raiseF p g (stepW p s k).1 (out ++ [k]) r') := by
        rw [raiseF, if_pos hw]
      rw [hR'] at hR
      generalize (stepW p s k).1 = s' at hR hX'
      generalize thAt s k.th = y at hR hX' hx
      have hbuf : (0 < (y.buf.length : Int)) = (y.buf ≠ []) := by
        cases y.buf with
        | nil => simp
        | cons a b => simp only [List.length_cons, eq_iff_iff]; constructor <;> intro <;> first | simp | omega
      simp (config := { decide := true }) only [go_sem, Int.reduceToNat, Nat.reduceAdd, Nat.reduceSub, Nat.reduceMul, Nat.reduceBEq, reduceIte, reduceCtorEq, c0]
      refine HW.run 100 (by kernel_rfl) ?_
      simp (config := { decide := true }) only [go_sem, Int.reduceToNat, Nat.reduceAdd, Nat.reduceSub, Nat.reduceMul, Nat.reduceBEq, reduceIte, reduceCtorEq, c0]
      cases hdr : k.dr with
      | true =>
        rw [if_neg (by simp [hdr])] at hR
        refine HW.tree 1 (.light 0 (.light 1 (.light 2 (.light 3 (.light 4 (.light 5 (.light 6 (.light 7 (.light 8 (.light 9 (.light 10 (.light 11 (.heavy 12 [5] (.heavy 13 [] (.light 14 (.light 15 .leaf)) .stop) .stop))))))))))))) follows (by kernel_rfl) (by kernel_rfl) ?_
        simp (config := { decide := true }) only [go_sem, Int.reduceToNat, Nat.reduceAdd, Nat.reduceSub, Nat.reduceMul, Nat.reduceBEq, reduceIte, reduceCtorEq, hdr]
        repeat (with_reducible refine And.intro ?_ ?_; · (with_reducible and_intros) <;> omega)
        refine ⟨_, _, Ghost.trunc [] 9 (by omega) rfl ?_, rfl, pre ++ [[doneH k y]], s', out ++ [k], r', hX', by simp [hpre], by simp; omega, hj1, hR, ?_⟩
        · simp (config := { decide := true }) only [go_sem, Nat.reduceBEq, reduceIte]
        · simp [← pcks_snoc, prow, hdr]
      | false =>
        refine HW.tree 1 (.light 0 (.light 1 (.light 2 (.light 3 (.light 4 (.light 5 (.light 6 (.light 7 (.light 8 (.light 9 (.light 10 (.light 11 (.heavy 12 [5] (.heavy 13 [] (.light 14 (.light 15 .leaf)) .stop) .stop))))))))))))) follows (by kernel_rfl) (by kernel_rfl) ?_
        simp (config := { decide := true }) only [go_sem, Int.reduceToNat, Nat.reduceAdd, Nat.reduceSub, Nat.reduceMul, Nat.reduceBEq, reduceIte, reduceCtorEq, hdr]
        refine callX_nm (slotsNum p k.th y.pc hsm) rfl rfl ?_
        have hpos := getM_keysB_pos g (numS p k.th y.pc)
        by_cases hin : hasB g (numS p k.th y.pc) = true
        · have hpos' : ((0 : Int) < getM (keysB g) (numS p k.th y.pc)) = True := by rw [hpos]; simpa [hasB] using hin
          rw [if_pos ⟨hdr, hin⟩] at hR
          by_cases hb : y.buf = []
          · rw [if_neg (by simp [hb])] at hR
            have hbuf' : ((0 : Int) < (y.buf.length : Int)) = False := by rw [hbuf]; simp [hb]
            simp (config := { decide := true }) only [go_sem, Int.reduceToNat, Nat.reduceAdd, Nat.reduceSub, Nat.reduceMul, Nat.reduceBEq, reduceIte, reduceCtorEq, hdr, hpos', hbuf']
            repeat (with_reducible refine And.intro ?_ ?_; · (with_reducible and_intros) <;> omega)
            refine ⟨_, _, Ghost.trunc [] 9 (by omega) rfl ?_, rfl, pre ++ [[doneH k y]], s', out ++ [⟨k.th, false⟩] ++ [k], r', hX', by simp [hpre], by simp; omega, hj1, hR, ?_⟩
            · simp (config := { decide := true }) only [go_sem, Nat.reduceBEq, reduceIte]
            · simp [pcks, prow, hdr]
          · rw [if_pos hb] at hR
            have hbuf' : ((0 : Int) < (y.buf.length : Int)) = True := by rw [hbuf]; simp [hb]
            simp (config := { decide := true }) only [go_sem, Int.reduceToNat, Nat.reduceAdd, Nat.reduceSub, Nat.reduceMul, Nat.reduceBEq, reduceIte, reduceCtorEq, hdr, hpos', hbuf']
            refine ⟨_, _, Ghost.trunc [] 9 (by omega) rfl ?_, rfl, hR, out.length, out, rfl⟩
            simp (config := { decide := true }) only [go_sem, Nat.reduceBEq, reduceIte]
        · have hpos' : ((0 : Int) < getM (keysB g) (numS p k.th y.pc)) = False := by rw [hpos]; simpa [hasB] using hin
          rw [if_neg (fun h => hin h.2)] at hR
          simp (config := { decide := true }) only [go_sem, Int.reduceToNat, Nat.reduceAdd, Nat.reduceSub, Nat.reduceMul, Nat.reduceBEq, reduceIte, reduceCtorEq, hdr, hpos']
          repeat (with_reducible refine And.intro ?_ ?_; · (with_reducible and_intros) <;> omega)
          refine ⟨_, _, Ghost.trunc [] 9 (by omega) rfl ?_, rfl, pre ++ [[doneH k y]], s', out ++ [k], r', hX', by simp [hpre], by simp; omega, hj1, hR, ?_⟩
          · simp (config := { decide := true }) only [go_sem, Nat.reduceBEq, reduceIte]
          · simp [← pcks_snoc, prow, hdr]
    · simp (config := { decide := true }) only [go_sem, Int.reduceToNat, Nat.reduceAdd, Nat.reduceSub, Nat.reduceMul, Nat.reduceBEq, reduceIte, reduceCtorEq]
      refine HW.run 100 (by kernel_rfl) ?_
      simp (config := { decide := true }) only [go_sem, Int.reduceToNat, Nat.reduceAdd, Nat.reduceSub, Nat.reduceMul, Nat.reduceBEq, reduceIte, reduceCtorEq]
      have hR' : raiseF p g (beginS p) [] l = none := by rw [hR, raiseF, if_neg (by simp [hw])]
      refine ⟨_, _, Ghost.trunc [] 9 (by omega) rfl ?_, rfl, hR', out.length, out, rfl⟩
      simp (config := { decide := true }) only [go_sem, Nat.reduceBEq, reduceIte]
  · rintro Hf - ⟨pre, s, out, r, hX, hpre, hout, hjl, hR, rfl⟩
    obtain rfl := alongX_end hX hpre
    simp (config := { decide := true }) only [go_sem, Int.reduceToNat, Nat.reduceAdd, Nat.reduceSub, Nat.reduceMul, Nat.reduceBEq, reduceIte, reduceCtorEq]
    rw [hR]
    exact .inl rfl
  · rintro c Hf - ⟨rfl, hn, n, out, rfl⟩
    unfold XQ
    simp (config := { decide := true }) only [go_sem, Int.reduceToNat, Nat.reduceAdd, Nat.reduceSub, Nat.reduceMul, Nat.reduceBEq, reduceIte, reduceCtorEq]
    exact .inr hn
end Go.Proofs.Yteieinhgdjjdoaa
namespace Go.Proofs.Yteieinhgdjjdoaa
open Go.Shelf
set_option linter.unusedVariables false
set_option maxRecDepth 100000
def keysL_ren : Go.Shelf.Ren := ⟨fun | 7 => 34 | 10 => 56 | n => n, fun | 23 => 64 | 26 => 3 | 3 => 3 | 28 => 73 | 0 => 0 | 27 => 72 | 33 => 95 | 4 => 4 | n => n, fun | n => n⟩
theorem keysL : Go.Proofs.SlLaysZI.n7 Try.prog keysL_ren where
  mixed := by kernel_rfl
  f7 := ⟨"maps.Keys[map[int]int,int,int]", by decide, Try.func34.trans (congrArg some (by kernel_rfl))⟩
  f10 := ⟨"maps.Keys[map[int]int,int,int]$1", by decide, Try.func56.trans (congrArg some (by kernel_rfl))⟩
  t0 := Try.underlying0
  a0 := Try.isAgg0
  z0 := Try.sizeOf0
  v0 := Try.zeroValue0
  t4 := Try.underlying4
  a4 := Try.isAgg4
  z4 := Try.sizeOf4
  v4 := Try.zeroValue4
  t23 := Try.underlying64
  a23 := Try.isAgg64
  z23 := Try.sizeOf64
  v23 := Try.zeroValue64
  t26 := Try.underlying3
  a26 := Try.isAgg3
  z26 := Try.sizeOf3
  v26 := Try.zeroValue3
  t27 := Try.underlying72
  a27 := Try.isAgg72
  z27 := Try.sizeOf72
  v27 := Try.zeroValue72
  t28 := Try.underlying73
  a28 := Try.isAgg73
  z28 := Try.sizeOf73
  v28 := Try.zeroValue73
  t33 := Try.underlying95
  a33 := Try.isAgg95
  z33 := Try.sizeOf95
  v33 := Try.zeroValue95
def sortedL_ren : Go.Shelf.Ren := ⟨fun | 6 => 33 | 8 => 54 | 9 => 55 | 11 => 69 | 13 => 71 | 12 => 70 | 23 => 90 | 24 => 91 | 14 => 81 | 15 => 82 | 16 => 83 | 17 => 84 | 18 => 85 | 19 => 86 | 20 => 87 | 21 => 88 | 22 => 89 | 25 => 95 | 26 => 96 | 27 => 97 | 28 => 98 | 29 => 99 | 30 => 100 | 31 => 102 | n => n, fun | 26 => 3 | 28 => 73 | 24 => 22 | 0 => 0 | 3 => 3 | 37 => 112 | 48 => 128 | 50 => 130 | 4 => 4 | 40 => 121 | 39 => 120 | 45 => 100 | 5 => 5 | 9 => 9 | 51 => 135 | 55 => 139 | 57 => 145 | 58 => 146 | 33 => 95 | n => n, fun | n => n⟩
theorem sortedL : Go.Proofs.SlLaysZI.n6 Try.prog sortedL_ren where
  mixed := by kernel_rfl
  f6 := ⟨"slices.Sorted[int]", by decide, Try.func33.trans (congrArg some (by kernel_rfl))⟩
  f8 := ⟨"slices.Collect[int]", by decide, Try.func54.trans (congrArg some (by kernel_rfl))⟩
  f11 := ⟨"slices.AppendSeq[[]int,int]", by decide, Try.func69.trans (congrArg some (by kernel_rfl))⟩
  t0 := Try.underlying0
  a0 := Try.isAgg0
  z0 := Try.sizeOf0
  v0 := Try.zeroValue0
  t24 := Try.underlying22
  a24 := Try.isAgg22
  z24 := Try.sizeOf22
  v24 := Try.zeroValue22
  t26 := Try.underlying3
  a26 := Try.isAgg3
  z26 := Try.sizeOf3
  v26 := Try.zeroValue3
  t28 := Try.underlying73
  a28 := Try.isAgg73
  z28 := Try.sizeOf73
  v28 := Try.zeroValue73
  i26 := by kernel_rfl
def sortL_ren : Go.Shelf.Ren := ⟨fun | 5 => 55 | 8 => 71 | 7 => 70 | 19 => 90 | 20 => 91 | 10 => 81 | 11 => 82 | 12 => 83 | 13 => 84 | 14 => 85 | 15 => 86 | 16 => 87 | 17 => 88 | 18 => 89 | 30 => 95 | 31 => 96 | 32 => 97 | 33 => 98 | 34 => 99 | 35 => 100 | 40 => 102 | n => n, fun | 23 => 22 | 25 => 3 | 3 => 3 | 32 => 112 | 22 => 22 | 0 => 0 | 44 => 128 | 46 => 130 | 4 => 4 | 36 => 121 | 35 => 120 | 41 => 100 | 5 => 5 | 9 => 9 | 53 => 135 | 57 => 139 | 63 => 145 | 64 => 146 | n => n, fun | n => n⟩
theorem sortL : Go.Proofs.SlLaysM.n5 Try.prog sortL_ren where
  mixed := by kernel_rfl
  f5 := ⟨"slices.Sort[[]int,int]", by decide, Try.func55.trans (congrArg some (by kernel_rfl))⟩
  f7 := ⟨"slices.pdqsortOrdered[int]", by decide, Try.func70.trans (congrArg some (by kernel_rfl))⟩
  f8 := Try.func71.trans (congrArg some (by kernel_rfl))
  f10 := ⟨"slices.insertionSortOrdered[int]", by decide, Try.func81.trans (congrArg some (by kernel_rfl))⟩
  f11 := ⟨"slices.heapSortOrdered[int]", by decide, Try.func82.trans (congrArg some (by kernel_rfl))⟩
  f12 := ⟨"slices.breakPatternsOrdered[int]", by decide, Try.func83.trans (congrArg some (by kernel_rfl))⟩
  f13 := ⟨"slices.choosePivotOrdered[int]", by decide, Try.func84.trans (congrArg some (by kernel_rfl))⟩
  f14 := ⟨"slices.reverseRangeOrdered[int]", by decide, Try.func85.trans (congrArg some (by kernel_rfl))⟩
  f15 := ⟨"slices.partialInsertionSortOrdered[int]", by decide, Try.func86.trans (congrArg some (by kernel_rfl))⟩
  f16 := ⟨"cmp.Less[int]", by decide, Try.func87.trans (congrArg some (by kernel_rfl))⟩
  f17 := ⟨"slices.partitionEqualOrdered[int]", by decide, Try.func88.trans (congrArg some (by kernel_rfl))⟩
  f18 := ⟨"slices.partitionOrdered[int]", by decide, Try.func89.trans (congrArg some (by kernel_rfl))⟩
  f19 := Try.func90.trans (congrArg some (by kernel_rfl))
  f20 := Try.func91.trans (congrArg some (by kernel_rfl))
  f30 := ⟨"slices.siftDownOrdered[int]", by decide, Try.func95.trans (congrArg some (by kernel_rfl))⟩
  f31 := Try.func96.trans (congrArg some (by kernel_rfl))
  f32 := Try.func97.trans (congrArg some (by kernel_rfl))
  f33 := ⟨"slices.medianAdjacentOrdered[int]", by decide, Try.func98.trans (congrArg some (by kernel_rfl))⟩
  f34 := ⟨"slices.medianOrdered[int]", by decide, Try.func99.trans (congrArg some (by kernel_rfl))⟩
  f35 := ⟨"cmp.isNaN[int]", by decide, Try.func100.trans (congrArg some (by kernel_rfl))⟩
  f40 := ⟨"slices.order2Ordered[int]", by decide, Try.func102.trans (congrArg some (by kernel_rfl))⟩
  t0 := Try.underlying0
  a0 := Try.isAgg0
  z0 := Try.sizeOf0
  v0 := Try.zeroValue0
  t3 := Try.underlying3
  a3 := Try.isAgg3
  z3 := Try.sizeOf3
  v3 := Try.zeroValue3
  t4 := Try.underlying4
  a4 := Try.isAgg4
  z4 := Try.sizeOf4
  v4 := Try.zeroValue4
  t5 := Try.underlying5
  a5 := Try.isAgg5
  z5 := Try.sizeOf5
  v5 := Try.zeroValue5
  t9 := Try.underlying9
  a9 := Try.isAgg9
  z9 := Try.sizeOf9
  v9 := Try.zeroValue9
  t22 := Try.underlying22
  a22 := Try.isAgg22
  z22 := Try.sizeOf22
  v22 := Try.zeroValue22
  t23 := Try.underlying22
  a23 := Try.isAgg22
  z23 := Try.sizeOf22
  v23 := Try.zeroValue22
  t25 := Try.underlying3
  a25 := Try.isAgg3
  z25 := Try.sizeOf3
  v25 := Try.zeroValue3
  t32 := Try.underlying112
  a32 := Try.isAgg112
  z32 := Try.sizeOf112
  v32 := Try.zeroValue112
  t35 := Try.underlying120
  a35 := Try.isAgg120
  z35 := Try.sizeOf120
  v35 := Try.zeroValue120
  t36 := Try.underlying121
  a36 := Try.isAgg121
  z36 := Try.sizeOf121
  v36 := Try.zeroValue121
  t41 := Try.underlying100
  a41 := Try.isAgg100
  z41 := Try.sizeOf100
  v41 := Try.zeroValue100
  t44 := Try.underlying128
  a44 := Try.isAgg128
  z44 := Try.sizeOf128
  v44 := Try.zeroValue128
  t46 := Try.underlying130
  a46 := Try.isAgg130
  z46 := Try.sizeOf130
  v46 := Try.zeroValue130
  t53 := Try.underlying135
  a53 := Try.isAgg135
  z53 := Try.sizeOf135
  v53 := Try.zeroValue135
  t57 := Try.underlying139
  a57 := Try.isAgg139
  z57 := Try.sizeOf139
  v57 := Try.zeroValue139
  t63 := Try.underlying145
  a63 := Try.isAgg145
  z63 := Try.sizeOf145
  v63 := Try.zeroValue145
  t64 := Try.underlying146
  a64 := Try.isAgg146
  z64 := Try.sizeOf146
  v64 := Try.zeroValue146
end Go.Proofs.Yteieinhgdjjdoaa
namespace Go.Proofs.Yteieinhgdjjdoaa
open Go.RowKit
open Go.WideElems (Fit rd rg rd_mk rg_of)
set_option linter.unusedVariables false
set_option linter.unusedSimpArgs false
set_option maxRecDepth 8000
theorem Ghost.hole {N L : Nat} {T : Nat → HV} {H : Heap} (e : TypeId) (sz : Nat) : Ghost N L T H T (H ++ [some ⟨e, sz, []⟩]) := fun B Z G FP ds a w hL hs => by
  have hinv := hs.inv.new (w' := w) (o := ⟨e, sz, []⟩) (g := ⟨none, e, sz, 0, 0⟩) (fp := []) (Nat.le_refl _) (fun _ _ => rfl) ⟨rfl, rfl, rfl, by simp, .inl ⟨rfl, rfl, rfl⟩⟩ (by simp) (by simp)
  have hE : Evo Z FP w Z (fun j => if j = H.length then [] else FP j) w := evo_new (hs.inv.nofp _ (by simp)) rfl rfl rfl (Nat.le_refl _) (fun _ _ => rfl) (by simp)
  exact ⟨Z, _, _, hs.evo hinv (GLe.more _) hE, GLt.of hL (GLe.more _), hE⟩
abbrev mapBox (id : Nat) : HObj := ⟨64, 1, [[.mp id]]⟩
theorem mapsKeys {H : Heap} {id j : Nat} {kv : List (Int × Int)} (hid : H[id]? = some (some (mapI kv))) (hj : H[j]? = some (some ⟨64, 1, []⟩)) :
    HCalls Try.prog 34 H [.mp id] (fun r H' => r = .fn 56 [.pt j 1 0 0] ∧ H' = H.set j (some (mapBox id))) := by
  refine ⟨fun vals w => enters_of (P := Try.prog) Try.func34 (by kernel_rfl) rfl vals w, fun Z G FP w vals hi ha => ?_⟩
  simp only [RL] at ha
  obtain ⟨y, ys, f1, f2, rfl, e1, hv, rfl, rfl⟩ := ha
  obtain ⟨rfl, -⟩ : f1 = [] ∧ True := by simpa using e1
  obtain ⟨r, rfl, hg, hfp, hb⟩ := map_at hi hid hv
  have hne : id ≠ j := fun e => by rw [e, hj] at hid; simp [mapI, mapG, mapObj] at hid
  obtain ⟨gj, hgj, hobj⟩ := hi.live j _ hj
  have hn0 : gj.n = 0 := hobj.n
  have cK : Calls Try.prog 34 #[.map (some r)] w fun e w' => e = .returned (.func (.func 56) #[] #[.pointer (some ⟨w.heap.size, 0, none⟩)]) ∧ w' = w.alloc (.cells #[.map (some r)] 64) :=
    callsIn_wide.1 (AnyZI.keys_in keysL Fence.wide 5 trivial rfl (some r) w)
  refine Calls.mono cK ?_
  rintro e w' ⟨rfl, rfl⟩
  have hnew := heap_alloc_new w (.cells #[.map (some r)] 64)
  have hold : ∀ b, b < w.heap.size → (w.alloc (.cells #[.map (some r)] 64)).heap[b]? = w.heap[b]? := fun b hb => Below.heap_alloc w _ b hb
  have hlt : j < G.length := hi.lt hj
  have hset : ∀ k, k ≠ j → (G.set j (some (some ⟨some w.heap.size, 64, 1, 1, 1⟩ : Option OG)).join)[k]? = G[k]? := fun k hk => by simp [List.getElem?_set, Ne.symm hk]
  have hmp : RV Z (G.set j (some ⟨some w.heap.size, 64, 1, 1, 1⟩)) (w.alloc (.cells #[.map (some r)] 64)) (.mp id) (.map (some r)) [] := by
    simp only [RV]
    refine ⟨trivial, rfl, by rw [List.length_set]; exact hi.lt hid, fun g hg' => ?_⟩
    rw [List.getElem?_set_ne (Ne.symm hne), hg] at hg'
    cases hg'
    exact ⟨Nat.le_refl _, fun _ _ => rfl⟩
  have hinv := hi.turn (w' := w.alloc (.cells #[.map (some r)] 64)) (o' := mapBox id) (g' := ⟨some w.heap.size, 64, 1, 1, 1⟩) (fp' := [w.heap.size]) hj hgj (.inr (by rw [hn0]; exact Nat.one_pos)) (by simp) (fun b hb _ => hold b hb)
    ⟨rfl, rfl, rfl, by simp, .inr (.inl ⟨w.heap.size, #[.map (some r)], [], rfl, rfl, hnew, by simp, by simp, by simp [maxLen], by
      simp only [RR, RC]
      refine ⟨[], [], rfl, ⟨_, [], [], rfl, ?_, rfl, hmp, rfl⟩, rfl⟩
      unfold World.cell?; rw [hnew]; rfl⟩)⟩ (by simp) (fun b hb => by
        obtain rfl := List.mem_singleton.1 hb
        refine ⟨fun hz => ?_, by simp, fun k _ hc => ?_⟩
        · have := hi.zlt _ hz; omega
        · have := hi.flt k _ hc; omega)
  refine ⟨_, _, _, _, _, _, [], rfl, ⟨rfl, rfl⟩, by simp, hinv, ?_, by simp, by simp, by simp, GLe.set hgj (.inr (by rw [hn0]; exact Nat.one_pos)), evo_turn rfl rfl rfl (by simp) (fun b hb _ => hold b hb) (fun b hb => by
    obtain rfl := List.mem_singleton.1 hb
    exact .inl (Nat.le_refl _))⟩
  simp only [RV]
  refine ⟨#[.pointer (some ⟨w.heap.size, 0, none⟩)], (fnV_lt (by decide) _).symm, ?_⟩
  simp only [RL, RV]
  refine ⟨_, _, [], [], rfl, rfl, ⟨rfl, rfl, by rw [List.length_set]; exact hlt, fun g hg' => ?_⟩, rfl, rfl⟩
  rw [List.getElem?_set_self hlt] at hg'
  cases hg'
  exact ⟨Nat.le_refl _, fun _ => ⟨_, rfl, by simp⟩⟩
theorem RR_intsAt {Z : Nat → Prop} {w : World} {b : Nat} : ∀ (xs : List Int) (k : Nat), (∀ (i : Nat) x, xs[i]? = some x → w.cell? ⟨b, k + i, none⟩ = some (.int .i64 x)) → RR Z [] w (ints xs) b k []
  | [], k, _ => by simp [ints, RR]
  | x :: xs, k, h => by
    show RR Z [] w ([.v (.int .i64 x)] :: ints xs) b k []
    simp only [RR, RC, RV]
    refine ⟨[], [], rfl, ⟨_, [], [], rfl, by have := h 0 x rfl; simpa using this, rfl, ⟨rfl, rfl⟩, rfl⟩, ?_⟩
    refine RR_intsAt xs (k + 1) fun i y hy => ?_
    rw [show k + 1 + i = k + (i + 1) by omega]
    exact h (i + 1) y (by simpa using hy)
def unitR : Value → Option (DataW Unit × List MemPlace) := fun _ => some (.nil, [])
theorem esL_mem {kv : List (Int × Int)} {x : MapEntry} : ∀ {n : Nat}, x ∈ esL kI n kv → ∃ e ∈ kv, x.key = .int .i64 e.1 ∧ n ≤ x.born ∧ x.born < n + kv.length := by
  induction kv with
  | nil => intro n h; simp [esL] at h
  | cons e r ih =>
    intro n h
    simp only [esL, List.mem_cons] at h
    rcases h with rfl | h
    · exact ⟨e, by simp, rfl, Nat.le_refl _, by simp⟩
    · obtain ⟨e', h1, h2, h3, h4⟩ := ih h
      exact ⟨e', by simp [h1], h2, by omega, by simp only [List.length_cons]; omega⟩
theorem esL_stamped {kv : List (Int × Int)} (hnd : (kv.map (·.1)).Nodup) : ∀ n, ((esL kI n kv).map (·.born)).Nodup ∧ (esL kI n kv).Pairwise (fun x y => x.key ≠ y.key) := by
  induction kv with
  | nil => intro n; simp [esL]
  | cons e r ih =>
    intro n
    simp only [List.map_cons, List.nodup_cons] at hnd
    obtain ⟨h1, h2⟩ := ih hnd.2 (n + 1)
    simp only [esL, List.map_cons, List.nodup_cons, List.pairwise_cons]
    refine ⟨⟨fun hm => ?_, h1⟩, fun y hy hk => ?_, h2⟩
    · obtain ⟨y, hy, he⟩ := List.mem_map.1 hm
      obtain ⟨_, _, _, h3, _⟩ := esL_mem hy
      omega
    · obtain ⟨e', h3, h4, _, _⟩ := esL_mem hy
      rw [h4] at hk
      simp at hk
      exact hnd.1 (hk ▸ List.mem_map.2 ⟨e', h3, rfl⟩)
theorem keys_read {kv : List (Int × Int)} (hr : ∀ e ∈ kv, -1000000 ≤ e.1 ∧ e.1 ≤ 1000000) : ∀ n, (esL kI n kv).map (rg (H := Unit) Try.prog 3 unitR) = kv.map (fun e => (Lit.int .i64 e.1, DataW.nil)) ∧ ∀ x ∈ esL kI n kv, ∃ y, rd (H := Unit) Try.prog 3 unitR x = some y := by
  induction kv with
  | nil => intro n; simp [esL]
  | cons e r ih =>
    intro n
    obtain ⟨h1, h2⟩ := ih (fun e' h => hr e' (by simp [h])) (n + 1)
    have hw : (Lit.int .i64 e.1).wf = true := by
      have := hr e (by simp)
      have h1 : IntKind.i64.min = -9223372036854775808 := by decide
      have h2 : IntKind.i64.max = 9223372036854775807 := by decide
      simp only [Lit.wf, h1, h2, Bool.and_eq_true, decide_eq_true_eq]
      omega
    have hk : keyOf Try.prog 3 (.int .i64 e.1) = some (.int .i64 e.1) := Go.Maps.keyOf_int_mk Try.underlying3 hw
    have hd : rd (H := Unit) Try.prog 3 unitR ⟨.int .i64 e.1, .int .i64 e.2, n⟩ = some (.int .i64 e.1, .nil) := rd_mk (yv := (.nil, [])) hk rfl
    refine ⟨?_, fun x hx => ?_⟩
    · simp only [esL, List.map_cons, h1]
      rw [rg_of hd]
    · simp only [esL, List.mem_cons] at hx
      rcases hx with rfl | hx
      · exact ⟨_, hd⟩
      · exact h2 x hx
theorem sortsL (m : Nat) : AnyZI.SortsIn Try.prog sortedL_ren Fence.wide m :=
  ⟨fun blk off cap ss W hH hblk hsz => callsIn_wide.2 (AnyM.slices_Sort_int sortL blk off cap ss W hH hblk hsz),
   fun p cap W => callsIn_wide.2 (AnyM.slices_Sort_int_none sortL p cap W)⟩
def sortedM (kv : List (Int × Int)) : List Int := (kv.map (·.1)).mergeSort fun x y => decide (x ≤ y)
set_option maxHeartbeats 1000000 in
theorem slicesSorted {H : Heap} {id j : Nat} {kv : List (Int × Int)} (hid : H[id]? = some (some (mapI kv))) (hj : H[j]? = some (some (mapBox id))) (hnd : (kv.map (·.1)).Nodup) (hr : ∀ e ∈ kv, -1000000 ≤ e.1 ∧ e.1 ≤ 1000000) (hlen : kv.length ≤ 1000000) :
    HCalls Try.prog 33 H [.fn 56 [.pt j 1 0 0]] (fun r H' => r = owInts (sortedM kv) ∧ H' = H) := by
  refine ⟨fun vals w => enters_of (P := Try.prog) Try.func33 (by kernel_rfl) rfl vals w, fun Z G FP w vals hi ha => ?_⟩
  simp only [RL] at ha
  obtain ⟨y, ys, f1, f2, rfl, e1, hv, rfl, rfl⟩ := ha
  obtain ⟨rfl, -⟩ : f1 = [] ∧ True := by simpa using e1
  rw [RV] at hv
  obtain ⟨zs, rfl, hv⟩ := hv
  rw [fnV_lt (by decide)]
  obtain ⟨zs⟩ := zs
  simp only [RL] at hv
  obtain ⟨q, ys, f1, f2, rfl, e2, hq, rfl, rfl⟩ := hv
  obtain ⟨rfl, -⟩ : f1 = [] ∧ True := by simpa using e2
  obtain ⟨g, b, cells, f, hg, hob, hgb, hfp, hb, hcs, hc1, hc2, hrr, rfl, _⟩ := pt_at hi hj rfl rfl hq
  simp only [RR, RC] at hrr
  obtain ⟨_, _, _, ⟨mv, _, _, _, hcell, _, hmv, _⟩, _⟩ := hrr
  have hmv' : RV Z G w (.mp id) mv [] := by
    simp only [RV] at hmv ⊢
    exact ⟨trivial, hmv.2⟩
  obtain ⟨r, rfl, _, _, hrb⟩ := map_at hi hid hmv'
  have hbl : b < w.heap.size := (Array.getElem?_eq_some_iff.1 hb).1
  obtain ⟨h1, h2⟩ := keys_read hr 0
  have htl : (esG kI kv).toList = esL kI 0 kv := by unfold esG; rw [List.toList_toArray]
  let D0 : DataW Unit := .map (((esG kI kv).toList.map (rg Try.prog 3 unitR)).foldr DataW.insert [])
  have hsz : Go.Maps.size D0 = kv.length := by
    show (((esG kI kv).toList.map (rg Try.prog 3 unitR)).foldr DataW.insert []).length = _
    rw [length_sorted, List.length_map, htl, esL_length]
  have hown : w.ownsMap Try.prog 3 unitR r kv.length D0 := by
    refine ⟨esG kI kv, kv.length, hrb, ⟨?_, ?_, fun x hx => h2 x (htl ▸ hx)⟩, ?_, rfl⟩
    · rw [← Array.length_toList, htl, esL_length]; unfold maxLen; omega
    · rw [Go.MapKept.stamped_iff, htl]
      obtain ⟨k1, k2⟩ := esL_stamped hnd 0
      exact ⟨fun x hx => by obtain ⟨_, _, _, _, k⟩ := esL_mem hx; omega, k1, k2⟩
    · rw [← Array.length_toList, htl, esL_length]; exact Nat.le_refl _
  have hperm : (intKeys D0).Perm (kv.map (·.1)) := by
    show ((((esG kI kv).toList.map (rg Try.prog 3 unitR)).foldr DataW.insert []).map fun p => Go.intOf p.1).Perm _
    refine ((Go.WideShapes.sorted_perm _).map _).trans ?_
    rw [htl, h1, List.map_map]
    exact List.Perm.refl _
  have hcb : w.cell? ⟨b, 0, none⟩ = some (.map (some r)) := by simpa using hcell
  have hseq : Go.SeqGives Fence.wide 2 Try.prog 56 #[.pointer (some ⟨b, 0, none⟩)] encZ (fun ss => ss.Perm (intKeys D0)) (Go.Maps.size D0) w :=
    AnyZI.keys_gives (ρ := keysL_ren) { keysL with } Fence.wide 2 trivial rfl (by omega) b r kv.length D0 w hbl hcb hown
  have cS := AnyZI.sorted_in sortedL Fence.wide 5 trivial trivial trivial trivial rfl (by omega) (sortsL _) (enters_of Try.func55 (by kernel_rfl) rfl) 56 #[.pointer (some ⟨b, 0, none⟩)] trivial (enters_of Try.func56 (by kernel_rfl) rfl) _ _ (by rw [hsz]; unfold maxLen; omega) (by rw [hsz]; omega) w hseq
  have cS' : Calls Try.prog 33 #[.func (.func 56) #[] #[.pointer (some ⟨b, 0, none⟩)]] w _ := callsIn_wide.1 cS
  have hy : (Value.pointer (some ⟨b, 0 * (mapBox id).sz + 0, none⟩)) = .pointer (some ⟨b, 0, none⟩) := by simp
  rw [hy]
  refine Calls.mono cS' ?_
  rintro e w' ⟨v, ss, rfl, hS, hrow, hnil, hbw⟩
  have hsort : (ss.mergeSort fun x y => decide (x ≤ y)) = sortedM kv := mergeSort_of_perm_i (hS.trans hperm)
  rw [hsort] at hrow
  have hlen2 : (sortedM kv).length = ss.length := by rw [← hsort, List.length_mergeSort]
  have hold : ∀ k, k < w.heap.size → w'.heap[k]? = w.heap[k]? := hbw.block
  have hi' : HInv Z G FP H w' := hi.keep hbw.size fun k hk => hold k (by
    rcases hk with hk | ⟨i, hk⟩
    · exact hi.zlt k hk
    · exact hi.flt i k hk)
  have hEv : Evo Z FP w Z FP w' := ⟨hbw.os, hbw.tape, hbw.output, hbw.size, fun k hk _ => hold k hk, fun _ h => h, fun _ h => .inl h, fun i k hk => .inr ⟨i, hk⟩⟩
  rcases hrow.2 with ⟨rfl, h0⟩ | ⟨gb, cap, cur, rfl, hbase, hgb', r1, r2, r3, r4⟩
  · refine ⟨_, _, H, Z, G, FP, [], rfl, ⟨rfl, rfl⟩, rfl, hi', ?_, by simp, by simp, by simp, GLe.refl _, hEv⟩
    have : sortedM kv = [] := List.eq_nil_of_length_eq_zero (by omega)
    rw [this]
    simp only [RV]
    exact .inl ⟨rfl, trivial, trivial⟩
  · have hgl : gb < w'.heap.size := (Array.getElem?_eq_some_iff.1 hgb').1
    refine ⟨_, _, H, Z, G, FP, [gb], rfl, ⟨rfl, rfl⟩, rfl, hi', ?_, by simp, fun k hk => ?_, fun k hk => ?_, GLe.refl _, hEv⟩
    · simp only [RV]
      refine .inr ⟨gb, cap, cur, [], by rw [ints_length, hlen2], rfl, hgb', r3, by rw [ints_length]; omega, r2, fun r hr => ?_, ?_⟩
      · obtain ⟨_, _, rfl⟩ := List.mem_map.1 hr; rfl
      · refine RR_intsAt _ 0 fun i x hx => ?_
        have hil : i < ss.length := by have := (List.getElem?_eq_some_iff.1 hx).1; omega
        have : (cur.toList.take (ss.length * 1))[i]? = some (.int .i64 x) := by rw [r4, List.getElem?_map, hx]; rfl
        rw [List.getElem?_take_of_lt (by omega)] at this
        unfold World.cell?
        rw [hgb', Nat.zero_add]
        simpa using this
    · obtain rfl := List.mem_singleton.1 hk
      exact ⟨fun hz => by have := hi.zlt _ hz; omega, hgl, fun i hc => by have := hi.flt i _ hc; omega⟩
    · obtain rfl := List.mem_singleton.1 hk
      exact .inl hbase
end Go.Proofs.Yteieinhgdjjdoaa
namespace Go.Proofs.Yteieinhgdjjdoaa
open Go.RowKit
set_option linter.unusedVariables false
set_option maxRecDepth 8000
set_option linter.unusedSimpArgs false
def insS (n : Int) : List Int → List Int
  | [] => [n]
  | x :: l => if n = x then x :: l else if n < x then n :: x :: l else x :: insS n l
theorem putS_true (n : Int) : ∀ (l acc : List Int), l.foldl (putS n) (acc, true) = (acc ++ l, true)
  | [], acc => by simp
  | x :: l, acc => by
    have : putS n (acc, true) x = (acc ++ [x], true) := by unfold putS; rw [if_neg (by simp)]
    rw [List.foldl_cons, this, putS_true n l]; simp
theorem putS_false (n : Int) : ∀ (l acc : List Int), (if (l.foldl (putS n) (acc, false)).2 = true then (l.foldl (putS n) (acc, false)).1 else (l.foldl (putS n) (acc, false)).1 ++ [n]) = acc ++ insS n l
  | [], acc => by simp [insS]
  | x :: l, acc => by
    rw [List.foldl_cons]
    unfold insS
    by_cases h1 : n = x
    · have : putS n (acc, false) x = (acc ++ [x], true) := by unfold putS; rw [if_pos ⟨rfl, by omega⟩, if_pos h1]
      rw [this, putS_true, if_pos rfl, if_pos h1]; simp
    · by_cases h2 : n < x
      · have : putS n (acc, false) x = (acc ++ [n] ++ [x], true) := by unfold putS; rw [if_pos ⟨rfl, by omega⟩, if_neg h1]
        rw [this, putS_true, if_pos rfl, if_neg h1, if_pos h2]; simp
      · have : putS n (acc, false) x = (acc ++ [x], false) := by unfold putS; rw [if_neg (by simp; omega)]
        rw [this, putS_false n l, if_neg h1, if_neg h2]; simp
theorem putB_ins (l : List Int) (n : Int) : putB l n = insS n l := by
  have := putS_false n l []
  unfold putB
  rw [this]; rfl
theorem insS_mem {n m : Int} : ∀ {l : List Int}, m ∈ insS n l ↔ m = n ∨ m ∈ l
  | [] => by simp [insS]
  | x :: l => by
    unfold insS
    split
    · rename_i h; simp [h]
    · split
      · simp
      · simp only [List.mem_cons, insS_mem (l := l)]
        constructor
        · rintro (h | h | h)
          · exact .inr (.inl h)
          · exact .inl h
          · exact .inr (.inr h)
        · rintro (h | h | h)
          · exact .inr (.inl h)
          · exact .inl h
          · exact .inr (.inr h)
theorem insS_sorted {n : Int} : ∀ {l : List Int}, l.Pairwise (· < ·) → (insS n l).Pairwise (· < ·)
  | [], _ => by simp [insS]
  | x :: l, h => by
    obtain ⟨h1, h2⟩ := List.pairwise_cons.1 h
    unfold insS
    split
    · exact h
    · rename_i hne
      split
      · rename_i hlt
        refine List.pairwise_cons.2 ⟨fun y hy => ?_, h⟩
        rcases List.mem_cons.1 hy with rfl | hy
        · exact hlt
        · have := h1 y hy; omega
      · refine List.pairwise_cons.2 ⟨fun y hy => ?_, insS_sorted h2⟩
        rcases insS_mem.1 hy with rfl | hy
        · omega
        · exact h1 y hy
theorem insS_perm {n : Int} : ∀ {l : List Int}, l.Pairwise (· < ·) → (insS n l).Perm (if n ∈ l then l else n :: l)
  | [], _ => by simp [insS]
  | x :: l, h => by
    obtain ⟨h1, h2⟩ := List.pairwise_cons.1 h
    unfold insS
    by_cases e : n = x
    · rw [if_pos e, if_pos (by simp [e])]
    · rw [if_neg e]
      by_cases hl : n < x
      · rw [if_pos hl, if_neg]
        intro hm
        rcases List.mem_cons.1 hm with hm | hm
        · exact e hm
        · have := h1 n hm; omega
      · rw [if_neg hl]
        have ih := insS_perm (n := n) h2
        by_cases hm : n ∈ l
        · rw [if_pos hm] at ih
          rw [if_pos (List.mem_cons_of_mem _ hm)]
          exact ih.cons x
        · rw [if_neg hm] at ih
          rw [if_neg (fun h => by
            rcases List.mem_cons.1 h with h | h
            · exact e h
            · exact hm h)]
          exact (ih.cons x).trans (.swap n x l)
theorem setM_keys {α : Type} [DecidableEq α] (k : α) (v : Int) : ∀ kv : List (α × Int), (setM kv k v).map (·.1) = if k ∈ kv.map (·.1) then kv.map (·.1) else kv.map (·.1) ++ [k]
  | [] => by simp [setM]
  | e :: r => by
    have ih := setM_keys k v r
    unfold setM
    by_cases h : k = e.1
    · rw [if_pos h, if_pos (by simp [h])]; simp [h]
    · rw [if_neg h]
      simp only [List.map_cons, ih, List.mem_cons, h, false_or]
      split <;> simp
structure Rise (kv : List (Int × Int)) (out : List Int) : Prop where
  rise : out.Pairwise (· < ·)
  perm : out.Perm (kv.map (·.1))
theorem Rise.nodup {kv : List (Int × Int)} {out : List Int} (h : Rise kv out) : (kv.map (·.1)).Nodup := h.perm.nodup_iff.1 (h.rise.imp fun h => by omega)
theorem Rise.put {kv : List (Int × Int)} {out : List Int} (h : Rise kv out) (n v : Int) : Rise (setM kv n v) (putB out n) := by
  rw [putB_ins]
  refine ⟨insS_sorted h.rise, (insS_perm h.rise).trans ?_⟩
  rw [setM_keys]
  have hm : n ∈ out ↔ n ∈ kv.map (·.1) := h.perm.mem_iff
  by_cases hn : n ∈ out
  · rw [if_pos hn, if_pos (hm.1 hn)]; exact h.perm
  · rw [if_neg hn, if_neg (fun h' => hn (hm.2 h'))]
    exact (h.perm.cons n).trans (List.perm_append_singleton n _).symm
theorem setM_range {kv : List (Int × Int)} {n v a b : Int} (h : ∀ e ∈ kv, a ≤ e.1 ∧ e.1 ≤ b) (hn : a ≤ n ∧ n ≤ b) : ∀ e ∈ setM kv n v, a ≤ e.1 ∧ e.1 ≤ b := by
  intro e he
  have : e.1 ∈ (setM kv n v).map (·.1) := List.mem_map.2 ⟨e, he, rfl⟩
  rw [setM_keys] at this
  have key : e.1 = n ∨ e.1 ∈ kv.map (·.1) := by
    split at this
    · exact .inr this
    · rcases List.mem_append.1 this with h | h
      · exact .inr h
      · exact .inl (List.mem_singleton.1 h)
  rcases key with hk | hk
  · rw [hk]; exact hn
  · obtain ⟨e', he', e1⟩ := List.mem_map.1 hk
    rw [← e1]; exact h e' he'
theorem setM_len_le {α : Type} [DecidableEq α] (k : α) (v : Int) (kv : List (α × Int)) : (setM kv k v).length ≤ kv.length + 1 := by
  have := congrArg List.length (setM_keys k v kv)
  rw [List.length_map] at this
  rw [this]
  split <;> simp
theorem numS_range (p : Prg) (hp : SmallP p) (t a : Int) : -1 ≤ numS p t a ∧ numS p t a ≤ 3000 := by
  unfold numS
  split
  · rename_i h
    obtain ⟨h1, h2, h3, h4⟩ := h
    have := startB_le hp t.toNat
    have hl := hp.thr
    have hx : ((p.thr[t.toNat]?).getD []).length ≤ 300 := by
      cases e : p.thr[t.toNat]? with
      | none => simp
      | some l => exact hp.len l (List.mem_of_getElem? e)
    omega
  · omega
end Go.Proofs.Yteieinhgdjjdoaa
namespace Go.Proofs.Yteieinhgdjjdoaa
open Go.RowKit
set_option linter.unusedVariables false
set_option linter.unusedSimpArgs false
set_option maxRecDepth 8000
theorem Rise.sorted {kv : List (Int × Int)} {out : List Int} (h : Rise kv out) : sortedM kv = out := by
  unfold sortedM
  rw [mergeSort_of_perm_i h.perm.symm]
  exact List.mergeSort_of_pairwise (h.rise.imp fun h => by simp; omega)
abbrev croH (p : Prg) (a : List HV) (b : Bool) (kv : List (Int × Int)) : Heap :=
  [some ⟨25, 2, [[.sl (ints p.init), .sl (thrs p.thr)]]⟩, some ⟨22, 1, [a]⟩, some ⟨4, 1, [[.v (.bool b)]]⟩, some (mapI kv), some (mapBox 3), none, none, some ⟨64, 1, []⟩]
set_option maxHeartbeats 8000000 in
theorem crossCross (p : Prg) (l : List Pck) (hp : RightP p) (hl : l.length ≤ 10000) : HFn Try.prog 11 [prgH p, .sl (pcks l)]
    (.tu [owInts ((crossF p (beginS p) [] l).getD []), .v (.bool (crossF p (beginS p) [] l).isSome)]) := by
  refine HCalls.conv (Q := fun x _ => x = .tu [owInts ((crossF p (beginS p) [] l).getD []), .v (.bool (crossF p (beginS p) [] l).isSome)] ∨ (crossF p (beginS p) [] l = none ∧ x = .tu [.v (.slice none 0 0), .v (.bool false)])) ?_ ?_
  rotate_left
  · rintro x H' (rfl | ⟨h, rfl⟩)
    · exact ⟨_, rfl, .inl rfl⟩
    · rw [h]; exact ⟨_, rfl, .inr ⟨rfl, Conv.nilTuOw _ _ _⟩⟩
  have hsm := hp.small
  refine HCalls_bodyC (fn := Try.f11) 38 [.cell 4 22, .cell 5 4] (by kernel_rfl) rfl rfl (by kernel_rfl) (HW.run 400 (by kernel_rfl) ?_)
  simp (config := { decide := true }) only [go_sem, Int.reduceToNat, Nat.reduceAdd, Nat.reduceSub, Nat.reduceMul, Nat.reduceBEq, reduceIte, reduceCtorEq]
  refine callX_nm (crossAlong p l) rfl rfl ?_
  simp (config := { decide := true }) only [go_sem, Int.reduceToNat, Nat.reduceAdd, Nat.reduceSub, Nat.reduceMul, Nat.reduceBEq, reduceIte, reduceCtorEq]
  refine HW.ghost (Ghost.hole 64 1) ?_
  simp (config := { decide := true }) only [go_sem, Int.reduceToNat, Nat.reduceAdd, Nat.reduceSub, Nat.reduceMul, Nat.reduceBEq, reduceIte, reduceCtorEq]
  refine HW.rangeFunc rfl (by decide) rfl (alongX p (beginS p) l) (croH p [.v (.slice none 0 0)] false [])
    (fun j Hi => ∃ pre s out r kv, alongX p (beginS p) l = pre ++ alongX p s r ∧ pre.length = j ∧ j ≤ l.length ∧ crossF p (beginS p) [] l = crossF p s out r ∧ Rise kv out ∧ (∀ e ∈ kv, -1000000 ≤ e.1 ∧ e.1 ≤ 1000000) ∧ kv.length ≤ j ∧ (∀ n, 0 ≤ getM kv n ∧ getM kv n ≤ j) ∧ Hi = croH p [.v (.slice none 0 0)] false kv)
    (fun c Hi => c = .ret ∧ crossF p (beginS p) [] l = none ∧ ∃ kv, Hi = croH p [.v (.slice none 0 0)] false kv)
    ?_ ?_ (fun o => along1 p l hp hl _ 5 6 (by omega) rfl rfl) ⟨[], beginS p, [], l, [], rfl, rfl, by simp, rfl, ⟨by simp, by simp⟩, by simp, by simp, fun n => ⟨Int.le_refl _, Int.le_refl _⟩, rfl⟩ ?_ ?_ ?_
  · refine ⟨rfl, fun j o hj => ?_⟩
    rcases j with _ | _ | _ | _ | _ | _ | _ | _ | j <;> simp at hj ⊢ <;> exact hj
  · intro x hx
    rcases along_rows hx with ⟨k, t, rfl⟩ | rfl <;> exact ⟨rfl, rfl⟩
  · rintro j x Hi hx - ⟨pre, s, out, r, kv, hX, hpre, hjl, hR, hri, hrg, hkl, hkv, rfl⟩
    obtain ⟨k, r', rfl, hcase⟩ := alongX_at hX hpre hx
    have hlen := along_len (p := p) l (beginS p)
    have hj1 : j + 1 ≤ l.length := by
      have := (List.getElem?_eq_some_iff.1 hx).1
      omega
    have hkv1 : ∀ n, 0 ≤ getM kv n ∧ getM kv n ≤ ((j + 1 : Nat) : Int) := fun n => ⟨(hkv n).1, by have := (hkv n).2; omega⟩
    refine HW.run 60 (by kernel_rfl) ?_
    rcases hcase with ⟨hw, rfl, hX'⟩ | ⟨hw, rfl⟩
    · have hthr := (stepW_th hw).1
      have c0 : (k.th < 0) = False := by simp only [eq_iff_iff, iff_false]; omega
      rw [crossF, if_pos hw] at hR
      generalize (stepW p s k).1 = s' at hR hX'
      generalize thAt s k.th = y at hR hX' hx
      have hbuf : (0 < (y.buf.length : Int)) = (y.buf ≠ []) := by
        cases y.buf with
        | nil => simp
        | cons a b => simp only [List.length_cons, eq_iff_iff]; constructor <;> intro <;> first | simp | omega
      simp (config := { decide := true }) only [go_sem, Int.reduceToNat, Nat.reduceAdd, Nat.reduceSub, Nat.reduceMul, Nat.reduceBEq, reduceIte, reduceCtorEq, c0]
      refine HW.run 100 (by kernel_rfl) ?_
      simp (config := { decide := true }) only [go_sem, Int.reduceToNat, Nat.reduceAdd, Nat.reduceSub, Nat.reduceMul, Nat.reduceBEq, reduceIte, reduceCtorEq, c0]
      by_cases hb : y.buf = []
      · have hbuf' : ((0 : Int) < (y.buf.length : Int)) = False := by rw [hbuf]; simp [hb]
        rw [if_neg (fun h => h.2 hb)] at hR
        simp (config := { decide := true }) only [go_sem, Int.reduceToNat, Nat.reduceAdd, Nat.reduceSub, Nat.reduceMul, Nat.reduceBEq, reduceIte, reduceCtorEq, hbuf']
        refine ⟨_, _, Ghost.trunc [] 8 (by omega) rfl ?_, rfl, pre ++ [[doneH k y]], s', out, r', kv, hX', by simp [hpre], hj1, hR, hri, hrg, by omega, hkv1, ?_⟩
        · simp (config := { decide := true }) only [go_sem, Nat.reduceBEq, reduceIte]
        · rfl
      · have hbuf' : ((0 : Int) < (y.buf.length : Int)) = True := by rw [hbuf]; simp [hb]
        cases hdr : k.dr with
        | true =>
          rw [if_neg (by simp [hdr])] at hR
          simp (config := { decide := true }) only [go_sem, Int.reduceToNat, Nat.reduceAdd, Nat.reduceSub, Nat.reduceMul, Nat.reduceBEq, reduceIte, reduceCtorEq, hbuf', hdr]
          refine ⟨_, _, Ghost.trunc [] 8 (by omega) rfl ?_, rfl, pre ++ [[doneH k y]], s', out, r', kv, hX', by simp [hpre], hj1, hR, hri, hrg, by omega, hkv1, ?_⟩
          · simp (config := { decide := true }) only [go_sem, Nat.reduceBEq, reduceIte]
          · rfl
        | false =>
          rw [if_pos ⟨hdr, hb⟩] at hR
          simp (config := { decide := true }) only [go_sem, Int.reduceToNat, Nat.reduceAdd, Nat.reduceSub, Nat.reduceMul, Nat.reduceBEq, reduceIte, reduceCtorEq, hbuf', hdr]
          refine HW.tree 1 (.light 0 (.light 1 (.light 2 (.light 3 (.light 4 (.light 5 (.light 6 (.heavy 7 [0] (.heavy 8 [] (.light 9 (.heavy 10 [] .leaf .stop)) .stop) .stop)))))))) follows (by kernel_rfl) (by kernel_rfl) ?_
          simp (config := { decide := true }) only [go_sem, Int.reduceToNat, Nat.reduceAdd, Nat.reduceSub, Nat.reduceMul, Nat.reduceBEq, reduceIte, reduceCtorEq, hbuf', hdr]
          refine callX_nm (slotsNum p k.th y.pc hsm) rfl rfl ?_
          have hnr := numS_range p hsm k.th y.pc
          generalize numS p k.th y.pc = n at hR hnr
          have hkn := hkv n
          have hw2 : IntKind.i64.wrap (getM kv n + 1) = getM kv n + 1 := w64 (by omega) (by omega)
          simp (config := { decide := true }) only [go_sem, Int.reduceToNat, Nat.reduceAdd, Nat.reduceSub, Nat.reduceMul, Nat.reduceBEq, reduceIte, reduceCtorEq, hbuf', hdr, hw2]
          refine ⟨_, _, Ghost.trunc [] 8 (by omega) rfl ?_, rfl, pre ++ [[doneH k y]], s', putB out n, r', setM kv n (getM kv n + 1), hX', by simp [hpre], hj1, hR, hri.put n _, setM_range hrg (by omega), by have := setM_len_le n (getM kv n + 1) kv; omega, fun m => ?_, ?_⟩
          · simp (config := { decide := true }) only [go_sem, Nat.reduceBEq, reduceIte]
          · rw [getM_setM']
            have := hkv m
            split <;> omega
          · rfl
    · simp (config := { decide := true }) only [go_sem, Int.reduceToNat, Nat.reduceAdd, Nat.reduceSub, Nat.reduceMul, Nat.reduceBEq, reduceIte, reduceCtorEq]
      refine HW.run 100 (by kernel_rfl) ?_
      simp (config := { decide := true }) only [go_sem, Int.reduceToNat, Nat.reduceAdd, Nat.reduceSub, Nat.reduceMul, Nat.reduceBEq, reduceIte, reduceCtorEq]
      have hR' : crossF p (beginS p) [] l = none := by rw [hR, crossF, if_neg (by simp [hw])]
      refine ⟨_, _, Ghost.trunc [] 8 (by omega) rfl ?_, rfl, hR', kv, rfl⟩
      simp (config := { decide := true }) only [go_sem, Nat.reduceBEq, reduceIte]
  · rintro Hf - ⟨pre, s, out, r, kv, hX, hpre, hjl, hR, hri, hrg, hkl, hkv, rfl⟩
    obtain rfl := alongX_end hX hpre
    simp (config := { decide := true }) only [go_sem, Int.reduceToNat, Nat.reduceAdd, Nat.reduceSub, Nat.reduceMul, Nat.reduceBEq, reduceIte, reduceCtorEq]
    refine ⟨_, mapsKeys (kv := kv) (j := 7) rfl rfl, ?_⟩
    rintro r H' ⟨rfl, rfl⟩ -
    simp (config := { decide := true }) only [go_sem, Int.reduceToNat, Nat.reduceAdd, Nat.reduceSub, Nat.reduceMul, Nat.reduceBEq, reduceIte, reduceCtorEq]
    refine ⟨_, slicesSorted (id := 3) (j := 7) (kv := kv) rfl rfl hri.nodup hrg (by omega), ?_⟩
    rintro r H' ⟨rfl, rfl⟩ -
    rw [hri.sorted]
    simp (config := { decide := true }) only [go_sem, Int.reduceToNat, Nat.reduceAdd, Nat.reduceSub, Nat.reduceMul, Nat.reduceBEq, reduceIte, reduceCtorEq]
    rw [hR]
    exact .inl rfl
  · rintro c Hf - ⟨rfl, hn, kv, rfl⟩
    unfold XQ
    simp (config := { decide := true }) only [go_sem, Int.reduceToNat, Nat.reduceAdd, Nat.reduceSub, Nat.reduceMul, Nat.reduceBEq, reduceIte, reduceCtorEq]
    exact .inr hn
end Go.Proofs.Yteieinhgdjjdoaa
