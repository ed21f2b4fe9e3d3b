/- Parts of the proof: Sf, Pa, Sg, Sh, Si, Sj, Sk, Sl, Sm, Sn, So, Sp, Sq, Dc, HiMp, Cm, HiMq. -/
import Derived.Test.YteieinhgdjjdoaaZd08
import Derived.Test.YteieinhgdjjdoaaZd07
import Derived.Test.YteieinhgdjjdoaaZd05
set_option linter.unusedSectionVars false
set_option linter.unusedVariables false
set_option linter.unusedSimpArgs false
namespace Go.Proofs.Yteieinhgdjjdoaa
open Go.RowKit
set_option maxRecDepth 8000
theorem setTh_nat {s : Sta} {t : Nat} {mem : List Int} {y : Thd} : setTh s (t : Int) mem y = ⟨mem, s.ths.set t y⟩ := by unfold setTh; rw [Int.toNat_natCast]
set_option maxHeartbeats 8000000 in
theorem refStepW (p : Prg) (s : Sta) (k : Pck) (hp : RightP p) (hs : RightS p s) (hb : ∀ t ∈ s.ths, t.buf.length ≤ 100000) : HFn Try.prog 36 [prgH p, staH s, pckH k] (.tu [staH (stepW p s k).1, .v (.bool (stepW p s k).2)]) := by
  refine HFn_bodyF (fn := Try.f36) 5 180 [.cell 6 38, .tmp 7] (by kernel_rfl) rfl rfl (by kernel_rfl) (HW.run 400 (by kernel_rfl) ?_)
  obtain ⟨th, dr⟩ := k
  have hml : s.mem.length ≤ 100000 := by have := hs.mem; have := hp.init; omega
  have htl : s.ths.length ≤ 1000 := by have := hs.ths; have := hp.thr; omega
  have hrl : ∀ t ∈ s.ths, t.regs.length ≤ 100000 ∧ t.buf.length ≤ 100000 := fun t ht => by
    obtain ⟨i, hi⟩ := List.getElem?_of_mem ht
    have hlt := (List.getElem?_eq_some_iff.1 hi).1
    have := (hs.t i _ t (List.getElem?_eq_getElem (show i < p.thr.length by rw [← hs.ths]; exact hlt)) hi).regs
    exact ⟨by omega, hb t ht⟩
  simp (config := { decide := true }) only [go_sem, Int.reduceToNat, Nat.reduceAdd, Nat.reduceSub, Nat.reduceMul, Nat.reduceBEq, reduceIte, reduceCtorEq]
  refine callX_fn 3 (refOwn s hml htl hrl) (by simp only [go_sem]) (by simp only [go_sem]) ?_
  by_cases c1 : 0 ≤ th
  case neg =>
    have c1' : (th < 0) = True := by simp only [eq_iff_iff, iff_true]; omega
    have e : stepW p s ⟨th, dr⟩ = (s, false) := if_pos (fun h => c1 h.1)
    rw [e]
    simp (config := { decide := true }) only [go_sem, Int.reduceToNat, Nat.reduceAdd, Nat.reduceSub, Nat.reduceMul, Nat.reduceBEq, reduceIte, reduceCtorEq, c1']
  have c1' : (th < 0) = False := by simp only [eq_iff_iff, iff_false]; omega
  by_cases c2 : th < s.ths.length
  case neg =>
    have c2' : ((s.ths.length : Int) ≤ th) = True := by simp only [eq_iff_iff, iff_true]; omega
    have e : stepW p s ⟨th, dr⟩ = (s, false) := if_pos (fun h => c2 h.2)
    rw [e]
    simp (config := { decide := true }) only [go_sem, Int.reduceToNat, Nat.reduceAdd, Nat.reduceSub, Nat.reduceMul, Nat.reduceBEq, reduceIte, reduceCtorEq, c1', c2']
  have c2' : ((s.ths.length : Int) ≤ th) = False := by simp only [eq_iff_iff, iff_false]; omega
  obtain ⟨t, rfl⟩ : ∃ t : Nat, th = t := ⟨th.toNat, by omega⟩
  have ht : t < s.ths.length := by omega
  have hx : s.ths[t]? = some s.ths[t] := List.getElem?_eq_getElem ht
  have htA : thAt s (t : Int) = s.ths[t] := by unfold thAt; rw [Int.toNat_natCast, hx]; rfl
  have hc2 : ((t : Int) < (s.ths.length : Int)) = True := by rw [int_lt]; simp [ht]
  have hyp : s.ths[t] ∈ s.ths := List.getElem_mem ht
  obtain ⟨hyr, hyb⟩ := hrl _ hyp
  have hst : ∀ X, ((thdsO s.ths).set t X)[t]? = some X := set_get (by rw [thdsO_length]; exact ht)
  have hlv : (s.ths.length == s.ths.length && s.ths.length != 0) = true := by
    rw [Bool.and_eq_true]
    exact ⟨beq_self_eq_true _, by simp only [bne_iff_ne]; omega⟩
  cases dr with
  | true =>
    have e : stepW p s ⟨t, true⟩ = if (drainB (s.ths[t]).buf s.mem).2.2 = true then (setTh s t (drainB (s.ths[t]).buf s.mem).2.1 { s.ths[t] with buf := (drainB (s.ths[t]).buf s.mem).1 }, true) else (s, false) := by
      unfold stepW
      rw [if_neg (fun h => h ⟨c1, c2⟩), if_pos rfl, htA]
    rw [e]
    generalize s.ths[t] = y at hx hyb
    simp (config := { decide := true }) only [go_sem, Int.reduceToNat, Nat.reduceAdd, Nat.reduceSub, Nat.reduceMul, Nat.reduceBEq, reduceIte, reduceCtorEq, c1', c2']
    refine HW.quiet 80 follows (by kernel_rfl) ?_
    simp (config := { decide := true }) only [go_sem, Int.reduceToNat, Nat.reduceAdd, Nat.reduceSub, Nat.reduceMul, Nat.reduceBEq, reduceIte, reduceCtorEq, hx, hc2]
    refine callQ_nm (refDrain y.buf s.mem (by omega) (by omega)) rfl rfl ?_
    cases hd : (drainB y.buf s.mem).2.2 with
    | false =>
      rw [if_neg (by simp)]
      simp (config := { decide := true }) only [go_sem, Int.reduceToNat, Nat.reduceAdd, Nat.reduceSub, Nat.reduceMul, Nat.reduceBEq, reduceIte, reduceCtorEq, hx, hc2, hd]
    | true =>
      rw [if_pos rfl, setTh_nat]
      simp (config := { decide := true }) only [go_sem, Int.reduceToNat, Nat.reduceAdd, Nat.reduceSub, Nat.reduceMul, Nat.reduceBEq, reduceIte, reduceCtorEq, hx, hc2, hd, List.map_set, hst, hlv]
  | false =>
    simp (config := { decide := true }) only [go_sem, Int.reduceToNat, Nat.reduceAdd, Nat.reduceSub, Nat.reduceMul, Nat.reduceBEq, reduceIte, reduceCtorEq, c1', c2']
    refine callX_fn 3 (refAt p s t hp hs) (by simp only [go_sem]) rfl ?_
    cases ha : atS p s (t : Int) with
    | none =>
      have e : stepW p s ⟨t, false⟩ = (s, false) := by
        unfold stepW
        rw [if_neg (fun h => h ⟨c1, c2⟩), if_neg (by simp)]
        simp only [ha]
      rw [e]
      simp (config := { decide := true }) only [go_sem, Int.reduceToNat, Nat.reduceAdd, Nat.reduceSub, Nat.reduceMul, Nat.reduceBEq, reduceIte, reduceCtorEq, c1', c2', hx, hc2]
    | some x =>
      obtain ⟨_, _, c3⟩ := atS_some ha
      rw [htA] at c3
      have hpt : p.thr[t]? = some (p.thr[t]'(by have := hs.ths; omega)) := List.getElem?_eq_getElem (by have := hs.ths; omega)
      obtain ⟨q1, q2, q3⟩ := hs.t t _ _ hpt hx
      rw [Int.toNat_natCast, hpt, Option.getD_some] at c3
      have hR := hp.x t _ hpt _ _ c3
      have hS := refStepS p s t hp hs hb
      rw [atS_step ha, htA] at hS
      simp only [setTh_nat] at hS
      have hW : stepW p s ⟨t, false⟩ = if (s.ths[t]).buf ≠ [] ∧ (x.op = 6 ∨ x.op = 5) then (s, false)
        else if x.op = 2 then (setTh s t s.mem { (thStep x s.mem s.ths[t]).2 with regs := setI (s.ths[t]).regs x.reg (viewB (s.ths[t]).buf s.mem x.loc).1 }, true)
        else if x.op = 3 then (setTh s t s.mem { (thStep x s.mem s.ths[t]).2 with buf := (s.ths[t]).buf ++ [(x.loc, getI (s.ths[t]).regs x.reg)] }, true)
        else if x.op = 4 then (setTh s t s.mem { (thStep x s.mem s.ths[t]).2 with buf := (s.ths[t]).buf ++ [(x.loc, x.n)] }, true)
        else (setTh s t (thStep x s.mem s.ths[t]).1 (thStep x s.mem s.ths[t]).2, true) := by
        unfold stepW
        rw [if_neg (fun h => h ⟨c1, c2⟩), if_neg (by simp)]
        simp only [ha, htA]
      rw [hW]
      generalize s.ths[t] = y at hx hyr hyb hS c3 q1 q2 q3
      simp only [setTh_nat]
      have r1 : (0 ≤ x.reg) = True := by simp only [eq_iff_iff, iff_true]; exact hR.reg.1
      have r2 : (x.reg < (y.regs.length : Int)) = True := by have := hR.reg.2.1; simp only [eq_iff_iff, iff_true]; omega
      have r3 : y.regs[x.reg.toNat]? = some (getI y.regs x.reg) := by
        have : x.reg.toNat < y.regs.length := by have := hR.reg; omega
        unfold getI; rw [List.getElem?_eq_getElem this]; rfl
      have hin := hp.init
      have hmm := hs.mem
      have hop : x.op = 1 ∨ x.op = 2 ∨ x.op = 3 ∨ x.op = 4 ∨ x.op = 5 ∨ x.op = 6 ∨ x.op = 7 ∨ x.op = 8 ∨ x.op = 9 ∨ x.op = 10 := by have := hR.op; omega
      have locs : hasL x.op = true → (0 ≤ x.loc) = True ∧ (x.loc < (s.mem.length : Int)) = True ∧ s.mem[x.loc.toNat]? = some (getI s.mem x.loc) := fun h => by
        obtain ⟨k1, k2⟩ := hR.loc.1 h
        refine ⟨by simp [k1], by simp only [eq_iff_iff, iff_true]; omega, ?_⟩
        have : x.loc.toNat < s.mem.length := by omega
        unfold getI; rw [List.getElem?_eq_getElem this]; rfl
      clear hR
      generalize hm' : (thStep x s.mem y).1 = m' at hS ⊢
      have hst2 : ∀ (z : Thd) X, ((thdsO (s.ths.set t z)).set t X)[t]? = some X := fun z => set_get (by rw [thdsO_length, List.length_set]; exact ht)
      have hx2 : ∀ z : Thd, (s.ths.set t z)[t]? = some z := fun z => by simp [ht]
      have hsr : ∀ a : Int, (y.regs.set x.reg.toNat a)[x.reg.toNat]? = some a := fun a => by
        have : x.reg.toNat < y.regs.length := (List.getElem?_eq_some_iff.1 r3).1
        simp [this]
      by_cases hbe : y.buf = []
      · have b0 : ((0 : Int) < (y.buf.length : Int)) = False := by rw [hbe]; simp
        rw [if_neg (fun h => h.1 hbe)]
        rcases hop with h | h | h | h | h | h | h | h | h | h
        · simp (config := { decide := true }) only [go_sem, Int.reduceToNat, Nat.reduceAdd, Nat.reduceSub, Nat.reduceMul, Nat.reduceBEq, reduceIte, reduceCtorEq, c1', c2', hx, hc2, b0, h, hlv, hst2, hx2, List.map_set, List.set_set, hsr, r1, r2, r3]
          refine callX_fn 3 (hS) (by simp only [go_sem]) (by simp only [go_sem]) ?_
          simp (config := { decide := true }) only [go_sem, Int.reduceToNat, Nat.reduceAdd, Nat.reduceSub, Nat.reduceMul, Nat.reduceBEq, reduceIte, reduceCtorEq, c1', c2', hx, hc2, b0, h, hlv, hst2, hx2, List.map_set, List.set_set, hsr, r1, r2, r3]
        · obtain ⟨m1, m2, m3⟩ := locs (by rw [h]; rfl)
          have hj : jumpsB x y.eq = false := by simp [jumpsB, h]
          obtain rfl : s.mem = m' := by rw [← hm']; simp [thStep, h, hj]
          have ez : (thStep x s.mem y).2 = { y with pc := y.pc + 1, regs := setI y.regs x.reg (getI s.mem x.loc) } := by simp [thStep, h, hj]
          rw [ez] at hS
          simp only [ez]
          simp (config := { decide := true }) only [go_sem, Int.reduceToNat, Nat.reduceAdd, Nat.reduceSub, Nat.reduceMul, Nat.reduceBEq, reduceIte, reduceCtorEq, c1', c2', hx, hc2, b0, h, hlv, hst2, hx2, List.map_set, List.set_set, hsr, r1, r2, r3, m1, m2, m3]
          refine callX_fn 3 (hS) (by simp only [go_sem]) (by simp only [go_sem]) ?_
          simp (config := { decide := true }) only [go_sem, Int.reduceToNat, Nat.reduceAdd, Nat.reduceSub, Nat.reduceMul, Nat.reduceBEq, reduceIte, reduceCtorEq, c1', c2', hx, hc2, b0, h, hlv, hst2, hx2, List.map_set, List.set_set, hsr, r1, r2, r3, m1, m2, m3]
          refine HW.quiet 80 follows (by kernel_rfl) ?_
          simp (config := { decide := true }) only [go_sem, Int.reduceToNat, Nat.reduceAdd, Nat.reduceSub, Nat.reduceMul, Nat.reduceBEq, reduceIte, reduceCtorEq, c1', c2', hx, hc2, b0, h, hlv, hst2, hx2, List.map_set, List.set_set, hsr, r1, r2, r3, m1, m2, m3, setI]
          refine callQ_fn 3 (refView y.buf s.mem x.loc (by omega)) (by simp only [go_sem]) rfl rfl ?_
          simp (config := { decide := true }) only [go_sem, Int.reduceToNat, Nat.reduceAdd, Nat.reduceSub, Nat.reduceMul, Nat.reduceBEq, reduceIte, reduceCtorEq, c1', c2', hx, hc2, b0, h, hlv, hst2, hx2, List.map_set, List.set_set, hsr, r1, r2, r3, m1, m2, m3, setI]
          refine HW.ghost (Ghost.open 9 t 1) ?_
          simp (config := { decide := true }) only [go_sem, Int.reduceToNat, Nat.reduceAdd, Nat.reduceSub, Nat.reduceMul, Nat.reduceBEq, reduceIte, reduceCtorEq, c1', c2', hx, hc2, b0, h, hlv, hst2, hx2, List.map_set, List.set_set, hsr, r1, r2, r3, m1, m2, m3, setI]
          refine HW.mixed 80 10 (12, 0) [] follows (by kernel_rfl) (by decide) ?_
          simp (config := { decide := true }) only [go_sem, Int.reduceToNat, Nat.reduceAdd, Nat.reduceSub, Nat.reduceMul, Nat.reduceBEq, reduceIte, reduceCtorEq, c1', c2', hx, hc2, b0, h, hlv, hst2, hx2, List.map_set, List.set_set, hsr, r1, r2, r3, m1, m2, m3, setI]
        · obtain ⟨m1, m2, m3⟩ := locs (by rw [h]; rfl)
          have hj : jumpsB x y.eq = false := by simp [jumpsB, h]
          have ez : (thStep x s.mem y).2 = { y with pc := y.pc + 1 } := by simp [thStep, h, hj]
          rw [ez] at hS
          simp only [ez]
          simp (config := { decide := true }) only [go_sem, Int.reduceToNat, Nat.reduceAdd, Nat.reduceSub, Nat.reduceMul, Nat.reduceBEq, reduceIte, reduceCtorEq, c1', c2', hx, hc2, b0, h, hlv, hst2, hx2, List.map_set, List.set_set, hsr, r1, r2, r3, m1, m2, m3]
          refine callX_fn 3 (hS) (by simp only [go_sem]) (by simp only [go_sem]) ?_
          simp (config := { decide := true }) only [go_sem, Int.reduceToNat, Nat.reduceAdd, Nat.reduceSub, Nat.reduceMul, Nat.reduceBEq, reduceIte, reduceCtorEq, c1', c2', hx, hc2, b0, h, hlv, hst2, hx2, List.map_set, List.set_set, hsr, r1, r2, r3, m1, m2, m3]
          refine HW.mixed 100 25 (11, 0) [] follows (by kernel_rfl) (by decide) ?_
          simp (config := { decide := true }) only [go_sem, Int.reduceToNat, Nat.reduceAdd, Nat.reduceSub, Nat.reduceMul, Nat.reduceBEq, reduceIte, reduceCtorEq, c1', c2', hx, hc2, b0, h, hlv, hst2, hx2, List.map_set, List.set_set, hsr, r1, r2, r3, m1, m2, m3]
          refine callN_nm (refPush y.buf x.loc (getI y.regs x.reg) (by omega)) rfl rfl ?_
          simp (config := { decide := true }) only [go_sem, Int.reduceToNat, Nat.reduceAdd, Nat.reduceSub, Nat.reduceMul, Nat.reduceBEq, reduceIte, reduceCtorEq, c1', c2', hx, hc2, b0, h, hlv, hst2, hx2, List.map_set, List.set_set, hsr, r1, r2, r3, m1, m2, m3]
        · obtain ⟨m1, m2, m3⟩ := locs (by rw [h]; rfl)
          have hj : jumpsB x y.eq = false := by simp [jumpsB, h]
          have ez : (thStep x s.mem y).2 = { y with pc := y.pc + 1 } := by simp [thStep, h, hj]
          rw [ez] at hS
          simp only [ez]
          simp (config := { decide := true }) only [go_sem, Int.reduceToNat, Nat.reduceAdd, Nat.reduceSub, Nat.reduceMul, Nat.reduceBEq, reduceIte, reduceCtorEq, c1', c2', hx, hc2, b0, h, hlv, hst2, hx2, List.map_set, List.set_set, hsr, r1, r2, r3, m1, m2, m3]
          refine callX_fn 3 (hS) (by simp only [go_sem]) (by simp only [go_sem]) ?_
          simp (config := { decide := true }) only [go_sem, Int.reduceToNat, Nat.reduceAdd, Nat.reduceSub, Nat.reduceMul, Nat.reduceBEq, reduceIte, reduceCtorEq, c1', c2', hx, hc2, b0, h, hlv, hst2, hx2, List.map_set, List.set_set, hsr, r1, r2, r3, m1, m2, m3]
          refine HW.mixed 100 17 (11, 0) [] follows (by kernel_rfl) (by decide) ?_
          simp (config := { decide := true }) only [go_sem, Int.reduceToNat, Nat.reduceAdd, Nat.reduceSub, Nat.reduceMul, Nat.reduceBEq, reduceIte, reduceCtorEq, c1', c2', hx, hc2, b0, h, hlv, hst2, hx2, List.map_set, List.set_set, hsr, r1, r2, r3, m1, m2, m3]
          refine callN_nm (refPush y.buf x.loc x.n (by omega)) rfl rfl ?_
          simp (config := { decide := true }) only [go_sem, Int.reduceToNat, Nat.reduceAdd, Nat.reduceSub, Nat.reduceMul, Nat.reduceBEq, reduceIte, reduceCtorEq, c1', c2', hx, hc2, b0, h, hlv, hst2, hx2, List.map_set, List.set_set, hsr, r1, r2, r3, m1, m2, m3]
        · simp (config := { decide := true }) only [go_sem, Int.reduceToNat, Nat.reduceAdd, Nat.reduceSub, Nat.reduceMul, Nat.reduceBEq, reduceIte, reduceCtorEq, c1', c2', hx, hc2, b0, h, hlv, hst2, hx2, List.map_set, List.set_set, hsr, r1, r2, r3]
          refine callX_fn 3 (hS) (by simp only [go_sem]) (by simp only [go_sem]) ?_
          simp (config := { decide := true }) only [go_sem, Int.reduceToNat, Nat.reduceAdd, Nat.reduceSub, Nat.reduceMul, Nat.reduceBEq, reduceIte, reduceCtorEq, c1', c2', hx, hc2, b0, h, hlv, hst2, hx2, List.map_set, List.set_set, hsr, r1, r2, r3]
        · simp (config := { decide := true }) only [go_sem, Int.reduceToNat, Nat.reduceAdd, Nat.reduceSub, Nat.reduceMul, Nat.reduceBEq, reduceIte, reduceCtorEq, c1', c2', hx, hc2, b0, h, hlv, hst2, hx2, List.map_set, List.set_set, hsr, r1, r2, r3]
          refine callX_fn 3 (hS) (by simp only [go_sem]) (by simp only [go_sem]) ?_
          simp (config := { decide := true }) only [go_sem, Int.reduceToNat, Nat.reduceAdd, Nat.reduceSub, Nat.reduceMul, Nat.reduceBEq, reduceIte, reduceCtorEq, c1', c2', hx, hc2, b0, h, hlv, hst2, hx2, List.map_set, List.set_set, hsr, r1, r2, r3]
        · simp (config := { decide := true }) only [go_sem, Int.reduceToNat, Nat.reduceAdd, Nat.reduceSub, Nat.reduceMul, Nat.reduceBEq, reduceIte, reduceCtorEq, c1', c2', hx, hc2, b0, h, hlv, hst2, hx2, List.map_set, List.set_set, hsr, r1, r2, r3]
          refine callX_fn 3 (hS) (by simp only [go_sem]) (by simp only [go_sem]) ?_
          simp (config := { decide := true }) only [go_sem, Int.reduceToNat, Nat.reduceAdd, Nat.reduceSub, Nat.reduceMul, Nat.reduceBEq, reduceIte, reduceCtorEq, c1', c2', hx, hc2, b0, h, hlv, hst2, hx2, List.map_set, List.set_set, hsr, r1, r2, r3]
        · simp (config := { decide := true }) only [go_sem, Int.reduceToNat, Nat.reduceAdd, Nat.reduceSub, Nat.reduceMul, Nat.reduceBEq, reduceIte, reduceCtorEq, c1', c2', hx, hc2, b0, h, hlv, hst2, hx2, List.map_set, List.set_set, hsr, r1, r2, r3]
          refine callX_fn 3 (hS) (by simp only [go_sem]) (by simp only [go_sem]) ?_
          simp (config := { decide := true }) only [go_sem, Int.reduceToNat, Nat.reduceAdd, Nat.reduceSub, Nat.reduceMul, Nat.reduceBEq, reduceIte, reduceCtorEq, c1', c2', hx, hc2, b0, h, hlv, hst2, hx2, List.map_set, List.set_set, hsr, r1, r2, r3]
        · simp (config := { decide := true }) only [go_sem, Int.reduceToNat, Nat.reduceAdd, Nat.reduceSub, Nat.reduceMul, Nat.reduceBEq, reduceIte, reduceCtorEq, c1', c2', hx, hc2, b0, h, hlv, hst2, hx2, List.map_set, List.set_set, hsr, r1, r2, r3]
          refine callX_fn 3 (hS) (by simp only [go_sem]) (by simp only [go_sem]) ?_
          simp (config := { decide := true }) only [go_sem, Int.reduceToNat, Nat.reduceAdd, Nat.reduceSub, Nat.reduceMul, Nat.reduceBEq, reduceIte, reduceCtorEq, c1', c2', hx, hc2, b0, h, hlv, hst2, hx2, List.map_set, List.set_set, hsr, r1, r2, r3]
        · simp (config := { decide := true }) only [go_sem, Int.reduceToNat, Nat.reduceAdd, Nat.reduceSub, Nat.reduceMul, Nat.reduceBEq, reduceIte, reduceCtorEq, c1', c2', hx, hc2, b0, h, hlv, hst2, hx2, List.map_set, List.set_set, hsr, r1, r2, r3]
          refine callX_fn 3 (hS) (by simp only [go_sem]) (by simp only [go_sem]) ?_
          simp (config := { decide := true }) only [go_sem, Int.reduceToNat, Nat.reduceAdd, Nat.reduceSub, Nat.reduceMul, Nat.reduceBEq, reduceIte, reduceCtorEq, c1', c2', hx, hc2, b0, h, hlv, hst2, hx2, List.map_set, List.set_set, hsr, r1, r2, r3]
      · have b0 : ((0 : Int) < (y.buf.length : Int)) = True := by
          have := List.length_pos_iff.mpr hbe
          simp only [eq_iff_iff, iff_true]; omega
        rcases hop with h | h | h | h | h | h | h | h | h | h
        · rw [if_neg (fun h' => by have := h'.2; omega)]
          simp (config := { decide := true }) only [go_sem, Int.reduceToNat, Nat.reduceAdd, Nat.reduceSub, Nat.reduceMul, Nat.reduceBEq, reduceIte, reduceCtorEq, c1', c2', hx, hc2, b0, h, hlv, hst2, hx2, List.map_set, List.set_set, hsr, r1, r2, r3]
          refine callX_fn 3 (hS) (by simp only [go_sem]) (by simp only [go_sem]) ?_
          simp (config := { decide := true }) only [go_sem, Int.reduceToNat, Nat.reduceAdd, Nat.reduceSub, Nat.reduceMul, Nat.reduceBEq, reduceIte, reduceCtorEq, c1', c2', hx, hc2, b0, h, hlv, hst2, hx2, List.map_set, List.set_set, hsr, r1, r2, r3]
        · rw [if_neg (fun h' => by have := h'.2; omega)]
          obtain ⟨m1, m2, m3⟩ := locs (by rw [h]; rfl)
          have hj : jumpsB x y.eq = false := by simp [jumpsB, h]
          obtain rfl : s.mem = m' := by rw [← hm']; simp [thStep, h, hj]
          have ez : (thStep x s.mem y).2 = { y with pc := y.pc + 1, regs := setI y.regs x.reg (getI s.mem x.loc) } := by simp [thStep, h, hj]
          rw [ez] at hS
          simp only [ez]
          simp (config := { decide := true }) only [go_sem, Int.reduceToNat, Nat.reduceAdd, Nat.reduceSub, Nat.reduceMul, Nat.reduceBEq, reduceIte, reduceCtorEq, c1', c2', hx, hc2, b0, h, hlv, hst2, hx2, List.map_set, List.set_set, hsr, r1, r2, r3, m1, m2, m3]
          refine callX_fn 3 (hS) (by simp only [go_sem]) (by simp only [go_sem]) ?_
          simp (config := { decide := true }) only [go_sem, Int.reduceToNat, Nat.reduceAdd, Nat.reduceSub, Nat.reduceMul, Nat.reduceBEq, reduceIte, reduceCtorEq, c1', c2', hx, hc2, b0, h, hlv, hst2, hx2, List.map_set, List.set_set, hsr, r1, r2, r3, m1, m2, m3]
          refine HW.quiet 80 follows (by kernel_rfl) ?_
          simp (config := { decide := true }) only [go_sem, Int.reduceToNat, Nat.reduceAdd, Nat.reduceSub, Nat.reduceMul, Nat.reduceBEq, reduceIte, reduceCtorEq, c1', c2', hx, hc2, b0, h, hlv, hst2, hx2, List.map_set, List.set_set, hsr, r1, r2, r3, m1, m2, m3, setI]
          refine callQ_fn 3 (refView y.buf s.mem x.loc (by omega)) (by simp only [go_sem]) rfl rfl ?_
          simp (config := { decide := true }) only [go_sem, Int.reduceToNat, Nat.reduceAdd, Nat.reduceSub, Nat.reduceMul, Nat.reduceBEq, reduceIte, reduceCtorEq, c1', c2', hx, hc2, b0, h, hlv, hst2, hx2, List.map_set, List.set_set, hsr, r1, r2, r3, m1, m2, m3, setI]
          refine HW.ghost (Ghost.open 9 t 1) ?_
          simp (config := { decide := true }) only [go_sem, Int.reduceToNat, Nat.reduceAdd, Nat.reduceSub, Nat.reduceMul, Nat.reduceBEq, reduceIte, reduceCtorEq, c1', c2', hx, hc2, b0, h, hlv, hst2, hx2, List.map_set, List.set_set, hsr, r1, r2, r3, m1, m2, m3, setI]
          refine HW.mixed 80 10 (12, 0) [] follows (by kernel_rfl) (by decide) ?_
          simp (config := { decide := true }) only [go_sem, Int.reduceToNat, Nat.reduceAdd, Nat.reduceSub, Nat.reduceMul, Nat.reduceBEq, reduceIte, reduceCtorEq, c1', c2', hx, hc2, b0, h, hlv, hst2, hx2, List.map_set, List.set_set, hsr, r1, r2, r3, m1, m2, m3, setI]
        · rw [if_neg (fun h' => by have := h'.2; omega)]
          obtain ⟨m1, m2, m3⟩ := locs (by rw [h]; rfl)
          have hj : jumpsB x y.eq = false := by simp [jumpsB, h]
          have ez : (thStep x s.mem y).2 = { y with pc := y.pc + 1 } := by simp [thStep, h, hj]
          rw [ez] at hS
          simp only [ez]
          simp (config := { decide := true }) only [go_sem, Int.reduceToNat, Nat.reduceAdd, Nat.reduceSub, Nat.reduceMul, Nat.reduceBEq, reduceIte, reduceCtorEq, c1', c2', hx, hc2, b0, h, hlv, hst2, hx2, List.map_set, List.set_set, hsr, r1, r2, r3, m1, m2, m3]
          refine callX_fn 3 (hS) (by simp only [go_sem]) (by simp only [go_sem]) ?_
          simp (config := { decide := true }) only [go_sem, Int.reduceToNat, Nat.reduceAdd, Nat.reduceSub, Nat.reduceMul, Nat.reduceBEq, reduceIte, reduceCtorEq, c1', c2', hx, hc2, b0, h, hlv, hst2, hx2, List.map_set, List.set_set, hsr, r1, r2, r3, m1, m2, m3]
          refine HW.mixed 100 25 (11, 0) [] follows (by kernel_rfl) (by decide) ?_
          simp (config := { decide := true }) only [go_sem, Int.reduceToNat, Nat.reduceAdd, Nat.reduceSub, Nat.reduceMul, Nat.reduceBEq, reduceIte, reduceCtorEq, c1', c2', hx, hc2, b0, h, hlv, hst2, hx2, List.map_set, List.set_set, hsr, r1, r2, r3, m1, m2, m3]
          refine callN_nm (refPush y.buf x.loc (getI y.regs x.reg) (by omega)) rfl rfl ?_
          simp (config := { decide := true }) only [go_sem, Int.reduceToNat, Nat.reduceAdd, Nat.reduceSub, Nat.reduceMul, Nat.reduceBEq, reduceIte, reduceCtorEq, c1', c2', hx, hc2, b0, h, hlv, hst2, hx2, List.map_set, List.set_set, hsr, r1, r2, r3, m1, m2, m3]
        · rw [if_neg (fun h' => by have := h'.2; omega)]
          obtain ⟨m1, m2, m3⟩ := locs (by rw [h]; rfl)
          have hj : jumpsB x y.eq = false := by simp [jumpsB, h]
          have ez : (thStep x s.mem y).2 = { y with pc := y.pc + 1 } := by simp [thStep, h, hj]
          rw [ez] at hS
          simp only [ez]
          simp (config := { decide := true }) only [go_sem, Int.reduceToNat, Nat.reduceAdd, Nat.reduceSub, Nat.reduceMul, Nat.reduceBEq, reduceIte, reduceCtorEq, c1', c2', hx, hc2, b0, h, hlv, hst2, hx2, List.map_set, List.set_set, hsr, r1, r2, r3, m1, m2, m3]
          refine callX_fn 3 (hS) (by simp only [go_sem]) (by simp only [go_sem]) ?_
          simp (config := { decide := true }) only [go_sem, Int.reduceToNat, Nat.reduceAdd, Nat.reduceSub, Nat.reduceMul, Nat.reduceBEq, reduceIte, reduceCtorEq, c1', c2', hx, hc2, b0, h, hlv, hst2, hx2, List.map_set, List.set_set, hsr, r1, r2, r3, m1, m2, m3]
          refine HW.mixed 100 17 (11, 0) [] follows (by kernel_rfl) (by decide) ?_
          simp (config := { decide := true }) only [go_sem, Int.reduceToNat, Nat.reduceAdd, Nat.reduceSub, Nat.reduceMul, Nat.reduceBEq, reduceIte, reduceCtorEq, c1', c2', hx, hc2, b0, h, hlv, hst2, hx2, List.map_set, List.set_set, hsr, r1, r2, r3, m1, m2, m3]
          refine callN_nm (refPush y.buf x.loc x.n (by omega)) rfl rfl ?_
          simp (config := { decide := true }) only [go_sem, Int.reduceToNat, Nat.reduceAdd, Nat.reduceSub, Nat.reduceMul, Nat.reduceBEq, reduceIte, reduceCtorEq, c1', c2', hx, hc2, b0, h, hlv, hst2, hx2, List.map_set, List.set_set, hsr, r1, r2, r3, m1, m2, m3]
        · rw [if_pos ⟨hbe, by omega⟩]
          simp (config := { decide := true }) only [go_sem, Int.reduceToNat, Nat.reduceAdd, Nat.reduceSub, Nat.reduceMul, Nat.reduceBEq, reduceIte, reduceCtorEq, c1', c2', hx, hc2, b0, h, hlv, hst2, hx2, List.map_set, List.set_set, hsr, r1, r2, r3]
        · rw [if_pos ⟨hbe, by omega⟩]
          simp (config := { decide := true }) only [go_sem, Int.reduceToNat, Nat.reduceAdd, Nat.reduceSub, Nat.reduceMul, Nat.reduceBEq, reduceIte, reduceCtorEq, c1', c2', hx, hc2, b0, h, hlv, hst2, hx2, List.map_set, List.set_set, hsr, r1, r2, r3]
        · rw [if_neg (fun h' => by have := h'.2; omega)]
          simp (config := { decide := true }) only [go_sem, Int.reduceToNat, Nat.reduceAdd, Nat.reduceSub, Nat.reduceMul, Nat.reduceBEq, reduceIte, reduceCtorEq, c1', c2', hx, hc2, b0, h, hlv, hst2, hx2, List.map_set, List.set_set, hsr, r1, r2, r3]
          refine callX_fn 3 (hS) (by simp only [go_sem]) (by simp only [go_sem]) ?_
          simp (config := { decide := true }) only [go_sem, Int.reduceToNat, Nat.reduceAdd, Nat.reduceSub, Nat.reduceMul, Nat.reduceBEq, reduceIte, reduceCtorEq, c1', c2', hx, hc2, b0, h, hlv, hst2, hx2, List.map_set, List.set_set, hsr, r1, r2, r3]
        · rw [if_neg (fun h' => by have := h'.2; omega)]
          simp (config := { decide := true }) only [go_sem, Int.reduceToNat, Nat.reduceAdd, Nat.reduceSub, Nat.reduceMul, Nat.reduceBEq, reduceIte, reduceCtorEq, c1', c2', hx, hc2, b0, h, hlv, hst2, hx2, List.map_set, List.set_set, hsr, r1, r2, r3]
          refine callX_fn 3 (hS) (by simp only [go_sem]) (by simp only [go_sem]) ?_
          simp (config := { decide := true }) only [go_sem, Int.reduceToNat, Nat.reduceAdd, Nat.reduceSub, Nat.reduceMul, Nat.reduceBEq, reduceIte, reduceCtorEq, c1', c2', hx, hc2, b0, h, hlv, hst2, hx2, List.map_set, List.set_set, hsr, r1, r2, r3]
        · rw [if_neg (fun h' => by have := h'.2; omega)]
          simp (config := { decide := true }) only [go_sem, Int.reduceToNat, Nat.reduceAdd, Nat.reduceSub, Nat.reduceMul, Nat.reduceBEq, reduceIte, reduceCtorEq, c1', c2', hx, hc2, b0, h, hlv, hst2, hx2, List.map_set, List.set_set, hsr, r1, r2, r3]
          refine callX_fn 3 (hS) (by simp only [go_sem]) (by simp only [go_sem]) ?_
          simp (config := { decide := true }) only [go_sem, Int.reduceToNat, Nat.reduceAdd, Nat.reduceSub, Nat.reduceMul, Nat.reduceBEq, reduceIte, reduceCtorEq, c1', c2', hx, hc2, b0, h, hlv, hst2, hx2, List.map_set, List.set_set, hsr, r1, r2, r3]
        · rw [if_neg (fun h' => by have := h'.2; omega)]
          simp (config := { decide := true }) only [go_sem, Int.reduceToNat, Nat.reduceAdd, Nat.reduceSub, Nat.reduceMul, Nat.reduceBEq, reduceIte, reduceCtorEq, c1', c2', hx, hc2, b0, h, hlv, hst2, hx2, List.map_set, List.set_set, hsr, r1, r2, r3]
          refine callX_fn 3 (hS) (by simp only [go_sem]) (by simp only [go_sem]) ?_
          simp (config := { decide := true }) only [go_sem, Int.reduceToNat, Nat.reduceAdd, Nat.reduceSub, Nat.reduceMul, Nat.reduceBEq, reduceIte, reduceCtorEq, c1', c2', hx, hc2, b0, h, hlv, hst2, hx2, List.map_set, List.set_set, hsr, r1, r2, r3]
end Go.Proofs.Yteieinhgdjjdoaa
namespace Go.Proofs.Yteieinhgdjjdoaa
set_option maxRecDepth 8000
theorem setI_length {l : List Int} {i x : Int} : (setI l i x).length = l.length := by simp [setI]
theorem thStep_mem {x : Stp} {mem : List Int} {t : Thd} : (thStep x mem t).1.length = mem.length := by
  unfold thStep
  dsimp only
  repeat' split
  all_goals simp [setI_length]
theorem thStep_regs {x : Stp} {mem : List Int} {t : Thd} : (thStep x mem t).2.regs.length = t.regs.length := by
  unfold thStep
  dsimp only
  repeat' split
  all_goals simp [setI_length]
theorem thStep_buf {x : Stp} {mem : List Int} {t : Thd} : (thStep x mem t).2.buf = t.buf := by
  unfold thStep
  dsimp only
  repeat' split
  all_goals rfl
theorem thStep_pc {x : Stp} {mem : List Int} {t : Thd} : (thStep x mem t).2.pc = if jumpsB x t.eq = true then x.to else t.pc + 1 := by
  unfold thStep
  dsimp only
  repeat' split
  all_goals first | rfl | simp_all
section
variable {p : Prg} {s : Sta}
theorem thAt_get {th : Int} (h : 0 ≤ th ∧ th < s.ths.length) : s.ths[th.toNat]? = some (thAt s th) := by
  unfold thAt
  rw [List.getElem?_eq_getElem (show th.toNat < s.ths.length by omega)]; rfl
theorem atS_spec {th : Int} {x : Stp} (hp : RightP p) (hs : RightS p s) (h : atS p s th = some x) :
    ∃ l, 0 ≤ th ∧ th < s.ths.length ∧ p.thr[th.toNat]? = some l ∧ s.ths[th.toNat]? = some (thAt s th) ∧ RightT p l (thAt s th) ∧ l[(thAt s th).pc.toNat]? = some x ∧ RightX p x (thAt s th).pc.toNat l.length ∧ (thAt s th).pc < l.length := by
  unfold atS at h
  split at h
  · rename_i hc
    have hlen := hs.ths
    have hl : p.thr[th.toNat]? = some (p.thr[th.toNat]'(by omega)) := List.getElem?_eq_getElem (by omega)
    rw [hl, Option.getD_some] at h
    have ht := thAt_get hc
    have hT := hs.t _ _ _ hl ht
    have hlt := (List.getElem?_eq_some_iff.1 h).1
    exact ⟨_, hc.1, hc.2, hl, ht, hT, h, hp.x _ _ hl _ _ h, by have := hT.pc; omega⟩
  · cases h
theorem pc_next {l : List Stp} {x : Stp} {t : Thd} (hX : RightX p x t.pc.toNat l.length) (hT : RightT p l t) (hlt : t.pc < l.length) : 0 ≤ (if jumpsB x t.eq = true then x.to else t.pc + 1) ∧ (if jumpsB x t.eq = true then x.to else t.pc + 1) ≤ l.length ∧ t.pc < (if jumpsB x t.eq = true then x.to else t.pc + 1) := by
  have h0 := hT.pc
  split
  · rename_i hj
    have h8 : 8 ≤ x.op := by
      simp only [jumpsB, Bool.or_eq_true, Bool.and_eq_true, decide_eq_true_eq] at hj
      omega
    have := hX.to.1 h8
    omega
  · omega
theorem setTh_right {th : Int} {mem : List Int} {t : Thd} (hs : RightS p s) (hm : mem.length = s.mem.length) (ht : ∀ l, p.thr[th.toNat]? = some l → RightT p l t) : RightS p (setTh s th mem t) := by
  refine ⟨by rw [← hs.mem, ← hm]; rfl, by rw [← hs.ths]; simp [setTh], fun i l t' hl ht' => ?_⟩
  simp only [setTh] at ht'
  by_cases e : th.toNat = i
  · subst e
    rw [List.getElem?_set] at ht'
    split at ht'
    · split at ht'
      · cases ht'; exact ht l hl
      · cases ht'
    · rename_i h; exact absurd rfl h
  · rw [List.getElem?_set_ne e] at ht'
    exact hs.t i l t' hl ht'
theorem stepS_right {th : Int} (hp : RightP p) (hs : RightS p s) : RightS p (stepS p s th).1 := by
  unfold stepS
  cases h : atS p s th with
  | none => exact hs
  | some x =>
    obtain ⟨l, c1, c2, hl, ht, hT, hx, hX, hlt⟩ := atS_spec hp hs h
    refine setTh_right hs thStep_mem fun l' hl' => ?_
    rw [hl] at hl'; cases hl'
    have := pc_next hX hT hlt
    exact ⟨by rw [thStep_pc]; omega, by rw [thStep_regs]; exact hT.regs, by rw [thStep_buf]; exact hT.buf⟩
theorem stepW_right {k : Pck} (hp : RightP p) (hs : RightS p s) : RightS p (stepW p s k).1 := by
  unfold stepW
  split
  · exact hs
  · rename_i hc
    have hc : 0 ≤ k.th ∧ k.th < s.ths.length := Decidable.not_not.1 hc
    have ht := thAt_get hc
    have hlen := hs.ths
    have hl : p.thr[k.th.toNat]? = some (p.thr[k.th.toNat]'(by omega)) := List.getElem?_eq_getElem (by omega)
    have hT := hs.t _ _ _ hl ht
    split
    · split
      · rename_i hd
        refine setTh_right hs ?_ fun l' hl' => ?_
        · unfold drainB
          split
          · rfl
          · split
            · exact setI_length
            · rfl
        · rw [hl] at hl'; cases hl'
          refine ⟨hT.pc, hT.regs, fun w hw => ?_⟩
          unfold drainB at hw
          split at hw
          · simp at hw
          · rename_i b v r e
            split at hw
            · exact hT.buf w (by rw [e]; exact List.mem_cons_of_mem _ hw)
            · exact hT.buf w (by rw [e]; rw [e] at hw; exact hw)
      · exact hs
    · cases h : atS p s k.th with
      | none => exact hs
      | some x =>
        obtain ⟨l, _, _, hl', _, _, hx, hX, hlt⟩ := atS_spec hp hs h
        rw [hl] at hl'; cases hl'
        have hpc := pc_next hX hT hlt
        have base : RightT p (p.thr[k.th.toNat]'(by omega)) (thStep x s.mem (thAt s k.th)).2 := ⟨by rw [thStep_pc]; omega, by rw [thStep_regs]; exact hT.regs, by rw [thStep_buf]; exact hT.buf⟩
        have hb : hasL x.op = true → 0 ≤ x.loc ∧ x.loc < (p.init.length : Int) := hX.loc.1
        dsimp only
        split
        · exact hs
        · split
          · refine setTh_right hs rfl fun l' hl' => ?_
            rw [hl] at hl'; cases hl'
            exact ⟨base.pc, by simp only [setI_length]; exact hT.regs, base.buf⟩
          · split
            · rename_i h3
              refine setTh_right hs rfl fun l' hl' => ?_
              rw [hl] at hl'; cases hl'
              refine ⟨base.pc, base.regs, fun w hw => ?_⟩
              rcases List.mem_append.1 hw with hw | hw
              · exact hT.buf w hw
              · obtain rfl := List.mem_singleton.1 hw
                exact hb (by rw [h3]; rfl)
            · split
              · rename_i h4
                refine setTh_right hs rfl fun l' hl' => ?_
                rw [hl] at hl'; cases hl'
                refine ⟨base.pc, base.regs, fun w hw => ?_⟩
                rcases List.mem_append.1 hw with hw | hw
                · exact hT.buf w hw
                · obtain rfl := List.mem_singleton.1 hw
                  exact hb (by rw [h4]; rfl)
              · refine setTh_right hs thStep_mem fun l' hl' => ?_
                rw [hl] at hl'; cases hl'
                exact base
def Few (s : Sta) (n : Nat) : Prop := ∀ t ∈ s.ths, t.buf.length ≤ n
theorem Few.set {th : Int} {mem : List Int} {t : Thd} {n m : Nat} (h : Few s n) (hnm : n ≤ m) (ht : t.buf.length ≤ m) : Few (setTh s th mem t) m := by
  intro t' ht'
  rcases List.mem_or_eq_of_mem_set ht' with h1 | rfl
  · have := h t' h1; omega
  · exact ht
theorem Few.at {n : Nat} (h : Few s n) (th : Int) : (thAt s th).buf.length ≤ n := by
  unfold thAt
  cases hx : s.ths[th.toNat]? with
  | none => simp [thd0]
  | some t => exact h t (List.mem_of_getElem? hx)
theorem Few.mono {n m : Nat} (h : Few s n) (hnm : n ≤ m) : Few s m := fun t ht => by have := h t ht; omega
theorem stepS_few {th : Int} {n : Nat} (h : Few s n) : Few (stepS p s th).1 n := by
  unfold stepS
  cases atS p s th with
  | none => exact h
  | some x => exact h.set (Nat.le_refl _) (by rw [thStep_buf]; exact h.at th)
theorem stepW_few {k : Pck} {n : Nat} (h : Few s n) : Few (stepW p s k).1 (n + 1) := by
  have h1 := h.mono (show n ≤ n + 1 by omega)
  have ha := h.at k.th
  unfold stepW
  split
  · exact h1
  · split
    · split
      · refine h.set (by omega) ?_
        show (drainB (thAt s k.th).buf s.mem).1.length ≤ n + 1
        unfold drainB
        split
        · simp
        · rename_i b v r e
          rw [e] at ha
          simp only [List.length_cons] at ha
          split
          · show r.length ≤ n + 1; omega
          · show (thAt s k.th).buf.length ≤ n + 1; rw [e]; simp only [List.length_cons]; omega
      · exact h1
    · cases atS p s k.th with
      | none => exact h1
      | some x =>
        dsimp only
        split
        · exact h1
        · split
          · exact h.set (by omega) (by show (thStep x s.mem (thAt s k.th)).2.buf.length ≤ _; rw [thStep_buf]; omega)
          · split
            · exact h.set (by omega) (by simp only [List.length_append, List.length_singleton]; omega)
            · split
              · exact h.set (by omega) (by simp only [List.length_append, List.length_singleton]; omega)
              · exact h.set (by omega) (by rw [thStep_buf]; omega)
end
end Go.Proofs.Yteieinhgdjjdoaa
namespace Go.Proofs.Yteieinhgdjjdoaa
open Go.RowKit
set_option maxRecDepth 8000
def meetB (a b : List Int) : Bool := a.any fun n => hasB b n
theorem refMeet (a b : List Int) (ha : a.length ≤ 1000000) (hb : b.length ≤ 1000000) : HFn Try.prog 22 [.sl (ints a), .sl (ints b)] (.v (.bool (meetB a b))) := by
  refine HCalls_body (fn := Try.f22) 18 [4] (by kernel_rfl) rfl (by kernel_rfl) (HW.run 400 (by kernel_rfl) ?_)
  simp (config := { decide := true }) only [go_sem, Int.reduceToNat, Nat.reduceAdd, Nat.reduceSub, Nat.reduceMul, Nat.reduceBEq, reduceIte, reduceCtorEq]
  refine HW.loopG (fun k T H => ∃ i : Nat, k = a.length - i ∧ i ≤ a.length ∧ (∀ j, j < i → ∀ x, a[j]? = some x → hasB b x = false) ∧ T 0 = .sl (ints a) ∧ T 1 = .sl (ints b) ∧ T 5 = .v (.int .i64 i) ∧ H = []) a.length ⟨_, _, Ghost.refl, 0, rfl, by omega, by simp, rfl, rfl, rfl, rfl⟩ ?_
  rintro k T H ⟨i, rfl, hi, hno, h0, h1, h5, rfl⟩
  refine HW.run 200 (by kernel_rfl) ?_
  by_cases hlt : i < a.length
  · have hlt' : ((i : Int) < (a.length : Int)) = True := by rw [int_lt]; simp [hlt]
    have hx : a[i]? = some a[i] := List.getElem?_eq_getElem hlt
    generalize a[i] = x at hx
    simp (config := { decide := true }) only [go_sem, Int.reduceToNat, Nat.reduceAdd, Nat.reduceSub, Nat.reduceMul, Nat.reduceBEq, reduceIte, reduceCtorEq, h0, h1, h5, hlt', hx]
    refine callX_fn 3 (refHasS b x hb) (by simp only [go_sem]) rfl ?_
    cases hh : hasB b x with
    | true =>
      simp (config := { decide := true }) only [go_sem, Int.reduceToNat, Nat.reduceAdd, Nat.reduceSub, Nat.reduceMul, Nat.reduceBEq, reduceIte, reduceCtorEq, h0, h1, h5]
      have : meetB a b = true := List.any_eq_true.2 ⟨x, List.mem_of_getElem? hx, hh⟩
      exact vb this.symm
    | false =>
      simp (config := { decide := true }) only [go_sem, Int.reduceToNat, Nat.reduceAdd, Nat.reduceSub, Nat.reduceMul, Nat.reduceBEq, reduceIte, reduceCtorEq, h0, h1, h5]
      refine ⟨_, _, Ghost.refl, a.length - (i + 1), by omega, i + 1, rfl, by omega, ?_, ?_, ?_, ?_, rfl⟩
      · intro j hj y hy
        rcases Nat.lt_or_ge j i with h | h
        · exact hno j h y hy
        · obtain rfl : j = i := by omega
          rw [hx] at hy; cases hy; exact hh
      all_goals first | (simp (config := { decide := true }) only [go_sem, Nat.reduceBEq, reduceIte, h0, h1]; done) | (simp (config := { decide := true }) only [go_sem, Nat.reduceBEq, reduceIte]; rw [w64 (by omega) (by omega)]; rfl)
  · have hlt' : ((i : Int) < (a.length : Int)) = False := by rw [int_lt]; simp [hlt]
    have : meetB a b = false := by
      unfold meetB
      rw [List.any_eq_false]
      intro x hx
      obtain ⟨j, hj⟩ := List.mem_iff_getElem?.1 hx
      rw [hno j (by have := (List.getElem?_eq_some_iff.1 hj).1; omega) x hj]; simp
    simp (config := { decide := true }) only [go_sem, Int.reduceToNat, Nat.reduceAdd, Nat.reduceSub, Nat.reduceMul, Nat.reduceBEq, reduceIte, reduceCtorEq, h0, h1, h5, hlt']
    exact vb this.symm
def stepB (p : Prg) (s : Sta) (k : Pck) (weak : Bool) : Sta × Bool := if weak = true then stepW p s k else if k.dr = true then (s, false) else stepS p s k.th
set_option maxHeartbeats 4000000 in
theorem refStep (p : Prg) (s : Sta) (k : Pck) (weak : Bool) (hp : RightP p) (hs : RightS p s) (hb : ∀ t ∈ s.ths, t.buf.length ≤ 100000) : HFn Try.prog 44 [prgH p, staH s, pckH k, .v (.bool weak)] (.tu [staH (stepB p s k weak).1, .v (.bool (stepB p s k weak).2)]) := by
  refine HFn_bodyF (fn := Try.f44) 3 37 [.cell 8 38, .tmp 9] (by kernel_rfl) rfl rfl (by kernel_rfl) (HW.run 400 (by kernel_rfl) ?_)
  unfold stepB
  cases weak with
  | true =>
    simp (config := { decide := true }) only [go_sem, Int.reduceToNat, Nat.reduceAdd, Nat.reduceSub, Nat.reduceMul, Nat.reduceBEq, reduceIte, reduceCtorEq]
    refine callX_nm (refStepW p s k hp hs hb) rfl rfl ?_
    simp (config := { decide := true }) only [go_sem, Int.reduceToNat, Nat.reduceAdd, Nat.reduceSub, Nat.reduceMul, Nat.reduceBEq, reduceIte, reduceCtorEq]
  | false =>
    obtain ⟨th, dr⟩ := k
    cases dr with
    | true => simp (config := { decide := true }) only [go_sem, Int.reduceToNat, Nat.reduceAdd, Nat.reduceSub, Nat.reduceMul, Nat.reduceBEq, reduceIte, reduceCtorEq]
    | false =>
      simp (config := { decide := true }) only [go_sem, Int.reduceToNat, Nat.reduceAdd, Nat.reduceSub, Nat.reduceMul, Nat.reduceBEq, reduceIte, reduceCtorEq]
      refine callX_fn 3 (refStepS p s th hp hs hb) (by simp only [go_sem]) (by simp only [go_sem]) ?_
      simp (config := { decide := true }) only [go_sem, Int.reduceToNat, Nat.reduceAdd, Nat.reduceSub, Nat.reduceMul, Nat.reduceBEq, reduceIte, reduceCtorEq]
end Go.Proofs.Yteieinhgdjjdoaa
namespace Go.Proofs.Yteieinhgdjjdoaa
open Go.RowKit
set_option maxRecDepth 8000
theorem stepB_right {p : Prg} {s : Sta} {k : Pck} {weak : Bool} (hp : RightP p) (hs : RightS p s) : RightS p (stepB p s k weak).1 := by
  unfold stepB
  split
  · exact stepW_right hp hs
  · split
    · exact hs
    · exact stepS_right hp hs
theorem stepB_few {p : Prg} {s : Sta} {k : Pck} {weak : Bool} {n : Nat} (h : Few s n) : Few (stepB p s k weak).1 (n + 1) := by
  unfold stepB
  split
  · exact stepW_few h
  · split
    · exact h.mono (by omega)
    · exact (stepS_few h).mono (by omega)
theorem begin_few {p : Prg} : Few (beginS p) 0 := by
  intro t ht
  simp only [beginS, List.mem_map] at ht
  obtain ⟨_, _, rfl⟩ := ht
  simp
def runF (f : Sta → Pck → Sta × Bool) : Sta → List Pck → Sta × Nat × Bool
  | s, [] => (s, 0, true)
  | s, k :: r => if (f s k).2 = true then ((runF f (f s k).1 r).1, (runF f (f s k).1 r).2.1 + 1, (runF f (f s k).1 r).2.2) else (s, 0, false)
set_option maxHeartbeats 4000000 in
theorem refRun (p : Prg) (l : List Pck) (weak : Bool) (hp : RightP p) (hl : l.length ≤ 100000) : HFn Try.prog 19 [prgH p, .sl (pcks l), .v (.bool weak)]
    (.tu [staH (runF (fun s k => stepB p s k weak) (beginS p) l).1, .v (.int .i64 ((runF (fun s k => stepB p s k weak) (beginS p) l).2.1 : Nat)), .v (.bool (runF (fun s k => stepB p s k weak) (beginS p) l).2.2)]) := by
  refine HFn_bodyF (fn := Try.f19) 3 40 [.cell 6 38, .tmp 7, .tmp 8] (by kernel_rfl) rfl rfl (by kernel_rfl) (HW.run 400 (by kernel_rfl) ?_)
  simp (config := { decide := true }) only [go_sem, Int.reduceToNat, Nat.reduceAdd, Nat.reduceSub, Nat.reduceMul, Nat.reduceBEq, reduceIte, reduceCtorEq]
  refine callX_nm (refBegin p (by have := hp.thr; omega) (by have := hp.init; omega)) rfl rfl ?_
  generalize hR : runF (fun s k => stepB p s k weak) (beginS p) l = R
  simp (config := { decide := true }) only [go_sem, Int.reduceToNat, Nat.reduceAdd, Nat.reduceSub, Nat.reduceMul, Nat.reduceBEq, reduceIte, reduceCtorEq]
  refine HW.loopG (fun k T H => ∃ (i : Nat) (s : Sta), k = l.length - i ∧ i ≤ l.length ∧ RightS p s ∧ Few s i ∧ R = ((runF (fun s k => stepB p s k weak) s (l.drop i)).1, i + (runF (fun s k => stepB p s k weak) s (l.drop i)).2.1, (runF (fun s k => stepB p s k weak) s (l.drop i)).2.2) ∧
    T 1 = .sl (pcks l) ∧ T 2 = .v (.bool weak) ∧ T 3 = .pt 0 1 0 0 ∧ T 6 = .pt 1 1 0 0 ∧ T 9 = .pt 2 1 0 0 ∧ T 10 = .v (.int .i64 i) ∧
    H = [some ⟨25, 2, [[.sl (ints p.init), .sl (thrs p.thr)]]⟩, some ⟨38, 2, [[.v (.slice none 0 0), .v (.slice none 0 0)]]⟩, some ⟨38, 2, [[.sl (ints s.mem), .sl (thds s.ths)]]⟩]) l.length
    ⟨_, _, Ghost.refl, 0, beginS p, rfl, by omega, begin_right, begin_few, ?_, rfl, rfl, rfl, rfl, rfl, rfl, ?_⟩ ?_
  · rw [List.drop_zero, hR]; simp
  · rfl
  rintro k T H ⟨i, s, rfl, hi, hs, hf, hRi, h1, h2, h3, h6, h9, h10, rfl⟩
  refine HW.run 200 (by kernel_rfl) ?_
  by_cases hlt : i < l.length
  · have hlt' : ((i : Int) < (l.length : Int)) = True := by rw [int_lt]; simp [hlt]
    have hx : l[i]? = some l[i] := List.getElem?_eq_getElem hlt
    have hdr : l.drop i = l[i] :: l.drop (i + 1) := List.drop_eq_getElem_cons hlt
    generalize l[i] = x at hx hdr
    rw [hdr] at hRi
    have hr' := stepB_right (k := x) (weak := weak) hp hs
    have hf' := stepB_few (p := p) (k := x) (weak := weak) hf
    have hst := refStep p s x weak hp hs (fun t ht => by have := hf t ht; omega)
    simp only [runF] at hRi
    simp (config := { decide := true }) only [go_sem, Int.reduceToNat, Nat.reduceAdd, Nat.reduceSub, Nat.reduceMul, Nat.reduceBEq, reduceIte, reduceCtorEq, h1, h2, h3, h6, h9, h10, hlt', hx]
    refine HW.mixed 80 14 (3, 0) [11, 12] follows (by kernel_rfl) (by decide) ?_
    simp (config := { decide := true }) only [go_sem, Int.reduceToNat, Nat.reduceAdd, Nat.reduceSub, Nat.reduceMul, Nat.reduceBEq, reduceIte, reduceCtorEq, h1, h2, h3, h6, h9, h10, hlt', hx]
    refine callN_nm (hst) rfl rfl ?_
    generalize stepB p s x weak = z at hRi hr' hf' ⊢
    obtain ⟨s', ok⟩ := z
    simp only at hRi hr' hf'
    cases ok with
    | true =>
      rw [if_pos rfl] at hRi
      simp (config := { decide := true }) only [go_sem, Int.reduceToNat, Nat.reduceAdd, Nat.reduceSub, Nat.reduceMul, Nat.reduceBEq, reduceIte, reduceCtorEq, h1, h2, h3, h6, h9, h10, hlt', hx]
      refine ⟨_, _, Ghost.trunc [1, 2, 3, 6, 9, 10] 3 (by omega) ?_ ?_, l.length - (i + 1), by omega, i + 1, s', rfl, by omega, hr', hf', ?_, ?_, ?_, ?_, ?_, ?_, ?_, ?_⟩
      · simp (config := { decide := true }) only [go_sem, Nat.reduceBEq, reduceIte, h1, h2, h3, h6, h9]
      · simp (config := { decide := true }) only [go_sem, Nat.reduceBEq, reduceIte]
      · rw [hRi]; simp only [Prod.mk.injEq, true_and, and_true]; omega
      iterate 5 simp (config := { decide := true }) only [go_sem, Nat.reduceBEq, reduceIte, h1, h2, h3, h6, h9]
      · simp (config := { decide := true }) only [go_sem, Nat.reduceBEq, reduceIte]; rw [w64 (by omega) (by omega)]; rfl
      · simp (config := { decide := true }) only [go_sem, Int.reduceToNat, Nat.reduceAdd, Nat.reduceSub, Nat.reduceMul, Nat.reduceBEq, reduceIte, reduceCtorEq]
    | false =>
      rw [if_neg (by simp)] at hRi
      subst hRi
      simp (config := { decide := true }) only [go_sem, Int.reduceToNat, Nat.reduceAdd, Nat.reduceSub, Nat.reduceMul, Nat.reduceBEq, reduceIte, reduceCtorEq, h1, h2, h3, h6, h9, h10, hlt', hx]
  · have hlt' : ((i : Int) < (l.length : Int)) = False := by rw [int_lt]; simp [hlt]
    have e : i = l.length := by omega
    subst e
    rw [List.drop_length] at hRi
    simp only [runF, Nat.add_zero] at hRi
    subst hRi
    simp (config := { decide := true }) only [go_sem, Int.reduceToNat, Nat.reduceAdd, Nat.reduceSub, Nat.reduceMul, Nat.reduceBEq, reduceIte, reduceCtorEq, h1, h2, h3, h6, h9, h10, hlt']
end Go.Proofs.Yteieinhgdjjdoaa
namespace Go.Proofs.Yteieinhgdjjdoaa
open Go.RowKit
set_option maxRecDepth 8000
def overT (p : Prg) (s : Sta) (t : Nat) : Bool :=
  match s.ths[t]?, p.thr[t]? with
  | some y, some l => decide (y.pc = l.length) && y.buf.isEmpty
  | _, _ => true
def overB (p : Prg) (s : Sta) : Bool := (List.range s.ths.length).all (overT p s)
set_option maxHeartbeats 4000000 in
theorem refOver (p : Prg) (s : Sta) (hp : RightP p) (hs : RightS p s) : HFn Try.prog 24 [prgH p, staH s] (.v (.bool (overB p s))) := by
  refine HCalls_body (fn := Try.f24) 36 [4] (by kernel_rfl) rfl (by kernel_rfl) (HW.run 400 (by kernel_rfl) ?_)
  simp (config := { decide := true }) only [go_sem, Int.reduceToNat, Nat.reduceAdd, Nat.reduceSub, Nat.reduceMul, Nat.reduceBEq, reduceIte, reduceCtorEq]
  have htl : s.ths.length ≤ 1000 := by have := hs.ths; have := hp.thr; omega
  have hlen := hs.ths
  refine HW.loopG (fun k T H => ∃ i : Nat, k = s.ths.length - i ∧ i ≤ s.ths.length ∧ (∀ j, j < i → overT p s j = true) ∧ T 2 = .pt 0 1 0 0 ∧ T 3 = .pt 1 1 0 0 ∧ T 5 = .v (.int .i64 i) ∧ H = [some ⟨25, 2, [[.sl (ints p.init), .sl (thrs p.thr)]]⟩, some ⟨38, 2, [[.sl (ints s.mem), .sl (thds s.ths)]]⟩]) s.ths.length ⟨_, _, Ghost.refl, 0, rfl, by omega, by simp, rfl, rfl, rfl, rfl⟩ ?_
  rintro k T H ⟨i, rfl, hi, hno, h2, h3, h5, rfl⟩
  refine HW.run 200 (by kernel_rfl) ?_
  by_cases hlt : i < s.ths.length
  · have hlt' : ((i : Int) < (s.ths.length : Int)) = True := by rw [int_lt]; simp [hlt]
    have hlt2 : ((i : Int) < (p.thr.length : Int)) = True := by rw [int_lt, ← hlen]; simp [hlt]
    have hx : s.ths[i]? = some s.ths[i] := List.getElem?_eq_getElem hlt
    have hy : p.thr[i]? = some (p.thr[i]'(by omega)) := List.getElem?_eq_getElem (by omega)
    generalize s.ths[i] = y at hx
    generalize p.thr[i]'(by omega) = l at hy
    have ho : overT p s i = (decide (y.pc = l.length) && y.buf.isEmpty) := by unfold overT; rw [hx, hy]
    simp (config := { decide := true }) only [go_sem, Int.reduceToNat, Nat.reduceAdd, Nat.reduceSub, Nat.reduceMul, Nat.reduceBEq, reduceIte, reduceCtorEq, h2, h3, h5, hlt', hx]
    refine HW.quiet 80 follows (by kernel_rfl) ?_
    by_cases c1 : y.pc = l.length
    · by_cases c2 : y.buf = []
      · have b0 : ((0 : Int) < (y.buf.length : Int)) = False := by rw [c2]; simp
        simp (config := { decide := true }) only [go_sem, Int.reduceToNat, Nat.reduceAdd, Nat.reduceSub, Nat.reduceMul, Nat.reduceBEq, reduceIte, reduceCtorEq, h2, h3, h5, hlt', hlt2, hx, hy, c1, b0]
        refine ⟨_, _, Ghost.refl, s.ths.length - (i + 1), by omega, i + 1, rfl, by omega, ?_, ?_, ?_, ?_, rfl⟩
        · intro j hj
          rcases Nat.lt_or_ge j i with h | h
          · exact hno j h
          · obtain rfl : j = i := by omega
            rw [ho, c2]; simp [c1]
        all_goals first | (simp (config := { decide := true }) only [go_sem, Nat.reduceBEq, reduceIte, h2, h3]; done) | (simp (config := { decide := true }) only [go_sem, Nat.reduceBEq, reduceIte]; rw [w64 (by omega) (by omega)]; rfl)
      · have b0 : ((0 : Int) < (y.buf.length : Int)) = True := by
          have := List.length_pos_iff.mpr c2
          simp only [eq_iff_iff, iff_true]; omega
        simp (config := { decide := true }) only [go_sem, Int.reduceToNat, Nat.reduceAdd, Nat.reduceSub, Nat.reduceMul, Nat.reduceBEq, reduceIte, reduceCtorEq, h2, h3, h5, hlt', hlt2, hx, hy, c1, b0]
        have : overB p s = false := by
          unfold overB
          rw [List.all_eq_false]
          exact ⟨i, by simpa using hlt, by rw [ho]; simp [c2]⟩
        exact vb this.symm
    · simp (config := { decide := true }) only [go_sem, Int.reduceToNat, Nat.reduceAdd, Nat.reduceSub, Nat.reduceMul, Nat.reduceBEq, reduceIte, reduceCtorEq, h2, h3, h5, hlt', hlt2, hx, hy, c1]
      have : overB p s = false := by
        unfold overB
        rw [List.all_eq_false]
        exact ⟨i, by simpa using hlt, by rw [ho]; simp [c1]⟩
      exact vb this.symm
  · have hlt' : ((i : Int) < (s.ths.length : Int)) = False := by rw [int_lt]; simp [hlt]
    have : overB p s = true := by
      unfold overB
      rw [List.all_eq_true]
      intro j hj
      exact hno j (by simp at hj; omega)
    simp (config := { decide := true }) only [go_sem, Int.reduceToNat, Nat.reduceAdd, Nat.reduceSub, Nat.reduceMul, Nat.reduceBEq, reduceIte, reduceCtorEq, h2, h3, h5, hlt']
    exact vb this.symm
end Go.Proofs.Yteieinhgdjjdoaa
namespace Go.Proofs.Yteieinhgdjjdoaa
open Go.RowKit
set_option maxRecDepth 8000
def sameT (x y : Thd) : Bool := decide (x.pc = y.pc) && (decide (x.eq = y.eq) && (decide (x.regs = y.regs) && decide (x.buf = y.buf)))
theorem refSameTh (x y : Thd) (hx : x.regs.length ≤ 1000000 ∧ x.buf.length ≤ 1000000) : HFn Try.prog 23 [.ag (throw x), .ag (throw y)] (.v (.bool (sameT x y))) := by
  refine HCalls_body (fn := Try.f23) 31 [4] (by kernel_rfl) rfl (by kernel_rfl) (HW.run 400 (by kernel_rfl) ?_)
  obtain ⟨a, r, e, b⟩ := x
  obtain ⟨a', r', e', b'⟩ := y
  by_cases c1 : a = a'
  · subst c1
    by_cases c2 : e = e'
    · subst c2
      simp (config := { decide := true }) only [go_sem, Int.reduceToNat, Nat.reduceAdd, Nat.reduceSub, Nat.reduceMul, Nat.reduceBEq, reduceIte, reduceCtorEq, throw]
      refine callX_fn 3 (refSameInts r r' hx.1) (by simp only [go_sem]) rfl ?_
      by_cases c3 : r = r'
      · subst c3
        simp (config := { decide := true }) only [go_sem, Int.reduceToNat, Nat.reduceAdd, Nat.reduceSub, Nat.reduceMul, Nat.reduceBEq, reduceIte, reduceCtorEq]
        refine callX_fn 3 (refSameWrts b b' hx.2) (by simp only [go_sem]) rfl ?_
        simp (config := { decide := true }) only [go_sem, Int.reduceToNat, Nat.reduceAdd, Nat.reduceSub, Nat.reduceMul, Nat.reduceBEq, reduceIte, reduceCtorEq]
        exact vb (by simp [sameT])
      · simp (config := { decide := true }) only [go_sem, Int.reduceToNat, Nat.reduceAdd, Nat.reduceSub, Nat.reduceMul, Nat.reduceBEq, reduceIte, reduceCtorEq, c3]
        exact vb (by simp [sameT, c3])
    · simp (config := { decide := true }) only [go_sem, Int.reduceToNat, Nat.reduceAdd, Nat.reduceSub, Nat.reduceMul, Nat.reduceBEq, reduceIte, reduceCtorEq, throw, c2]
      exact vb (by simp [sameT, c2])
  · simp (config := { decide := true }) only [go_sem, Int.reduceToNat, Nat.reduceAdd, Nat.reduceSub, Nat.reduceMul, Nat.reduceBEq, reduceIte, reduceCtorEq, throw, c1]
    exact vb (by simp [sameT, c1])
def putS (n : Int) (st : List Int × Bool) (x : Int) : List Int × Bool := if st.2 = false ∧ n ≤ x then ((if n = x then st.1 else st.1 ++ [n]) ++ [x], true) else (st.1 ++ [x], st.2)
def putB (l : List Int) (n : Int) : List Int := if (l.foldl (putS n) ([], false)).2 = true then (l.foldl (putS n) ([], false)).1 else (l.foldl (putS n) ([], false)).1 ++ [n]
end Go.Proofs.Yteieinhgdjjdoaa
namespace Go.Proofs.Yteieinhgdjjdoaa
open Go.RowKit
set_option maxRecDepth 8000
def ofT (thr : List (List Stp)) (n : Int) (t : Nat) : Bool := decide ((startB thr t : Int) ≤ n) && decide (n - (startB thr t : Int) < (((thr[t]?).getD []).length : Int))
def ofS (thr : List (List Stp)) (n : Int) : Int × Int × Bool :=
  match (List.range thr.length).find? (ofT thr n) with
  | some t => ((t : Int), n - (startB thr t : Int), true)
  | none => (0, 0, false)
set_option maxHeartbeats 4000000 in
theorem refOf (p : Prg) (n : Int) (hp : SmallP p) (hn : -1000000 ≤ n ∧ n ≤ 1000000) : HFn Try.prog 20 [prgH p, .v (.int .i64 n)] (.tu [.v (.int .i64 (ofS p.thr n).1), .v (.int .i64 (ofS p.thr n).2.1), .v (.bool (ofS p.thr n).2.2)]) := by
  refine HCalls_body (fn := Try.f20) 43 [4, 5, 6] (by kernel_rfl) rfl (by kernel_rfl) (HW.run 400 (by kernel_rfl) ?_)
  simp (config := { decide := true }) only [go_sem, Int.reduceToNat, Nat.reduceAdd, Nat.reduceSub, Nat.reduceMul, Nat.reduceBEq, reduceIte, reduceCtorEq]
  have hl := hp.thr
  refine HW.loopG (fun k T H => ∃ i : Nat, k = p.thr.length - i ∧ i ≤ p.thr.length ∧ (∀ j, j < i → ofT p.thr n j = false) ∧ T 1 = .v (.int .i64 n) ∧ T 2 = .pt 0 1 0 0 ∧ T 7 = .v (.int .i64 (startB p.thr i)) ∧ T 8 = .v (.int .i64 i) ∧ H = [some ⟨25, 2, [[.sl (ints p.init), .sl (thrs p.thr)]]⟩]) p.thr.length ⟨_, _, Ghost.refl, 0, rfl, by omega, by simp, rfl, rfl, rfl, rfl, rfl⟩ ?_
  rintro k T H ⟨i, rfl, hi, hno, h1, h2, h7, h8, rfl⟩
  refine HW.run 200 (by kernel_rfl) ?_
  have hsb := startB_le hp i
  by_cases hlt : i < p.thr.length
  · have hlt' : ((i : Int) < (p.thr.length : Int)) = True := by rw [int_lt]; simp [hlt]
    have hx : p.thr[i]? = some p.thr[i] := List.getElem?_eq_getElem hlt
    have hxl := hp.len _ (List.getElem_mem hlt)
    have hst : startB p.thr (i + 1) = startB p.thr i + (p.thr[i]).length := by show startB p.thr i + _ = _; rw [hx]; rfl
    have ho : ofT p.thr n i = (decide ((startB p.thr i : Int) ≤ n) && decide (n - (startB p.thr i : Int) < ((p.thr[i]).length : Int))) := by unfold ofT; rw [hx]; rfl
    generalize p.thr[i] = l at hx hxl hst ho
    have hw : IntKind.i64.wrap (n - (startB p.thr i : Int)) = n - (startB p.thr i : Int) := w64 (by omega) (by omega)
    have next : ofT p.thr n i = false → ∀ j, j < i + 1 → ofT p.thr n j = false := fun h j hj => by
      rcases Nat.lt_or_ge j i with h' | h'
      · exact hno j h'
      · obtain rfl : j = i := by omega
        exact h
    by_cases c1 : (startB p.thr i : Int) ≤ n
    · have c1' : ((startB p.thr i : Int) ≤ n) = True := by simp [c1]
      by_cases c2 : n - (startB p.thr i : Int) < (l.length : Int)
      · have c2' : (n - (startB p.thr i : Int) < (l.length : Int)) = True := by simp [c2]
        have hO : ofS p.thr n = ((i : Int), n - (startB p.thr i : Int), true) := by
          unfold ofS
          have : (List.range p.thr.length).find? (ofT p.thr n) = some i := by
            rw [List.find?_range_eq_some]
            exact ⟨by rw [ho]; simp [c1, c2], by simpa using hlt, fun j hj => by simpa using hno j hj⟩
          rw [this]
        rw [hO]
        simp (config := { decide := true }) only [go_sem, Int.reduceToNat, Nat.reduceAdd, Nat.reduceSub, Nat.reduceMul, Nat.reduceBEq, reduceIte, reduceCtorEq, h1, h2, h7, h8, hlt', hx, c1', c2', hw]
      · have c2' : (n - (startB p.thr i : Int) < (l.length : Int)) = False := by simp only [eq_iff_iff, iff_false]; exact c2
        simp (config := { decide := true }) only [go_sem, Int.reduceToNat, Nat.reduceAdd, Nat.reduceSub, Nat.reduceMul, Nat.reduceBEq, reduceIte, reduceCtorEq, h1, h2, h7, h8, hlt', hx, c1', c2', hw]
        refine ⟨_, _, Ghost.refl, p.thr.length - (i + 1), by omega, i + 1, rfl, by omega, next (by rw [ho]; simp [c2]), ?_, ?_, ?_, ?_, rfl⟩
        all_goals first | (simp (config := { decide := true }) only [go_sem, Nat.reduceBEq, reduceIte, h1, h2]; done) | (simp (config := { decide := true }) only [go_sem, Nat.reduceBEq, reduceIte, hst]; rw [w64 (by omega) (by omega)]; rfl)
    · have c1' : ((startB p.thr i : Int) ≤ n) = False := by simp only [eq_iff_iff, iff_false]; exact c1
      simp (config := { decide := true }) only [go_sem, Int.reduceToNat, Nat.reduceAdd, Nat.reduceSub, Nat.reduceMul, Nat.reduceBEq, reduceIte, reduceCtorEq, h1, h2, h7, h8, hlt', hx, c1', hw]
      refine ⟨_, _, Ghost.refl, p.thr.length - (i + 1), by omega, i + 1, rfl, by omega, next (by rw [ho]; simp [c1]), ?_, ?_, ?_, ?_, rfl⟩
      all_goals first | (simp (config := { decide := true }) only [go_sem, Nat.reduceBEq, reduceIte, h1, h2]; done) | (simp (config := { decide := true }) only [go_sem, Nat.reduceBEq, reduceIte, hst]; rw [w64 (by omega) (by omega)]; rfl)
  · have hlt' : ((i : Int) < (p.thr.length : Int)) = False := by rw [int_lt]; simp [hlt]
    have hO : ofS p.thr n = (0, 0, false) := by
      unfold ofS
      have : (List.range p.thr.length).find? (ofT p.thr n) = none := by
        rw [List.find?_eq_none]
        intro j hj
        rw [hno j (by simp at hj; omega)]; simp
      rw [this]
    rw [hO]
    simp (config := { decide := true }) only [go_sem, Int.reduceToNat, Nat.reduceAdd, Nat.reduceSub, Nat.reduceMul, Nat.reduceBEq, reduceIte, reduceCtorEq, h1, h2, h7, h8, hlt']
end Go.Proofs.Yteieinhgdjjdoaa
namespace Go.Proofs.Yteieinhgdjjdoaa
open Go.RowKit
set_option maxRecDepth 8000
def crossF (p : Prg) : Sta → List Int → List Pck → Option (List Int)
  | _, out, [] => some out
  | s, out, k :: r => if (stepW p s k).2 = true then crossF p (stepW p s k).1 (if k.dr = false ∧ (thAt s k.th).buf ≠ [] then putB out (numS p k.th (thAt s k.th).pc) else out) r else none
theorem putS_len2 (n : Int) : ∀ (l : List Int) (st : List Int × Bool), (l.foldl (putS n) st).1.length + (!(l.foldl (putS n) st).2).toNat ≤ st.1.length + l.length + (!st.2).toNat
  | [], st => Nat.le_refl _
  | x :: l, st => by
    have ih := putS_len2 n l (putS n st x)
    have h1 : (putS n st x).1.length + (!(putS n st x).2).toNat ≤ st.1.length + 1 + (!st.2).toNat := by
      obtain ⟨a, b⟩ := st
      unfold putS
      cases b with
      | true => simp
      | false =>
        by_cases c : n ≤ x
        · by_cases c2 : n = x <;> simp [c, c2]
        · simp [c]
    rw [List.foldl_cons, List.length_cons]; omega
theorem putB_len (l : List Int) (n : Int) : (putB l n).length ≤ l.length + 1 := by
  have := putS_len2 n l ([], false)
  simp only [List.length_nil, Bool.not_false, Bool.toNat_true] at this
  unfold putB
  cases h : (l.foldl (putS n) ([], false)).2 with
  | true => rw [if_pos rfl]; omega
  | false =>
    rw [h] at this
    simp only [Bool.not_false, Bool.toNat_true] at this
    rw [if_neg (by simp)]
    simp; omega
end Go.Proofs.Yteieinhgdjjdoaa
namespace Go.Proofs.Yteieinhgdjjdoaa
open Go.RowKit
set_option maxRecDepth 8000
def raiseF (p : Prg) (g : List Int) : Sta → List Pck → List Pck → Option (List Pck)
  | _, out, [] => some out
  | s, out, k :: r => if (stepW p s k).2 = true then
      (if k.dr = false ∧ hasB g (numS p k.th (thAt s k.th).pc) = true then (if (thAt s k.th).buf ≠ [] then none else raiseF p g (stepW p s k).1 (out ++ [⟨k.th, false⟩] ++ [k]) r) else raiseF p g (stepW p s k).1 (out ++ [k]) r)
    else none
theorem Conv.nilTuOw (e : TypeId) (sz : Nat) (b : HV) : Conv (.tu [.v (.slice none 0 0), b]) (.tu [.ow e sz [], b]) := fun Z G w y h => by
  simp only [RV, RL] at h ⊢
  obtain ⟨ys, rfl, y1, ys', f1, f2, e1, e2, ⟨rfl, rfl⟩, h2⟩ := h
  exact ⟨_, rfl, _, _, [], f2, e1, by simpa using e2, .inl ⟨trivial, rfl, rfl⟩, h2⟩
end Go.Proofs.Yteieinhgdjjdoaa
namespace Go.Proofs.Yteieinhgdjjdoaa
open Go.RowKit
set_option maxRecDepth 8000
def fenceT (g : List Int) (a : Int) (at_ : Int) (i : Nat) : Bool := hasB g (a + i) && decide (at_ = (i : Int) + (countB g a i : Int))
def fenceB (p : Prg) (g : List Int) (t : Nat) (at_ : Int) : Bool := (List.range ((p.thr[t]?).getD []).length).any (fenceT g (startB p.thr t) at_)
end Go.Proofs.Yteieinhgdjjdoaa
namespace Go.Proofs.Yteieinhgdjjdoaa
open Go.RowKit
set_option maxRecDepth 8000
def regsB (s : Sta) : List Int := s.ths.flatMap (·.regs)
set_option maxHeartbeats 4000000 in
theorem refEnd (s : Sta) (hm : s.mem.length ≤ 100000) (ht : s.ths.length ≤ 1000) (hr : ∀ t ∈ s.ths, t.regs.length ≤ 1000) : HFn Try.prog 25 [staH s] (.ag [.ow 3 1 (ints s.mem), .ow 3 1 (ints (regsB s))]) := by
  refine HCalls_bodyC (fn := Try.f25) 28 [.cell 2 54] (by kernel_rfl) rfl rfl (by kernel_rfl) (HW.weaken (Q' := fun e => GQ _ _ (endC _ _ _ _ e)) (HW.run 400 (by kernel_rfl) ?_) (fun _ _ _ h => h))
  simp (config := { decide := true }) only [go_sem, Int.reduceToNat, Nat.reduceAdd, Nat.reduceSub, Nat.reduceMul, Nat.reduceBEq, reduceIte, reduceCtorEq]
  repeat (with_reducible refine And.intro ?_ ?_; · (with_reducible and_intros) <;> omega)
  have hfl : ∀ i, ((s.ths.take i).flatMap (·.regs)).length ≤ 1000 * i := by
    intro i
    induction i with
    | zero => simp
    | succ i ih =>
      rw [List.take_add_one, List.flatMap_append, List.length_append]
      cases hx : s.ths[i]? with
      | none => simp only [Option.toList_none, List.flatMap_nil, List.length_nil]; omega
      | some x => have := hr x (List.mem_of_getElem? hx); simp only [Option.toList_some, List.flatMap_cons, List.flatMap_nil, List.append_nil]; omega
  refine HW.loopG (fun k T H => ∃ i : Nat, k = s.ths.length - i ∧ i ≤ s.ths.length ∧ T 1 = .pt 0 1 0 0 ∧ T 2 = .pt 1 1 0 0 ∧ T 3 = .pt 3 1 0 0 ∧ T 4 = .v (.int .i64 i) ∧
    H = [some ⟨38, 2, [[.sl (ints s.mem), .sl (thds s.ths)]]⟩, some ⟨54, 2, [[.v (.slice none 0 0), .v (.slice none 0 0)]]⟩, some ⟨3, 1, ints s.mem⟩, some ⟨54, 2, [[.hd 2 0 s.mem.length, .hd 4 0 ((s.ths.take i).flatMap (·.regs)).length]]⟩, some ⟨3, 1, ints ((s.ths.take i).flatMap (·.regs))⟩]) s.ths.length
    ⟨_, _, (Ghost.cell 3 0 1 (.ow 3 1 []) rfl rfl rfl rfl (Conv.nilOw _ _) (by simp)).trans (Ghost.open 3 0 1), 0, rfl, by omega, rfl, rfl, rfl, rfl, rfl⟩ ?_
  rintro k T H ⟨i, rfl, hi, h1, h2, h3, h4, rfl⟩
  refine HW.run 200 (by kernel_rfl) ?_
  have hfi := hfl i
  by_cases hlt : i < s.ths.length
  · have hlt' : ((i : Int) < (s.ths.length : Int)) = True := by rw [int_lt]; simp [hlt]
    have hx : s.ths[i]? = some s.ths[i] := List.getElem?_eq_getElem hlt
    have hxr := hr _ (List.getElem_mem hlt)
    have htk : (s.ths.take (i + 1)).flatMap (·.regs) = (s.ths.take i).flatMap (·.regs) ++ (s.ths[i]).regs := by rw [List.take_add_one, hx, List.flatMap_append]; simp
    generalize s.ths[i] = x at hx hxr htk
    generalize (s.ths.take i).flatMap (·.regs) = o at hfi htk ⊢
    simp (config := { decide := true }) only [go_sem, Int.reduceToNat, Nat.reduceAdd, Nat.reduceSub, Nat.reduceMul, Nat.reduceBEq, reduceIte, reduceCtorEq, h1, h2, h3, h4, hlt', hx]
    refine HW.mixed 80 8 (5, 0) [] follows (by kernel_rfl) (by decide) ?_
    simp (config := { decide := true }) only [go_sem, Int.reduceToNat, Nat.reduceAdd, Nat.reduceSub, Nat.reduceMul, Nat.reduceBEq, reduceIte, reduceCtorEq, h1, h2, h3, h4, hlt', hx]
    repeat (with_reducible refine And.intro ?_ ?_; · (with_reducible and_intros) <;> omega)
    refine ⟨_, _, Ghost.trunc [1, 2, 3, 4] 5 (by omega) ?_ ?_, s.ths.length - (i + 1), by omega, i + 1, rfl, by omega, ?_, ?_, ?_, ?_, ?_⟩
    all_goals first | (simp (config := { decide := true }) only [go_sem, Nat.reduceBEq, reduceIte, h1, h2, h3]; done) | (simp (config := { decide := true }) only [go_sem, Nat.reduceBEq, reduceIte]; rw [w64 (by omega) (by omega)]; rfl) | (simp (config := { decide := true }) only [go_sem, Int.reduceToNat, Nat.reduceAdd, Nat.reduceSub, Nat.reduceMul, Nat.reduceBEq, reduceIte, reduceCtorEq, htk, List.length_append]; done)
  · have hlt' : ((i : Int) < (s.ths.length : Int)) = False := by rw [int_lt]; simp [hlt]
    have e : s.ths.take i = s.ths := List.take_of_length_le (by omega)
    simp (config := { decide := true }) only [go_sem, Int.reduceToNat, Nat.reduceAdd, Nat.reduceSub, Nat.reduceMul, Nat.reduceBEq, reduceIte, reduceCtorEq, h1, h2, h3, h4, hlt', e]
    refine GQ.done ?_
    simp (config := { decide := true }) only [go_sem, Int.reduceToNat, Nat.reduceAdd, Nat.reduceSub, Nat.reduceMul, Nat.reduceBEq, reduceIte, reduceCtorEq, h2]
    try rfl
end Go.Proofs.Yteieinhgdjjdoaa
namespace Go.Proofs.Yteieinhgdjjdoaa
open Go.RowKit
set_option maxRecDepth 8000
def strictF (p : Prg) : Sta → List Pck → List Pck → Option (List Pck)
  | _, out, [] => some out
  | s, out, k :: r => if (stepB p s k false).2 = true then
      strictF p (stepB p s k false).1 (if ((atS p s k.th).getD stp0).op = 3 ∨ ((atS p s k.th).getD stp0).op = 4 then out ++ [k] ++ [⟨k.th, true⟩] else out ++ [k]) r
    else none
set_option maxHeartbeats 8000000 in
theorem refStrict (p : Prg) (l : List Pck) (hp : RightP p) (hl : l.length ≤ 10000) : HFn Try.prog 26 [prgH p, .sl (pcks l)]
    (.tu [owPcks ((strictF p (beginS p) [] l).getD []), .v (.bool (strictF p (beginS p) [] l).isSome)]) := by
  refine HCalls.conv (Q := fun x _ => x = .tu [owPcks ((strictF p (beginS p) [] l).getD []), .v (.bool (strictF p (beginS p) [] l).isSome)] ∨ (strictF p (beginS p) [] l = none ∧ x = .tu [.v (.slice none 0 0), .v (.bool false)])) ?_ ?_
  rotate_left
  · rintro x H' (rfl | ⟨h, rfl⟩)
    · exact ⟨_, rfl, .inl rfl⟩
    · rw [h]; exact ⟨_, rfl, .inr ⟨rfl, Conv.nilTuOw _ _ _⟩⟩
  refine HCalls_body (fn := Try.f26) 70 [4, 5] (by kernel_rfl) rfl (by kernel_rfl) (HW.run 400 (by kernel_rfl) ?_)
  simp (config := { decide := true }) only [go_sem, Int.reduceToNat, Nat.reduceAdd, Nat.reduceSub, Nat.reduceMul, Nat.reduceBEq, reduceIte, reduceCtorEq]
  refine callX_nm (refBegin p (by have := hp.thr; omega) (by have := hp.init; omega)) rfl rfl ?_
  generalize hR : strictF p (beginS p) [] l = R
  simp (config := { decide := true }) only [go_sem, Int.reduceToNat, Nat.reduceAdd, Nat.reduceSub, Nat.reduceMul, Nat.reduceBEq, reduceIte, reduceCtorEq]
  refine HW.loopG (fun k T H => ∃ (i : Nat) (s : Sta) (out : List Pck), k = l.length - i ∧ i ≤ l.length ∧ RightS p s ∧ Few s i ∧ out.length ≤ 2 * i ∧ R = strictF p s out (l.drop i) ∧
    T 1 = .sl (pcks l) ∧ T 2 = .pt 0 1 0 0 ∧ T 6 = .pt 1 1 0 0 ∧ T 7 = .hd 2 0 out.length ∧ T 8 = .v (.int .i64 i) ∧
    H = [some ⟨25, 2, [[.sl (ints p.init), .sl (thrs p.thr)]]⟩, some ⟨38, 2, [[.sl (ints s.mem), .sl (thds s.ths)]]⟩, some ⟨62, 2, pcks out⟩]) l.length
    ⟨_, _, Ghost.nil 7 62 2 rfl, 0, beginS p, [], rfl, by omega, begin_right, begin_few, by simp, by rw [List.drop_zero, hR], rfl, rfl, rfl, rfl, rfl, rfl⟩ ?_
  rintro k T H ⟨i, s, out, rfl, hi, hs, hf, hout, hRi, h1, h2, h6, h7, h8, rfl⟩
  refine HW.run 200 (by kernel_rfl) ?_
  by_cases hlt : i < l.length
  · have hlt' : ((i : Int) < (l.length : Int)) = True := by rw [int_lt]; simp [hlt]
    have hx : l[i]? = some l[i] := List.getElem?_eq_getElem hlt
    have hdr : l.drop i = l[i] :: l.drop (i + 1) := List.drop_eq_getElem_cons hlt
    generalize l[i] = x at hx hdr
    rw [hdr] at hRi
    have hst := refStep p s x false hp hs (fun t ht => by have := hf t ht; omega)
    have hr' := stepB_right (k := x) (weak := false) hp hs
    have hf' := stepB_few (p := p) (k := x) (weak := false) hf
    have hat := refAt p s x.th hp hs
    simp only [strictF] at hRi
    simp (config := { decide := true }) only [go_sem, Int.reduceToNat, Nat.reduceAdd, Nat.reduceSub, Nat.reduceMul, Nat.reduceBEq, reduceIte, reduceCtorEq, h1, h2, h6, h7, h8, hlt', hx]
    refine HW.mixed 80 14 (3, 0) [11, 12] follows (by kernel_rfl) (by decide) ?_
    simp (config := { decide := true }) only [go_sem, Int.reduceToNat, Nat.reduceAdd, Nat.reduceSub, Nat.reduceMul, Nat.reduceBEq, reduceIte, reduceCtorEq, h1, h2, h6, h7, h8, hlt', hx]
    refine callN_nm (hat) rfl rfl ?_
    generalize (atS p s x.th).getD stp0 = w at hRi ⊢
    simp (config := { decide := true }) only [go_sem, Int.reduceToNat, Nat.reduceAdd, Nat.reduceSub, Nat.reduceMul, Nat.reduceBEq, reduceIte, reduceCtorEq, h1, h2, h6, h7, h8, hlt', hx]
    refine HW.mixed 80 13 (4, 0) [10, 11] follows (by kernel_rfl) (by decide) ?_
    simp (config := { decide := true }) only [go_sem, Int.reduceToNat, Nat.reduceAdd, Nat.reduceSub, Nat.reduceMul, Nat.reduceBEq, reduceIte, reduceCtorEq, h1, h2, h6, h7, h8, hlt', hx]
    refine callN_nm (hst) rfl rfl ?_
    generalize stepB p s x false = z at hRi hr' hf' ⊢
    obtain ⟨s', ok⟩ := z
    simp only at hRi hr' hf'
    cases ok with
    | false =>
      rw [if_neg (by simp)] at hRi
      simp (config := { decide := true }) only [go_sem, Int.reduceToNat, Nat.reduceAdd, Nat.reduceSub, Nat.reduceMul, Nat.reduceBEq, reduceIte, reduceCtorEq, h1, h2, h6, h7, h8, hlt', hx]
      exact .inr hRi
    | true =>
      rw [if_pos rfl] at hRi
      by_cases c3 : w.op = 3
      · rw [if_pos (.inl c3)] at hRi
        simp (config := { decide := true }) only [go_sem, Int.reduceToNat, Nat.reduceAdd, Nat.reduceSub, Nat.reduceMul, Nat.reduceBEq, reduceIte, reduceCtorEq, h1, h2, h6, h7, h8, hlt', hx, c3, List.length_append, List.length_singleton]
        repeat (with_reducible refine And.intro ?_ ?_; · (with_reducible and_intros) <;> omega)
        refine ⟨_, _, Ghost.trunc [1, 2, 6, 7, 8] 3 (by omega) ?_ ?_, l.length - (i + 1), by omega, i + 1, s', _, rfl, by omega, hr', hf', by simp only [List.length_append, List.length_singleton]; omega, hRi, ?_, ?_, ?_, ?_, ?_, ?_⟩
        all_goals first | (simp (config := { decide := true }) only [go_sem, Nat.reduceBEq, reduceIte, h1, h2, h6, List.length_append, List.length_singleton, nmR_append]; done) | (simp (config := { decide := true }) only [go_sem, Nat.reduceBEq, reduceIte]; rw [w64 (by omega) (by omega)]; rfl) | (simp (config := { decide := true }) only [go_sem, Int.reduceToNat, Nat.reduceAdd, Nat.reduceSub, Nat.reduceMul, Nat.reduceBEq, reduceIte, reduceCtorEq, List.length_append, List.length_singleton]; done)
      · by_cases c4 : w.op = 4
        · rw [if_pos (.inr c4)] at hRi
          simp (config := { decide := true }) only [go_sem, Int.reduceToNat, Nat.reduceAdd, Nat.reduceSub, Nat.reduceMul, Nat.reduceBEq, reduceIte, reduceCtorEq, h1, h2, h6, h7, h8, hlt', hx, c4, List.length_append, List.length_singleton]
          repeat (with_reducible refine And.intro ?_ ?_; · (with_reducible and_intros) <;> omega)
          refine ⟨_, _, Ghost.trunc [1, 2, 6, 7, 8] 3 (by omega) ?_ ?_, l.length - (i + 1), by omega, i + 1, s', _, rfl, by omega, hr', hf', by simp only [List.length_append, List.length_singleton]; omega, hRi, ?_, ?_, ?_, ?_, ?_, ?_⟩
          all_goals first | (simp (config := { decide := true }) only [go_sem, Nat.reduceBEq, reduceIte, h1, h2, h6, List.length_append, List.length_singleton, nmR_append]; done) | (simp (config := { decide := true }) only [go_sem, Nat.reduceBEq, reduceIte]; rw [w64 (by omega) (by omega)]; rfl) | (simp (config := { decide := true }) only [go_sem, Int.reduceToNat, Nat.reduceAdd, Nat.reduceSub, Nat.reduceMul, Nat.reduceBEq, reduceIte, reduceCtorEq, List.length_append, List.length_singleton]; done)
        · rw [if_neg (by rintro (h | h) <;> contradiction)] at hRi
          simp (config := { decide := true }) only [go_sem, Int.reduceToNat, Nat.reduceAdd, Nat.reduceSub, Nat.reduceMul, Nat.reduceBEq, reduceIte, reduceCtorEq, h1, h2, h6, h7, h8, hlt', hx, c3, c4]
          repeat (with_reducible refine And.intro ?_ ?_; · (with_reducible and_intros) <;> omega)
          refine ⟨_, _, Ghost.trunc [1, 2, 6, 7, 8] 3 (by omega) ?_ ?_, l.length - (i + 1), by omega, i + 1, s', _, rfl, by omega, hr', hf', by simp only [List.length_append, List.length_singleton]; omega, hRi, ?_, ?_, ?_, ?_, ?_, ?_⟩
          all_goals first | (simp (config := { decide := true }) only [go_sem, Nat.reduceBEq, reduceIte, h1, h2, h6, List.length_append, List.length_singleton, nmR_append]; done) | (simp (config := { decide := true }) only [go_sem, Nat.reduceBEq, reduceIte]; rw [w64 (by omega) (by omega)]; rfl) | (simp (config := { decide := true }) only [go_sem, Int.reduceToNat, Nat.reduceAdd, Nat.reduceSub, Nat.reduceMul, Nat.reduceBEq, reduceIte, reduceCtorEq, List.length_append, List.length_singleton]; done)
  · have hlt' : ((i : Int) < (l.length : Int)) = False := by rw [int_lt]; simp [hlt]
    have e : i = l.length := by omega
    subst e
    rw [List.drop_length] at hRi
    simp only [strictF] at hRi
    subst hRi
    simp (config := { decide := true }) only [go_sem, Int.reduceToNat, Nat.reduceAdd, Nat.reduceSub, Nat.reduceMul, Nat.reduceBEq, reduceIte, reduceCtorEq, h1, h2, h6, h7, h8, hlt']
end Go.Proofs.Yteieinhgdjjdoaa
namespace Go.Proofs.Yteieinhgdjjdoaa
open Go.RowKit
set_option maxRecDepth 8000
def great7 (p : Prg) : Bool := decide (60 < p.init.length) || decide (9 < p.thr.length) || p.thr.any fun l => decide (300 < l.length)
theorem great7_small {p : Prg} (h : great7 p = false) : SmallP p := by
  simp only [great7, Bool.or_eq_false_iff, decide_eq_false_iff_not, List.any_eq_false] at h
  exact ⟨by omega, by omega, fun l hl => by have := h.2 l hl; simp at this; omega⟩
theorem lawGreat7 (p : Prg) : HFn Try.prog 48 [prgH p] (.v (.bool (great7 p))) := by
  refine HCalls_body (fn := Try.f48) 28 [2] (by kernel_rfl) rfl (by kernel_rfl) (HW.run 400 (by kernel_rfl) ?_)
  by_cases c1 : 60 < p.init.length
  · have c1' : ((60 : Int) < (p.init.length : Int)) = True := by simp only [eq_iff_iff, iff_true]; omega
    simp (config := { decide := true }) only [go_sem, Int.reduceToNat, Nat.reduceAdd, Nat.reduceSub, Nat.reduceMul, Nat.reduceBEq, reduceIte, reduceCtorEq, c1']
    exact vb (by simp [great7, c1])
  have c1' : ((60 : Int) < (p.init.length : Int)) = False := by simp only [eq_iff_iff, iff_false]; omega
  by_cases c2 : 9 < p.thr.length
  · have c2' : ((9 : Int) < (p.thr.length : Int)) = True := by simp only [eq_iff_iff, iff_true]; omega
    simp (config := { decide := true }) only [go_sem, Int.reduceToNat, Nat.reduceAdd, Nat.reduceSub, Nat.reduceMul, Nat.reduceBEq, reduceIte, reduceCtorEq, c1', c2']
    exact vb (by simp [great7, c2])
  have c2' : ((9 : Int) < (p.thr.length : Int)) = False := by simp only [eq_iff_iff, iff_false]; omega
  have hG : great7 p = p.thr.any fun l => decide (300 < l.length) := by simp [great7, c1, c2]
  simp (config := { decide := true }) only [go_sem, Int.reduceToNat, Nat.reduceAdd, Nat.reduceSub, Nat.reduceMul, Nat.reduceBEq, reduceIte, reduceCtorEq, c1', c2']
  rw [hG]
  refine HW.loopG (fun k T H => ∃ i : Nat, k = p.thr.length - i ∧ i ≤ p.thr.length ∧ (∀ j, j < i → ∀ l, p.thr[j]? = some l → ¬ 300 < l.length) ∧ T 1 = .pt 0 1 0 0 ∧ T 3 = .v (.int .i64 i) ∧ H = [some ⟨25, 2, [[.sl (ints p.init), .sl (thrs p.thr)]]⟩]) p.thr.length ⟨_, _, Ghost.refl, 0, rfl, by omega, by simp, rfl, rfl, rfl⟩ ?_
  rintro k T H ⟨i, rfl, hi, hno, h1, h3, rfl⟩
  refine HW.run 200 (by kernel_rfl) ?_
  by_cases hlt : i < p.thr.length
  · have hlt' : ((i : Int) < (p.thr.length : Int)) = True := by rw [int_lt]; simp [hlt]
    have hx : p.thr[i]? = some p.thr[i] := List.getElem?_eq_getElem hlt
    generalize p.thr[i] = l at hx
    by_cases c3 : 300 < l.length
    · have c3' : ((300 : Int) < (l.length : Int)) = True := by simp only [eq_iff_iff, iff_true]; omega
      simp (config := { decide := true }) only [go_sem, Int.reduceToNat, Nat.reduceAdd, Nat.reduceSub, Nat.reduceMul, Nat.reduceBEq, reduceIte, reduceCtorEq, h1, h3, hlt', hx, c3']
      exact vb (Eq.symm (List.any_eq_true.2 ⟨l, List.mem_of_getElem? hx, by simpa using c3⟩))
    · have c3' : ((300 : Int) < (l.length : Int)) = False := by simp only [eq_iff_iff, iff_false]; omega
      simp (config := { decide := true }) only [go_sem, Int.reduceToNat, Nat.reduceAdd, Nat.reduceSub, Nat.reduceMul, Nat.reduceBEq, reduceIte, reduceCtorEq, h1, h3, hlt', hx, c3']
      refine ⟨_, _, Ghost.refl, p.thr.length - (i + 1), by omega, i + 1, rfl, by omega, ?_, ?_, ?_, rfl⟩
      · intro j hj y hy
        rcases Nat.lt_or_ge j i with h | h
        · exact hno j h y hy
        · obtain rfl : j = i := by omega
          rw [hx] at hy; cases hy; exact c3
      all_goals first | (simp (config := { decide := true }) only [go_sem, Nat.reduceBEq, reduceIte, h1]; done) | (simp (config := { decide := true }) only [go_sem, Nat.reduceBEq, reduceIte]; rw [w64 (by omega) (by omega)]; rfl)
  · have hlt' : ((i : Int) < (p.thr.length : Int)) = False := by rw [int_lt]; simp [hlt]
    simp (config := { decide := true }) only [go_sem, Int.reduceToNat, Nat.reduceAdd, Nat.reduceSub, Nat.reduceMul, Nat.reduceBEq, reduceIte, reduceCtorEq, h1, h3, hlt']
    refine vb (Eq.symm ?_)
    rw [List.any_eq_false]
    intro y hy
    obtain ⟨j, hj⟩ := List.mem_iff_getElem?.1 hy
    have := hno j (by have := (List.getElem?_eq_some_iff.1 hj).1; omega) y hj
    simpa using this
end Go.Proofs.Yteieinhgdjjdoaa
namespace Go.Proofs.Yteieinhgdjjdoaa
open Go.RowKit
set_option maxRecDepth 8000
def fnc : Stp := ⟨6, 0, 0, 0, 0⟩
def insStp (g : List Int) (a : Nat) (x : Stp) : Stp := if 8 ≤ x.op then { x with to := x.to + countB g a x.to.toNat } else x
def insR (g : List Int) : Nat → List Stp → List Stp
  | _, [] => []
  | n, x :: l => (if hasB g (n : Int) = true then [fnc] else []) ++ x :: insR g (n + 1) l
def insT (g : List Int) (a : Nat) (l : List Stp) : List Stp := (insR g a l).map (insStp g a)
def insF (g : List Int) (thr : List (List Stp)) : Nat → List (List Stp)
  | 0 => []
  | t + 1 => insF g thr t ++ [insT g (startB thr t) ((thr[t]?).getD [])]
def insP (p : Prg) (g : List Int) : Prg := ⟨p.init, insF g p.thr p.thr.length⟩
theorem insR_append (g : List Int) : ∀ (l r : List Stp) (n : Nat), insR g n (l ++ r) = insR g n l ++ insR g (n + l.length) r
  | [], r, n => by simp [insR]
  | x :: l, r, n => by
    simp only [List.cons_append, insR, insR_append g l r (n + 1), List.length_cons, List.append_assoc]
    rw [show n + 1 + l.length = n + (l.length + 1) by omega]
theorem insR_snoc (g : List Int) (l : List Stp) (x : Stp) (n : Nat) : insR g n (l ++ [x]) = insR g n l ++ ((if hasB g ((n + l.length : Nat) : Int) = true then [fnc] else []) ++ [x]) := by
  rw [insR_append]; rfl
theorem insR_len (g : List Int) (a : Nat) : ∀ (l : List Stp) (j : Nat), j ≤ l.length → (insR g a (l.take j)).length = j + countB g a j := by
  intro l j
  induction j with
  | zero => intro _; simp [insR, countB]
  | succ j ih =>
    intro hj
    have hx : l.take (j + 1) = l.take j ++ [l[j]'(by omega)] := by rw [List.take_add_one, List.getElem?_eq_getElem (by omega)]; rfl
    rw [hx, insR_snoc, List.length_append, ih (by omega), List.length_take, Nat.min_eq_left (by omega)]
    have e : ((a + j : Nat) : Int) = (a : Int) + j := by omega
    rw [countB, ← e]
    split <;> simp <;> omega
theorem insR_mem {g : List Int} {y : Stp} : ∀ {l : List Stp} {n : Nat}, y ∈ insR g n l → y = fnc ∨ y ∈ l
  | [], n, h => by simp [insR] at h
  | x :: l, n, h => by
    simp only [insR, List.mem_append, List.mem_cons] at h
    rcases h with h | rfl | h
    · split at h
      · simp at h; exact .inl h
      · simp at h
    · exact .inr (by simp)
    · rcases insR_mem h with h | h
      · exact .inl h
      · exact .inr (by simp [h])
theorem insF_len (g : List Int) (thr : List (List Stp)) : ∀ t, (insF g thr t).length = t
  | 0 => rfl
  | t + 1 => by simp [insF, insF_len g thr t]
theorem insF_get (g : List Int) (thr : List (List Stp)) : ∀ (m t : Nat), t < m → (insF g thr m)[t]? = some (insT g (startB thr t) ((thr[t]?).getD []))
  | 0, t, h => absurd h (Nat.not_lt_zero _)
  | m + 1, t, h => by
    unfold insF
    by_cases e : t < m
    · rw [List.getElem?_append_left (by rw [insF_len]; exact e)]
      exact insF_get g thr m t e
    · obtain rfl : t = m := by omega
      rw [List.getElem?_append_right (by rw [insF_len]; omega), insF_len]; simp
def begL (g : List Int) (a : Nat) (j : Nat) : List Int := (List.range j).map fun k => ((k + countB g a k : Nat) : Int)
theorem begL_snoc (g : List Int) (a j : Nat) : begL g a (j + 1) = begL g a j ++ [((j + countB g a j : Nat) : Int)] := by simp [begL, List.range_succ]
theorem begL_get {g : List Int} {a j k : Nat} (h : k < j) : (begL g a j)[k]? = some ((k + countB g a k : Nat) : Int) := by simp [begL, h]
theorem begL_len {g : List Int} {a j : Nat} : (begL g a j).length = j := by simp [begL]
end Go.Proofs.Yteieinhgdjjdoaa
namespace Go.Proofs.Yteieinhgdjjdoaa
open Go.RowKit
section
variable {α : Type} [DecidableEq α]
def getM (kv : List (α × Int)) (k : α) : Int := ((kv.find? fun e => decide (k = e.1)).map (·.2)).getD 0
def inM (kv : List (α × Int)) (k : α) : Bool := kv.any fun e => decide (k = e.1)
def setM (kv : List (α × Int)) (k : α) (v : Int) : List (α × Int) :=
  match kv with
  | [] => [(k, v)]
  | e :: r => if k = e.1 then (k, v) :: r else e :: setM r k v
def entM (kv : List (α × Int)) (k : α) : List (α × Int) := if inM kv k = true then kv else kv ++ [(k, 0)]
def idxM (kv : List (α × Int)) (k : α) : Nat := (kv.findIdx fun e => decide (k = e.1))
def esL (kf : α → Value) : Nat → List (α × Int) → List MapEntry
  | _, [] => []
  | n, e :: r => ⟨kf e.1, .int .i64 e.2, n⟩ :: esL kf (n + 1) r
def esG (kf : α → Value) (kv : List (α × Int)) : Array MapEntry := (esL kf 0 kv).toArray
def mapG (kf : α → Value) (kv : List (α × Int)) : HObj := mapObj (esG kf kv) kv.length
def findI (k : α) : List (α × Int) → Nat → Option (Nat × Value)
  | [], _ => none
  | e :: r, i => if k = e.1 then some (i, .int .i64 e.2) else findI k r (i + 1)
variable {kf : α → Value} (hk : ∀ x y, keq (kf x) (kf y) = some (decide (x = y)))
include hk
theorem findV_esL (k : α) : ∀ (kv : List (α × Int)) (n i : Nat), findV (kf k) (esL kf n kv) i = some (findI k kv i)
  | [], _, _ => rfl
  | e :: r, n, i => by
    simp only [esL, findV, hk, Option.bind_some, findI, decide_eq_true_eq, findV_esL k r (n + 1) (i + 1)]
    split <;> rfl
omit hk in
theorem findI_get (k : α) : ∀ (kv : List (α × Int)) (i : Nat), ((findI k kv i).map (·.2)).getD (.int .i64 0) = .int .i64 (getM kv k) ∧ (findI k kv i).isSome = inM kv k
  | [], _ => ⟨rfl, rfl⟩
  | e :: r, i => by
    have ih := findI_get k r (i + 1)
    simp only [findI, getM, inM, List.find?_cons, List.any_cons] at ih ⊢
    by_cases h : k = e.1
    · simp [h]
    · simpa [h] using ih
theorem lookV_esG (k : α) (kv : List (α × Int)) : lookV (esG kf kv) (kf k) (.int .i64 0) = some (.int .i64 (getM kv k), inM kv k) := by
  unfold lookV esG
  rw [List.toList_toArray, findV_esL hk]
  simp only [Option.map_some, (findI_get k kv 0).1, (findI_get k kv 0).2]
omit hk in
theorem esL_append : ∀ (kv r : List (α × Int)) (n : Nat), esL kf n (kv ++ r) = esL kf n kv ++ esL kf (n + kv.length) r
  | [], r, n => by simp [esL]
  | e :: l, r, n => by simp only [List.cons_append, esL, esL_append l r (n + 1), List.length_cons]; rw [show n + 1 + l.length = n + (l.length + 1) by omega]
omit hk in
theorem esL_length : ∀ (kv : List (α × Int)) (n : Nat), (esL kf n kv).length = kv.length
  | [], _ => rfl
  | e :: r, n => by simp [esL, esL_length r]
omit hk in
theorem setM_none (k : α) (v : Int) : ∀ (kv : List (α × Int)) (i : Nat), findI k kv i = none → setM kv k v = kv ++ [(k, v)]
  | [], _, _ => rfl
  | e :: r, i, h => by
    simp only [findI] at h
    split at h
    · cases h
    · rename_i hne; simp only [setM, if_neg hne, setM_none k v r (i + 1) h, List.cons_append]
omit hk in
theorem setM_some (k : α) (v : Int) : ∀ (kv : List (α × Int)) (n i j : Nat) (x : Value), findI k kv i = some (i + j, x) → (esL kf n kv).modify j (fun e => { e with key := kf k, val := .int .i64 v }) = esL kf n (setM kv k v) ∧ (setM kv k v).length = kv.length
  | [], n, i, j, x, h => by simp [findI] at h
  | e :: r, n, i, j, x, h => by
    simp only [findI] at h
    split at h
    · rename_i he
      have : j = 0 := by simp at h; omega
      subst this
      simp only [esL, setM, if_pos he, List.modify_zero_cons, List.length_cons, and_self]
    · rename_i hne
      cases j with
      | zero =>
        exfalso
        have key : ∀ (l : List (α × Int)) (m : Nat), ∀ q y, findI k l m = some (q, y) → m ≤ q := by
          intro l
          induction l with
          | nil => intro m q y h; simp [findI] at h
          | cons a l ih =>
            intro m q y h
            simp only [findI] at h
            split at h
            · simp at h; omega
            · have := ih _ _ _ h; omega
        have := key _ _ _ _ h
        omega
      | succ j =>
        have := setM_some k v r (n + 1) (i + 1) j x (by rw [show i + 1 + j = i + (j + 1) by omega]; exact h)
        simp only [esL, setM, if_neg hne, List.modify_succ_cons, this.1, List.length_cons, this.2, and_self]
theorem putO_esG (k : α) (v : Int) (kv : List (α × Int)) : putO (esG kf kv) kv.length (kf k) (.int .i64 v) = some (mapG kf (setM kv k v)) := by
  unfold putO
  have e : (esG kf kv).toList = esL kf 0 kv := by unfold esG; rw [List.toList_toArray]
  rw [e, findV_esL hk]
  simp only [Option.map_some, Option.some.injEq]
  cases h : findI k kv 0 with
  | none =>
    simp only [putE]
    rw [setM_none k v kv 0 h]
    unfold mapG
    have : (esG kf kv).push ⟨kf k, .int .i64 v, kv.length⟩ = esG kf (kv ++ [(k, v)]) := by
      apply Array.ext'
      simp [esG, esL_append, esL]
    rw [this]; simp
  | some r =>
    obtain ⟨j, x⟩ := r
    obtain ⟨h1, h2⟩ := setM_some (kf := kf) k v kv 0 0 j x (by rw [Nat.zero_add]; exact h)
    simp only [putE]
    unfold mapG
    rw [h2]
    have : (esG kf kv).modify j (fun e => { e with key := kf k, val := .int .i64 v }) = esG kf (setM kv k v) := by
      apply Array.ext'
      rw [Array.toList_modify, e, h1]; simp [esG]
    rw [this]
end
abbrev kI (x : Int) : Value := .int .i64 x
abbrev kP (x : Int × Int) : Value := .agg #[.int .i64 x.1, .int .i64 x.2]
def mapI (kv : List (Int × Int)) : HObj := mapG kI kv
def mapP (kv : List ((Int × Int) × Int)) : HObj := mapG kP kv
theorem mapOf_I {kv : List (Int × Int)} : mapOf (mapI kv) = some (esG kI kv, kv.length) := rfl
theorem mapOf_P {kv : List ((Int × Int) × Int)} : mapOf (mapP kv) = some (esG kP kv, kv.length) := rfl
theorem lookV_I {kv : List (Int × Int)} {k : Int} : lookV (esG kI kv) (.int .i64 k) (.int .i64 0) = some (.int .i64 (getM kv k), inM kv k) := lookV_esG (fun _ _ => keq_int) k kv
theorem lookV_P {kv : List ((Int × Int) × Int)} {a b : Int} : lookV (esG kP kv) (.agg #[.int .i64 a, .int .i64 b]) (.int .i64 0) = some (.int .i64 (getM kv (a, b)), inM kv (a, b)) := lookV_esG (kf := kP) (fun _ _ => keq_ag2) (a, b) kv
theorem putO_I {kv : List (Int × Int)} {k v : Int} : putO (esG kI kv) kv.length (.int .i64 k) (.int .i64 v) = some (mapI (setM kv k v)) := putO_esG (fun _ _ => keq_int) k v kv
theorem putO_P {kv : List ((Int × Int) × Int)} {a b v : Int} : putO (esG kP kv) kv.length (.agg #[.int .i64 a, .int .i64 b]) (.int .i64 v) = some (mapP (setM kv (a, b) v)) := putO_esG (kf := kP) (fun _ _ => keq_ag2) (a, b) v kv
attribute [go_sem] mapOf_I mapOf_P lookV_I lookV_P putO_I putO_P
end Go.Proofs.Yteieinhgdjjdoaa
namespace Go.Proofs.Yteieinhgdjjdoaa
open Go.RowKit
set_option maxRecDepth 8000
def keysB (g : List Int) : List (Int × Int) := g.foldl (fun kv n => setM kv n (getM kv n + 1)) []
theorem keysB_snoc (g : List Int) (n : Int) : keysB (g ++ [n]) = setM (keysB g) n (getM (keysB g) n + 1) := by simp [keysB, List.foldl_append]
theorem getM_setM (kv : List (Int × Int)) (k v j : Int) : getM (setM kv k v) j = if j = k then v else getM kv j := by
  induction kv with
  | nil =>
    simp only [setM, getM, List.find?_cons, List.find?_nil]
    by_cases h : j = k <;> simp [h]
  | cons e r ih =>
    unfold setM
    by_cases h : k = e.1
    · rw [if_pos h]
      simp only [getM, List.find?_cons]
      by_cases h2 : j = k
      · simp [h2]
      · simp [h2, h ▸ h2]
    · rw [if_neg h]
      simp only [getM, List.find?_cons] at ih ⊢
      by_cases h2 : j = e.1
      · have : j ≠ k := fun e' => h (by rw [← e', h2])
        simp [h2, h2 ▸ this]
      · simp only [h2, decide_false] at ih ⊢
        exact ih
theorem getM_fold (n : Int) : ∀ (g : List Int) (kv : List (Int × Int)), getM (g.foldl (fun kv n => setM kv n (getM kv n + 1)) kv) n = getM kv n + ((g.filter fun x => decide (x = n)).length : Int)
  | [], kv => by simp
  | x :: g, kv => by
    rw [List.foldl_cons, getM_fold n g, getM_setM]
    by_cases h : n = x
    · subst h; simp; omega
    · simp [h, Ne.symm h]
theorem getM_keysB (g : List Int) (n : Int) : getM (keysB g) n = ((g.filter fun x => decide (x = n)).length : Int) := by
  unfold keysB
  rw [getM_fold]
  simp [getM]
theorem getM_keysB_pos (g : List Int) (n : Int) : (0 < getM (keysB g) n) = (n ∈ g) := by
  rw [getM_keysB]
  simp only [eq_iff_iff]
  rw [show (0 : Int) < ((g.filter fun x => decide (x = n)).length : Int) ↔ 0 < (g.filter fun x => decide (x = n)).length by omega, List.length_pos_iff_exists_mem]
  simp
theorem getM_keysB_le (g : List Int) (n : Int) : 0 ≤ getM (keysB g) n ∧ getM (keysB g) n ≤ g.length := by
  rw [getM_keysB]
  have := List.length_filter_le (fun x => decide (x = n)) g
  omega
abbrev owMap (kv : List (Int × Int)) : HV := .om (.map (esG kI kv) kv.length) []
theorem crossKeys (g : List Int) (hg : g.length ≤ 100000) : HFn Try.prog 42 [.sl (ints g)] (owMap (keysB g)) := by
  refine HCalls_body (fn := Try.f42) 19 [2] (by kernel_rfl) rfl (by kernel_rfl) (HW.run 400 (by kernel_rfl) ?_)
  simp (config := { decide := true }) only [go_sem, Int.reduceToNat, Nat.reduceAdd, Nat.reduceSub, Nat.reduceMul, Nat.reduceBEq, reduceIte, reduceCtorEq]
  refine HW.loopG (fun k T H => ∃ i : Nat, k = g.length - i ∧ i ≤ g.length ∧ T 3 = .mp 0 ∧ T 7 = .sl (ints g) ∧ T 8 = .v (.int .i64 g.length) ∧ T 9 = .v (.int .i64 i) ∧ H = [some (mapI (keysB (g.take i)))]) g.length ⟨_, _, Ghost.refl, 0, rfl, by omega, rfl, rfl, rfl, rfl, rfl⟩ ?_
  rintro k T H ⟨i, rfl, hi, h3, h7, h8, h9, rfl⟩
  refine HW.run 200 (by kernel_rfl) ?_
  by_cases hlt : i < g.length
  · have hlt' : ((i : Int) < (g.length : Int)) = True := by rw [int_lt]; simp [hlt]
    have hx : g[i]? = some g[i] := List.getElem?_eq_getElem hlt
    have htk : g.take (i + 1) = g.take i ++ [g[i]] := by rw [List.take_add_one, hx]; rfl
    generalize g[i] = x at hx htk
    have hle := getM_keysB_le (g.take i) x
    rw [List.length_take] at hle
    have hw : IntKind.i64.wrap (getM (keysB (g.take i)) x + 1) = getM (keysB (g.take i)) x + 1 := w64 (by omega) (by omega)
    simp (config := { decide := true }) only [go_sem, Int.reduceToNat, Nat.reduceAdd, Nat.reduceSub, Nat.reduceMul, Nat.reduceBEq, reduceIte, reduceCtorEq, h3, h7, h8, h9, hlt', hx, hw]
    refine ⟨_, _, Ghost.refl, g.length - (i + 1), by omega, i + 1, rfl, by omega, ?_, ?_, ?_, ?_, ?_⟩
    iterate 3 simp (config := { decide := true }) only [go_sem, Nat.reduceBEq, reduceIte, h3, h7, h8]
    · simp (config := { decide := true }) only [go_sem, Nat.reduceBEq, reduceIte]; rw [w64 (by omega) (by omega)]; rfl
    · rw [htk, keysB_snoc]
  · have hlt' : ((i : Int) < (g.length : Int)) = False := by rw [int_lt]; simp [hlt]
    have htk : g.take i = g := List.take_of_length_le (by omega)
    simp (config := { decide := true }) only [go_sem, Int.reduceToNat, Nat.reduceAdd, Nat.reduceSub, Nat.reduceMul, Nat.reduceBEq, reduceIte, reduceCtorEq, h3, h7, h8, h9, hlt', htk]
    exact ⟨rfl, rfl⟩
theorem slotsKeys (g : List Int) (hg : g.length ≤ 100000) : HFn Try.prog 63 [.sl (ints g)] (owMap (keysB g)) := by
  refine HCalls_body (fn := Try.f63) 19 [2] (by kernel_rfl) rfl (by kernel_rfl) (HW.run 400 (by kernel_rfl) ?_)
  simp (config := { decide := true }) only [go_sem, Int.reduceToNat, Nat.reduceAdd, Nat.reduceSub, Nat.reduceMul, Nat.reduceBEq, reduceIte, reduceCtorEq]
  refine HW.loopG (fun k T H => ∃ i : Nat, k = g.length - i ∧ i ≤ g.length ∧ T 3 = .mp 0 ∧ T 7 = .sl (ints g) ∧ T 8 = .v (.int .i64 g.length) ∧ T 9 = .v (.int .i64 i) ∧ H = [some (mapI (keysB (g.take i)))]) g.length ⟨_, _, Ghost.refl, 0, rfl, by omega, rfl, rfl, rfl, rfl, rfl⟩ ?_
  rintro k T H ⟨i, rfl, hi, h3, h7, h8, h9, rfl⟩
  refine HW.run 200 (by kernel_rfl) ?_
  by_cases hlt : i < g.length
  · have hlt' : ((i : Int) < (g.length : Int)) = True := by rw [int_lt]; simp [hlt]
    have hx : g[i]? = some g[i] := List.getElem?_eq_getElem hlt
    have htk : g.take (i + 1) = g.take i ++ [g[i]] := by rw [List.take_add_one, hx]; rfl
    generalize g[i] = x at hx htk
    have hle := getM_keysB_le (g.take i) x
    rw [List.length_take] at hle
    have hw : IntKind.i64.wrap (getM (keysB (g.take i)) x + 1) = getM (keysB (g.take i)) x + 1 := w64 (by omega) (by omega)
    simp (config := { decide := true }) only [go_sem, Int.reduceToNat, Nat.reduceAdd, Nat.reduceSub, Nat.reduceMul, Nat.reduceBEq, reduceIte, reduceCtorEq, h3, h7, h8, h9, hlt', hx, hw]
    refine ⟨_, _, Ghost.refl, g.length - (i + 1), by omega, i + 1, rfl, by omega, ?_, ?_, ?_, ?_, ?_⟩
    iterate 3 simp (config := { decide := true }) only [go_sem, Nat.reduceBEq, reduceIte, h3, h7, h8]
    · simp (config := { decide := true }) only [go_sem, Nat.reduceBEq, reduceIte]; rw [w64 (by omega) (by omega)]; rfl
    · rw [htk, keysB_snoc]
  · have hlt' : ((i : Int) < (g.length : Int)) = False := by rw [int_lt]; simp [hlt]
    have htk : g.take i = g := List.take_of_length_le (by omega)
    simp (config := { decide := true }) only [go_sem, Int.reduceToNat, Nat.reduceAdd, Nat.reduceSub, Nat.reduceMul, Nat.reduceBEq, reduceIte, reduceCtorEq, h3, h7, h8, h9, hlt', htk]
    exact ⟨rfl, rfl⟩
end Go.Proofs.Yteieinhgdjjdoaa
namespace Go.Proofs.Yteieinhgdjjdoaa
open Go.RowKit
section
variable {α : Type} [DecidableEq α]
theorem getM_setM' (kv : List (α × Int)) (k : α) (v : Int) (j : α) : getM (setM kv k v) j = if j = k then v else getM kv j := by
  induction kv with
  | nil =>
    simp only [setM, getM, List.find?_cons, List.find?_nil]
    by_cases h : j = k <;> simp [h]
  | cons e r ih =>
    unfold setM
    by_cases h : k = e.1
    · rw [if_pos h]
      simp only [getM, List.find?_cons]
      by_cases h2 : j = k
      · simp [h2]
      · simp [h2, h ▸ h2]
    · rw [if_neg h]
      simp only [getM, List.find?_cons] at ih ⊢
      by_cases h2 : j = e.1
      · have : j ≠ k := fun e' => h (by rw [← e', h2])
        simp [h2, h2 ▸ this]
      · simp only [h2, decide_false] at ih ⊢
        exact ih
def foldC (kv : List (α × Int)) (l : List α) : List (α × Int) := l.foldl (fun kv n => setM kv n (getM kv n + 1)) kv
theorem foldC_cons (kv : List (α × Int)) (x : α) (l : List α) : foldC kv (x :: l) = foldC (setM kv x (getM kv x + 1)) l := rfl
theorem getM_foldC (n : α) : ∀ (g : List α) (kv : List (α × Int)), getM (foldC kv g) n = getM kv n + ((g.filter fun x => decide (x = n)).length : Int)
  | [], kv => by simp [foldC]
  | x :: g, kv => by
    rw [foldC_cons, getM_foldC n g, getM_setM']
    by_cases h : n = x
    · subst h; simp; omega
    · simp [h, Ne.symm h]
theorem getM_entM (kv : List (α × Int)) (k j : α) : getM (entM kv k) j = getM kv j := by
  unfold entM
  split
  · rfl
  · rename_i h
    unfold getM
    rw [List.find?_append]
    cases hf : kv.find? (fun e => decide (j = e.1)) with
    | some e => rfl
    | none =>
      simp only [List.find?_cons, List.find?_nil, Option.none_or]
      by_cases hj : j = k <;> simp [hj]
variable {kf : α → Value} (hk : ∀ x y, keq (kf x) (kf y) = some (decide (x = y)))
theorem findI_idx (k : α) : ∀ (kv : List (α × Int)) (i : Nat), findI k kv i = if inM kv k = true then some (i + idxM kv k, .int .i64 (getM kv k)) else none
  | [], i => by simp [findI, inM]
  | e :: r, i => by
    have ih := findI_idx k r (i + 1)
    by_cases h : k = e.1
    · have h1 : inM (e :: r) k = true := by simp [inM, h]
      have h2 : idxM (e :: r) k = 0 := by simp [idxM, List.findIdx_cons, h]
      have h3 : getM (e :: r) k = e.2 := by simp [getM, h]
      rw [h1, h2, h3]
      simp [findI, h]
    · have h1 : inM (e :: r) k = inM r k := by simp [inM, h]
      have h2 : idxM (e :: r) k = idxM r k + 1 := by simp [idxM, List.findIdx_cons, h]
      have h3 : getM (e :: r) k = getM r k := by simp [getM, List.find?_cons, h]
      rw [h1, h2, h3]
      simp only [findI, if_neg h]
      rw [ih, show i + 1 + idxM r k = i + (idxM r k + 1) by omega]
theorem idxM_lt {kv : List (α × Int)} {k : α} (h : inM kv k = true) : idxM kv k < kv.length := by
  unfold idxM inM at *
  exact List.findIdx_lt_length_of_exists (by simpa [List.any_eq_true] using h)
theorem idxM_no {kv : List (α × Int)} {k : α} (h : inM kv k = false) : idxM kv k = kv.length := by
  unfold idxM inM at *
  refine List.findIdx_eq_length.2 fun x hx => ?_
  have := List.any_eq_false.1 h x hx
  simpa using this
theorem esL_born : ∀ (kv : List (α × Int)) (n i : Nat), i < kv.length → ((esL kf n kv)[i]?).map (·.born) = some (n + i)
  | [], n, i, h => by simp at h
  | e :: r, n, 0, h => by simp [esL]
  | e :: r, n, i + 1, h => by
    simp only [esL, List.getElem?_cons_succ]
    rw [esL_born r (n + 1) i (by simpa using h)]
    congr 1; omega
theorem esL_modify_key (k : α) : ∀ (kv : List (α × Int)) (n i : Nat), (kv[i]?).map (·.1) = some k → (esL kf n kv).modify i (fun e => { e with key := kf k }) = esL kf n kv
  | [], n, i, h => by simp at h
  | e :: r, n, 0, h => by
    simp only [List.getElem?_cons_zero, Option.map_some, Option.some.injEq] at h
    simp [esL, h]
  | e :: r, n, i + 1, h => by
    simp only [List.getElem?_cons_succ] at h
    simp only [esL, List.modify_succ_cons]
    rw [esL_modify_key k r (n + 1) i h]
theorem idxM_key {kv : List (α × Int)} {k : α} (h : inM kv k = true) : (kv[idxM kv k]?).map (·.1) = some k := by
  have hl := idxM_lt h
  have := List.findIdx_getElem (w := (hl : kv.findIdx (fun e => decide (k = e.1)) < kv.length))
  rw [List.getElem?_eq_getElem hl]
  simp only [decide_eq_true_eq] at this
  simp only [Option.map_some, Option.some.injEq]
  exact this.symm
include hk
theorem entO_esG (k : α) (kv : List (α × Int)) : entO (esG kf kv) kv.length (kf k) (.int .i64 0) = some (.int .i64 (getM kv k), idxM kv k, mapG kf (entM kv k)) := by
  unfold entO
  have e : (esG kf kv).toList = esL kf 0 kv := by unfold esG; rw [List.toList_toArray]
  rw [e, findV_esL hk, findI_idx]
  cases h : inM kv k with
  | true =>
    simp only [if_true, Option.map_some, entV, entE, Nat.zero_add, entM, h]
    have h1 : ((esG kf kv)[idxM kv k]?).map (·.born) = some (idxM kv k) := by
      rw [← Array.getElem?_toList, e, esL_born kv 0 _ (idxM_lt h), Nat.zero_add]
    rw [h1]
    have h2 : (esG kf kv).modify (idxM kv k) (fun e => { e with key := kf k }) = esG kf kv := by
      apply Array.ext'
      rw [Array.toList_modify, e, esL_modify_key k kv 0 _ (idxM_key h)]
    rw [h2]; rfl
  | false =>
    have hg : getM kv k = 0 := by
      unfold getM
      rw [List.find?_eq_none.2 fun x hx => by
        have := List.any_eq_false.1 h x hx
        simpa using this]
      rfl
    simp only [Bool.false_eq_true, if_false, Option.map_some, Option.map_none, entV, entE, entM, h, hg, idxM_no h]
    have : (esG kf kv).push ⟨kf k, .int .i64 0, kv.length⟩ = esG kf (kv ++ [(k, 0)]) := by
      apply Array.ext'
      simp [esG, esL_append, esL]
    rw [this]
    unfold mapG
    simp
omit hk
theorem esL_find : ∀ (kv : List (α × Int)) (n i : Nat), i < kv.length → (esL kf n kv).findIdx? (fun e => ((e.born : Int) == ((n + i : Nat) : Int))) = some i
  | [], n, i, h => by simp at h
  | e :: r, n, 0, h => by simp [esL, List.findIdx?_cons]
  | e :: r, n, i + 1, h => by
    simp only [esL, List.findIdx?_cons]
    have : ((n : Int) == ((n + (i + 1) : Nat) : Int)) = false := by
      rw [beq_eq_false_iff_ne]; omega
    rw [this]
    have ih := esL_find r (n + 1) i (by simpa using h)
    rw [show n + 1 + i = n + (i + 1) by omega] at ih
    simp only [Bool.false_eq_true, if_false]
    rw [ih]; rfl
theorem esL_store (k : α) (v : Int) : ∀ (kv : List (α × Int)) (n : Nat), inM kv k = true → (esL kf n kv).modify (idxM kv k) (fun e => { e with val := .int .i64 v }) = esL kf n (setM kv k v)
  | [], n, h => by simp [inM] at h
  | e :: r, n, h => by
    unfold setM
    by_cases he : k = e.1
    · have : idxM (e :: r) k = 0 := by unfold idxM; simp [List.findIdx_cons, he]
      rw [this, if_pos he]
      simp [esL, he]
    · have : idxM (e :: r) k = idxM r k + 1 := by unfold idxM; simp [List.findIdx_cons, he]
      rw [this, if_neg he]
      simp only [esL, List.modify_succ_cons]
      rw [esL_store k v r (n + 1) (by simpa [inM, he] using h)]
theorem setM_len {k : α} {v : Int} : ∀ {kv : List (α × Int)}, inM kv k = true → (setM kv k v).length = kv.length
  | [], h => by simp [inM] at h
  | e :: r, h => by
    unfold setM
    by_cases he : k = e.1
    · rw [if_pos he]; simp
    · rw [if_neg he]
      simp only [List.length_cons]
      rw [setM_len (by simpa [inM, he] using h)]
theorem inM_entM (kv : List (α × Int)) (k : α) : inM (entM kv k) k = true := by
  unfold entM
  split
  · assumption
  · simp [inM]
theorem idxM_entM (kv : List (α × Int)) (k : α) : idxM (entM kv k) k = idxM kv k := by
  unfold entM
  split
  · rfl
  · rename_i h
    have h : inM kv k = false := by simpa using h
    rw [idxM_no h]
    unfold idxM
    rw [List.findIdx_append]
    have h1 : kv.findIdx (fun e => decide (k = e.1)) = kv.length := idxM_no h
    rw [h1, if_neg (by omega)]
    simp
theorem setM_entM (kv : List (α × Int)) (k : α) (v : Int) : setM (entM kv k) k v = setM kv k v := by
  unfold entM
  split
  · rfl
  · rename_i h
    have h : inM kv k = false := by simpa using h
    induction kv with
    | nil => simp [setM]
    | cons e r ih =>
      simp only [inM, List.any_cons, Bool.or_eq_false_iff, decide_eq_false_iff_not] at h
      simp only [List.cons_append, setM, if_neg h.1]
      rw [ih (by unfold inM; rw [h.2]; simp) h.2]
theorem stoO_esG (k : α) (v : Int) (kv : List (α × Int)) : stoO (esG kf (entM kv k)) (entM kv k).length ((idxM kv k : Nat) : Int) (.int .i64 v) = some (mapG kf (setM kv k v)) := by
  unfold stoO
  rw [← idxM_entM kv k, ← setM_entM kv k]
  have hin := inM_entM kv k
  generalize entM kv k = m at hin
  have e : (esG kf m).toList = esL kf 0 m := by unfold esG; rw [List.toList_toArray]
  have h1 := esL_find (kf := kf) m 0 (idxM m k) (idxM_lt hin)
  rw [Nat.zero_add] at h1
  have h3 : (esG kf m).findIdx? (fun e => ((e.born : Int) == ((idxM m k : Nat) : Int))) = some (idxM m k) := by
    rw [← h1, ← e]
    obtain ⟨l⟩ := esG kf m
    simp
  rw [h3]
  simp only [Option.map_some, Option.some.injEq]
  unfold mapG
  rw [setM_len hin]
  have h2 : (esG kf m).modify (idxM m k) (fun e => { e with val := .int .i64 v }) = esG kf (setM m k v) := by
    apply Array.ext'
    rw [Array.toList_modify, e, esL_store k v m 0 hin]; simp [esG]
  rw [h2]
end
theorem entO_P {kv : List ((Int × Int) × Int)} {a b : Int} : entO (esG kP kv) kv.length (.agg #[.int .i64 a, .int .i64 b]) (.int .i64 0) = some (.int .i64 (getM kv (a, b)), idxM kv (a, b), mapP (entM kv (a, b))) := entO_esG (kf := kP) (fun _ _ => keq_ag2) (a, b) kv
theorem entO_I {kv : List (Int × Int)} {a : Int} : entO (esG kI kv) kv.length (.int .i64 a) (.int .i64 0) = some (.int .i64 (getM kv a), idxM kv a, mapI (entM kv a)) := entO_esG (kf := kI) (fun _ _ => keq_int) a kv
theorem stoO_P {kv : List ((Int × Int) × Int)} {k : Int × Int} {v : Int} : stoO (esG kP (entM kv k)) (entM kv k).length ((idxM kv k : Nat) : Int) (.int .i64 v) = some (mapP (setM kv k v)) := stoO_esG k v kv
theorem stoO_I {kv : List (Int × Int)} {k : Int} {v : Int} : stoO (esG kI (entM kv k)) (entM kv k).length ((idxM kv k : Nat) : Int) (.int .i64 v) = some (mapI (setM kv k v)) := stoO_esG k v kv
theorem getM_entP {kv : List ((Int × Int) × Int)} {k j : Int × Int} : getM (entM kv k) j = getM kv j := getM_entM kv k j
theorem getM_entI {kv : List (Int × Int)} {k j : Int} : getM (entM kv k) j = getM kv j := getM_entM kv k j
theorem nmR_mapI {kv : List (Int × Int)} {m : Nat} : nmR m (mapI kv).rows = true := rfl
theorem nmR_mapP {kv : List ((Int × Int) × Int)} {m : Nat} : nmR m (mapP kv).rows = true := rfl
attribute [go_sem] nmR_mapI nmR_mapP entO_P entO_I stoO_P stoO_I getM_entP getM_entI
end Go.Proofs.Yteieinhgdjjdoaa
