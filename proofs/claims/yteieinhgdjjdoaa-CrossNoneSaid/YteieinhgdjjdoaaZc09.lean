/- Parts of the proof: Sf, Pa, Sg, Sh, Si, Sj, Sk, Sl, Sm, Sn, So, Sp, Sq, Dc, HiMp, Cm, HiMq, HiDg. -/
import Derived.Test.YteieinhgdjjdoaaZc08
import Derived.Test.YteieinhgdjjdoaaZc07
import Derived.Test.YteieinhgdjjdoaaZc05
import Derived.Test.YteieinhgdjjdoaaZc06
set_option linter.unusedSectionVars false
namespace Go.Proofs.Yteieinhgdjjdoaa
open Go.RowKit
set_option linter.unusedVariables false
set_option linter.unusedSimpArgs false
set_option maxRecDepth 8000
theorem setTh_nat {s : Sta} {t : Nat} {mem : List Int} {y : Thd} : setTh s (t : Int) mem y = ⟨mem, s.ths.set t y⟩ := by unfold setTh; rw [Int.toNat_natCast]
set_option maxHeartbeats 8000000 in
theorem refStepW (p : Prg) (s : Sta) (k : Pck) (hp : RightP p) (hs : RightS p s) (hb : ∀ t ∈ s.ths, t.buf.length ≤ 100000) : HFn Try.prog 36 [prgH p, staH s, pckH k] (.tu [staH (stepW p s k).1, .v (.bool (stepW p s k).2)]) := by
  refine HFn_bodyF (fn := Try.f36) 5 180 [.cell 6 38, .tmp 7] (by kernel_rfl) rfl rfl (by kernel_rfl) (HW.run 400 (by kernel_rfl) ?_)
  obtain ⟨th, dr⟩ := k
  have hml : s.mem.length ≤ 100000 := by have := hs.mem; have := hp.init; omega
  have htl : s.ths.length ≤ 1000 := by have := hs.ths; have := hp.thr; omega
  have hrl : ∀ t ∈ s.ths, t.regs.length ≤ 100000 ∧ t.buf.length ≤ 100000 := fun t ht => by
    obtain ⟨i, hi⟩ := List.getElem?_of_mem ht
    have hlt := (List.getElem?_eq_some_iff.1 hi).1
    have := (hs.t i _ t (List.getElem?_eq_getElem (show i < p.thr.length by rw [← hs.ths]; exact hlt)) hi).regs
    exact ⟨by omega, hb t ht⟩
  simp (config := { decide := true }) only [go_sem, Int.reduceToNat, Nat.reduceAdd, Nat.reduceSub, Nat.reduceMul, Nat.reduceBEq, reduceIte, reduceCtorEq]
  refine callX_fn 3 (refOwn s hml htl hrl) (by simp only [go_sem]) (by simp only [go_sem]) ?_
  by_cases c1 : 0 ≤ th
  case neg =>
    have c1' : (th < 0) = True := by simp only [eq_iff_iff, iff_true]; omega
    have e : stepW p s ⟨th, dr⟩ = (s, false) := if_pos (fun h => c1 h.1)
    rw [e]
    simp (config := { decide := true }) only [go_sem, Int.reduceToNat, Nat.reduceAdd, Nat.reduceSub, Nat.reduceMul, Nat.reduceBEq, reduceIte, reduceCtorEq, c1']
  have c1' : (th < 0) = False := by simp only [eq_iff_iff, iff_false]; omega
  by_cases c2 : th < s.ths.length
  case neg =>
    have c2' : ((s.ths.length : Int) ≤ th) = True := by simp only [eq_iff_iff, iff_true]; omega
    have e : stepW p s ⟨th, dr⟩ = (s, false) := if_pos (fun h => c2 h.2)
    rw [e]
    simp (config := { decide := true }) only [go_sem, Int.reduceToNat, Nat.reduceAdd, Nat.reduceSub, Nat.reduceMul, Nat.reduceBEq, reduceIte, reduceCtorEq, c1', c2']
  have c2' : ((s.ths.length : Int) ≤ th) = False := by simp only [eq_iff_iff, iff_false]; omega
  obtain ⟨t, rfl⟩ : ∃ t : Nat, th = t := ⟨th.toNat, by omega⟩
  have ht : t < s.ths.length := by omega
  have hx : s.ths[t]? = some s.ths[t] := List.getElem?_eq_getElem ht
  have htA : thAt s (t : Int) = s.ths[t] := by unfold thAt; rw [Int.toNat_natCast, hx]; rfl
  have hc2 : ((t : Int) < (s.ths.length : Int)) = True := by rw [int_lt]; simp [ht]
  have hyp : s.ths[t] ∈ s.ths := List.getElem_mem ht
  obtain ⟨hyr, hyb⟩ := hrl _ hyp
  have hst : ∀ X, ((thdsO s.ths).set t X)[t]? = some X := set_get (by rw [thdsO_length]; exact ht)
  have hlv : (s.ths.length == s.ths.length && s.ths.length != 0) = true := by
    rw [Bool.and_eq_true]
    exact ⟨beq_self_eq_true _, by simp only [bne_iff_ne]; omega⟩
  cases dr with
  | true =>
    have e : stepW p s ⟨t, true⟩ = if (drainB (s.ths[t]).buf s.mem).2.2 = true then (setTh s t (drainB (s.ths[t]).buf s.mem).2.1 { s.ths[t] with buf := (drainB (s.ths[t]).buf s.mem).1 }, true) else (s, false) := by
      unfold stepW
      rw [if_neg (fun h => h ⟨c1, c2⟩), if_pos rfl, htA]
    rw [e]
    generalize s.ths[t] = y at hx hyb
    simp (config := { decide := true }) only [go_sem, Int.reduceToNat, Nat.reduceAdd, Nat.reduceSub, Nat.reduceMul, Nat.reduceBEq, reduceIte, reduceCtorEq, c1', c2']
    refine HW.quiet 80 follows (by kernel_rfl) ?_
    simp (config := { decide := true }) only [go_sem, Int.reduceToNat, Nat.reduceAdd, Nat.reduceSub, Nat.reduceMul, Nat.reduceBEq, reduceIte, reduceCtorEq, hx, hc2]
    refine callQ_nm (refDrain y.buf s.mem (by omega) (by omega)) rfl rfl ?_
    cases hd : (drainB y.buf s.mem).2.2 with
    | false =>
      rw [if_neg (by simp)]
      simp (config := { decide := true }) only [go_sem, Int.reduceToNat, Nat.reduceAdd, Nat.reduceSub, Nat.reduceMul, Nat.reduceBEq, reduceIte, reduceCtorEq, hx, hc2, hd]
    | true =>
      rw [if_pos rfl, setTh_nat]
      simp (config := { decide := true }) only [go_sem, Int.reduceToNat, Nat.reduceAdd, Nat.reduceSub, Nat.reduceMul, Nat.reduceBEq, reduceIte, reduceCtorEq, hx, hc2, hd, List.map_set, hst, hlv]
  | false =>
    simp (config := { decide := true }) only [go_sem, Int.reduceToNat, Nat.reduceAdd, Nat.reduceSub, Nat.reduceMul, Nat.reduceBEq, reduceIte, reduceCtorEq, c1', c2']
    refine callX_fn 3 (refAt p s t hp hs) (by simp only [go_sem]) rfl ?_
    cases ha : atS p s (t : Int) with
    | none =>
      have e : stepW p s ⟨t, false⟩ = (s, false) := by
        unfold stepW
        rw [if_neg (fun h => h ⟨c1, c2⟩), if_neg (by simp)]
        simp only [ha]
      rw [e]
      simp (config := { decide := true }) only [go_sem, Int.reduceToNat, Nat.reduceAdd, Nat.reduceSub, Nat.reduceMul, Nat.reduceBEq, reduceIte, reduceCtorEq, c1', c2', hx, hc2]
    | some x =>
      obtain ⟨_, _, c3⟩ := atS_some ha
      rw [htA] at c3
      have hpt : p.thr[t]? = some (p.thr[t]'(by have := hs.ths; omega)) := List.getElem?_eq_getElem (by have := hs.ths; omega)
      obtain ⟨q1, q2, q3⟩ := hs.t t _ _ hpt hx
      rw [Int.toNat_natCast, hpt, Option.getD_some] at c3
      have hR := hp.x t _ hpt _ _ c3
      have hS := refStepS p s t hp hs hb
      rw [atS_step ha, htA] at hS
      simp only [setTh_nat] at hS
      have hW : stepW p s ⟨t, false⟩ = if (s.ths[t]).buf ≠ [] ∧ (x.op = 6 ∨ x.op = 5) then (s, false)
        else if x.op = 2 then (setTh s t s.mem { (thStep x s.mem s.ths[t]).2 with regs := setI (s.ths[t]).regs x.reg (viewB (s.ths[t]).buf s.mem x.loc).1 }, true)
        else if x.op = 3 then (setTh s t s.mem { (thStep x s.mem s.ths[t]).2 with buf := (s.ths[t]).buf ++ [(x.loc, getI (s.ths[t]).regs x.reg)] }, true)
        else if x.op = 4 then (setTh s t s.mem { (thStep x s.mem s.ths[t]).2 with buf := (s.ths[t]).buf ++ [(x.loc, x.n)] }, true)
        else (setTh s t (thStep x s.mem s.ths[t]).1 (thStep x s.mem s.ths[t]).2, true) := by
        unfold stepW
        rw [if_neg (fun h => h ⟨c1, c2⟩), if_neg (by simp)]
        simp only [ha, htA]
      rw [hW]
      generalize s.ths[t] = y at hx hyr hyb hS c3 q1 q2 q3
      simp only [setTh_nat]
      have r1 : (0 ≤ x.reg) = True := by simp only [eq_iff_iff, iff_true]; exact hR.reg.1
      have r2 : (x.reg < (y.regs.length : Int)) = True := by have := hR.reg.2.1; simp only [eq_iff_iff, iff_true]; omega
      have r3 : y.regs[x.reg.toNat]? = some (getI y.regs x.reg) := by
        have : x.reg.toNat < y.regs.length := by have := hR.reg; omega
        unfold getI; rw [List.getElem?_eq_getElem this]; rfl
      have hin := hp.init
      have hmm := hs.mem
      have hop : x.op = 1 ∨ x.op = 2 ∨ x.op = 3 ∨ x.op = 4 ∨ x.op = 5 ∨ x.op = 6 ∨ x.op = 7 ∨ x.op = 8 ∨ x.op = 9 ∨ x.op = 10 := by have := hR.op; omega
      have locs : hasL x.op = true → (0 ≤ x.loc) = True ∧ (x.loc < (s.mem.length : Int)) = True ∧ s.mem[x.loc.toNat]? = some (getI s.mem x.loc) := fun h => by
        obtain ⟨k1, k2⟩ := hR.loc.1 h
        refine ⟨by simp [k1], by simp only [eq_iff_iff, iff_true]; omega, ?_⟩
        have : x.loc.toNat < s.mem.length := by omega
        unfold getI; rw [List.getElem?_eq_getElem this]; rfl
      clear hR
      generalize hm' : (thStep x s.mem y).1 = m' at hS ⊢
      have hst2 : ∀ (z : Thd) X, ((thdsO (s.ths.set t z)).set t X)[t]? = some X := fun z => set_get (by rw [thdsO_length, List.length_set]; exact ht)
      have hx2 : ∀ z : Thd, (s.ths.set t z)[t]? = some z := fun z => by simp [ht]
      have hsr : ∀ a : Int, (y.regs.set x.reg.toNat a)[x.reg.toNat]? = some a := fun a => by
        have : x.reg.toNat < y.regs.length := (List.getElem?_eq_some_iff.1 r3).1
        simp [this]
      by_cases hbe : y.buf = []
      · have b0 : ((0 : Int) < (y.buf.length : Int)) = False := by rw [hbe]; simp
        rw [if_neg (fun h => h.1 hbe)]
        rcases hop with h | h | h | h | h | h | h | h | h | h
        · simp (config := { decide := true }) only [go_sem, Int.reduceToNat, Nat.reduceAdd, Nat.reduceSub, Nat.reduceMul, Nat.reduceBEq, reduceIte, reduceCtorEq, c1', c2', hx, hc2, b0, h, hlv, hst2, hx2, List.map_set, List.set_set, hsr, r1, r2, r3]
          refine callX_fn 3 (hS) (by simp only [go_sem]) (by simp only [go_sem]) ?_
          simp (config := { decide := true }) only [go_sem, Int.reduceToNat, Nat.reduceAdd, Nat.reduceSub, Nat.reduceMul, Nat.reduceBEq, reduceIte, reduceCtorEq, c1', c2', hx, hc2, b0, h, hlv, hst2, hx2, List.map_set, List.set_set, hsr, r1, r2, r3]
        · obtain ⟨m1, m2, m3⟩ := locs (by rw [h]; rfl)
          have hj : jumpsB x y.eq = false := by simp [jumpsB, h]
          obtain rfl : s.mem = m' := by rw [← hm']; simp [thStep, h, hj]
          have ez : (thStep x s.mem y).2 = { y with pc := y.pc + 1, regs := setI y.regs x.reg (getI s.mem x.loc) } := by simp [thStep, h, hj]
          rw [ez] at hS
          simp only [ez]
          simp (config := { decide := true }) only [go_sem, Int.reduceToNat, Nat.reduceAdd, Nat.reduceSub, Nat.reduceMul, Nat.reduceBEq, reduceIte, reduceCtorEq, c1', c2', hx, hc2, b0, h, hlv, hst2, hx2, List.map_set, List.set_set, hsr, r1, r2, r3, m1, m2, m3]
          refine callX_fn 3 (hS) (by simp only [go_sem]) (by simp only [go_sem]) ?_
          simp (config := { decide := true }) only [go_sem, Int.reduceToNat, Nat.reduceAdd, Nat.reduceSub, Nat.reduceMul, Nat.reduceBEq, reduceIte, reduceCtorEq, c1', c2', hx, hc2, b0, h, hlv, hst2, hx2, List.map_set, List.set_set, hsr, r1, r2, r3, m1, m2, m3]
          refine HW.quiet 80 follows (by kernel_rfl) ?_
          simp (config := { decide := true }) only [go_sem, Int.reduceToNat, Nat.reduceAdd, Nat.reduceSub, Nat.reduceMul, Nat.reduceBEq, reduceIte, reduceCtorEq, c1', c2', hx, hc2, b0, h, hlv, hst2, hx2, List.map_set, List.set_set, hsr, r1, r2, r3, m1, m2, m3, setI]
          refine callQ_fn 3 (refView y.buf s.mem x.loc (by omega)) (by simp only [go_sem]) rfl rfl ?_
          simp (config := { decide := true }) only [go_sem, Int.reduceToNat, Nat.reduceAdd, Nat.reduceSub, Nat.reduceMul, Nat.reduceBEq, reduceIte, reduceCtorEq, c1', c2', hx, hc2, b0, h, hlv, hst2, hx2, List.map_set, List.set_set, hsr, r1, r2, r3, m1, m2, m3, setI]
          refine HW.ghost (Ghost.open 9 t 1) ?_
          simp (config := { decide := true }) only [go_sem, Int.reduceToNat, Nat.reduceAdd, Nat.reduceSub, Nat.reduceMul, Nat.reduceBEq, reduceIte, reduceCtorEq, c1', c2', hx, hc2, b0, h, hlv, hst2, hx2, List.map_set, List.set_set, hsr, r1, r2, r3, m1, m2, m3, setI]
          refine HW.mixed 80 10 (12, 0) [] follows (by kernel_rfl) (by decide) ?_
          simp (config := { decide := true }) only [go_sem, Int.reduceToNat, Nat.reduceAdd, Nat.reduceSub, Nat.reduceMul, Nat.reduceBEq, reduceIte, reduceCtorEq, c1', c2', hx, hc2, b0, h, hlv, hst2, hx2, List.map_set, List.set_set, hsr, r1, r2, r3, m1, m2, m3, setI]
        · obtain ⟨m1, m2, m3⟩ := locs (by rw [h]; rfl)
          have hj : jumpsB x y.eq = false := by simp [jumpsB, h]
          have ez : (thStep x s.mem y).2 = { y with pc := y.pc + 1 } := by simp [thStep, h, hj]
          rw [ez] at hS
          simp only [ez]
          simp (config := { decide := true }) only [go_sem, Int.reduceToNat, Nat.reduceAdd, Nat.reduceSub, Nat.reduceMul, Nat.reduceBEq, reduceIte, reduceCtorEq, c1', c2', hx, hc2, b0, h, hlv, hst2, hx2, List.map_set, List.set_set, hsr, r1, r2, r3, m1, m2, m3]
          refine callX_fn 3 (hS) (by simp only [go_sem]) (by simp only [go_sem]) ?_
          simp (config := { decide := true }) only [go_sem, Int.reduceToNat, Nat.reduceAdd, Nat.reduceSub, Nat.reduceMul, Nat.reduceBEq, reduceIte, reduceCtorEq, c1', c2', hx, hc2, b0, h, hlv, hst2, hx2, List.map_set, List.set_set, hsr, r1, r2, r3, m1, m2, m3]
          refine HW.mixed 100 25 (11, 0) [] follows (by kernel_rfl) (by decide) ?_
          simp (config := { decide := true }) only [go_sem, Int.reduceToNat, Nat.reduceAdd, Nat.reduceSub, Nat.reduceMul, Nat.reduceBEq, reduceIte, reduceCtorEq, c1', c2', hx, hc2, b0, h, hlv, hst2, hx2, List.map_set, List.set_set, hsr, r1, r2, r3, m1, m2, m3]
          refine callN_nm (refPush y.buf x.loc (getI y.regs x.reg) (by omega)) rfl rfl ?_
          simp (config := { decide := true }) only [go_sem, Int.reduceToNat, Nat.reduceAdd, Nat.reduceSub, Nat.reduceMul, Nat.reduceBEq, reduceIte, reduceCtorEq, c1', c2', hx, hc2, b0, h, hlv, hst2, hx2, List.map_set, List.set_set, hsr, r1, r2, r3, m1, m2, m3]
        · obtain ⟨m1, m2, m3⟩ := locs (by rw [h]; rfl)
          have hj : jumpsB x y.eq = false := by simp [jumpsB, h]
          have ez : (thStep x s.mem y).2 = { y with pc := y.pc + 1 } := by simp [thStep, h, hj]
          rw [ez] at hS
          simp only [ez]
          simp (config := { decide := true }) only [go_sem, Int.reduceToNat, Nat.reduceAdd, Nat.reduceSub, Nat.reduceMul, Nat.reduceBEq, reduceIte, reduceCtorEq, c1', c2', hx, hc2, b0, h, hlv, hst2, hx2, List.map_set, List.set_set, hsr, r1, r2, r3, m1, m2, m3]
          refine callX_fn 3 (hS) (by simp only [go_sem]) (by simp only [go_sem]) ?_
          simp (config := { decide := true }) only [go_sem, Int.reduceToNat, Nat.reduceAdd, Nat.reduceSub, Nat.reduceMul, Nat.reduceBEq, reduceIte, reduceCtorEq, c1', c2', hx, hc2, b0, h, hlv, hst2, hx2, List.map_set, List.set_set, hsr, r1, r2, r3, m1, m2, m3]
          refine HW.mixed 100 17 (11, 0) [] follows (by kernel_rfl) (by decide) ?_
          simp (config := { decide := true }) only [go_sem, Int.reduceToNat, Nat.reduceAdd, Nat.reduceSub, Nat.reduceMul, Nat.reduceBEq, reduceIte, reduceCtorEq, c1', c2', hx, hc2, b0, h, hlv, hst2, hx2, List.map_set, List.set_set, hsr, r1, r2, r3, m1, m2, m3]
          refine callN_nm (refPush y.buf x.loc x.n (by omega)) rfl rfl ?_
          simp (config := { decide := true }) only [go_sem, Int.reduceToNat, Nat.reduceAdd, Nat.reduceSub, Nat.reduceMul, Nat.reduceBEq, reduceIte, reduceCtorEq, c1', c2', hx, hc2, b0, h, hlv, hst2, hx2, List.map_set, List.set_set, hsr, r1, r2, r3, m1, m2, m3]
        · simp (config := { decide := true }) only [go_sem, Int.reduceToNat, Nat.reduceAdd, Nat.reduceSub, Nat.reduceMul, Nat.reduceBEq, reduceIte, reduceCtorEq, c1', c2', hx, hc2, b0, h, hlv, hst2, hx2, List.map_set, List.set_set, hsr, r1, r2, r3]
          refine callX_fn 3 (hS) (by simp only [go_sem]) (by simp only [go_sem]) ?_
          simp (config := { decide := true }) only [go_sem, Int.reduceToNat, Nat.reduceAdd, Nat.reduceSub, Nat.reduceMul, Nat.reduceBEq, reduceIte, reduceCtorEq, c1', c2', hx, hc2, b0, h, hlv, hst2, hx2, List.map_set, List.set_set, hsr, r1, r2, r3]
        · simp (config := { decide := true }) only [go_sem, Int.reduceToNat, Nat.reduceAdd, Nat.reduceSub, Nat.reduceMul, Nat.reduceBEq, reduceIte, reduceCtorEq, c1', c2', hx, hc2, b0, h, hlv, hst2, hx2, List.map_set, List.set_set, hsr, r1, r2, r3]
          refine callX_fn 3 (hS) (by simp only [go_sem]) (by simp only [go_sem]) ?_
          simp (config := { decide := true }) only [go_sem, Int.reduceToNat, Nat.reduceAdd, Nat.reduceSub, Nat.reduceMul, Nat.reduceBEq, reduceIte, reduceCtorEq, c1', c2', hx, hc2, b0, h, hlv, hst2, hx2, List.map_set, List.set_set, hsr, r1, r2, r3]
        · simp (config := { decide := true }) only [go_sem, Int.reduceToNat, Nat.reduceAdd, Nat.reduceSub, Nat.reduceMul, Nat.reduceBEq, reduceIte, reduceCtorEq, c1', c2', hx, hc2, b0, h, hlv, hst2, hx2, List.map_set, List.set_set, hsr, r1, r2, r3]
          refine callX_fn 3 (hS) (by simp only [go_sem]) (by simp only [go_sem]) ?_
          simp (config := { decide := true }) only [go_sem, Int.reduceToNat, Nat.reduceAdd, Nat.reduceSub, Nat.reduceMul, Nat.reduceBEq, reduceIte, reduceCtorEq, c1', c2', hx, hc2, b0, h, hlv, hst2, hx2, List.map_set, List.set_set, hsr, r1, r2, r3]
        · simp (config := { decide := true }) only [go_sem, Int.reduceToNat, Nat.reduceAdd, Nat.reduceSub, Nat.reduceMul, Nat.reduceBEq, reduceIte, reduceCtorEq, c1', c2', hx, hc2, b0, h, hlv, hst2, hx2, List.map_set, List.set_set, hsr, r1, r2, r3]
          refine callX_fn 3 (hS) (by simp only [go_sem]) (by simp only [go_sem]) ?_
          simp (config := { decide := true }) only [go_sem, Int.reduceToNat, Nat.reduceAdd, Nat.reduceSub, Nat.reduceMul, Nat.reduceBEq, reduceIte, reduceCtorEq, c1', c2', hx, hc2, b0, h, hlv, hst2, hx2, List.map_set, List.set_set, hsr, r1, r2, r3]
        · simp (config := { decide := true }) only [go_sem, Int.reduceToNat, Nat.reduceAdd, Nat.reduceSub, Nat.reduceMul, Nat.reduceBEq, reduceIte, reduceCtorEq, c1', c2', hx, hc2, b0, h, hlv, hst2, hx2, List.map_set, List.set_set, hsr, r1, r2, r3]
          refine callX_fn 3 (hS) (by simp only [go_sem]) (by simp only [go_sem]) ?_
          simp (config := { decide := true }) only [go_sem, Int.reduceToNat, Nat.reduceAdd, Nat.reduceSub, Nat.reduceMul, Nat.reduceBEq, reduceIte, reduceCtorEq, c1', c2', hx, hc2, b0, h, hlv, hst2, hx2, List.map_set, List.set_set, hsr, r1, r2, r3]
        · simp (config := { decide := true }) only [go_sem, Int.reduceToNat, Nat.reduceAdd, Nat.reduceSub, Nat.reduceMul, Nat.reduceBEq, reduceIte, reduceCtorEq, c1', c2', hx, hc2, b0, h, hlv, hst2, hx2, List.map_set, List.set_set, hsr, r1, r2, r3]
          refine callX_fn 3 (hS) (by simp only [go_sem]) (by simp only [go_sem]) ?_
          simp (config := { decide := true }) only [go_sem, Int.reduceToNat, Nat.reduceAdd, Nat.reduceSub, Nat.reduceMul, Nat.reduceBEq, reduceIte, reduceCtorEq, c1', c2', hx, hc2, b0, h, hlv, hst2, hx2, List.map_set, List.set_set, hsr, r1, r2, r3]
      · have b0 : ((0 : Int) < (y.buf.length : Int)) = True := by
          have := List.length_pos_iff.mpr hbe
          simp only [eq_iff_iff, iff_true]; omega
        rcases hop with h | h | h | h | h | h | h | h | h | h
        · rw [if_neg (fun h' => by have := h'.2; omega)]
          simp (config := { decide := true }) only [go_sem, Int.reduceToNat, Nat.reduceAdd, Nat.reduceSub, Nat.reduceMul, Nat.reduceBEq, reduceIte, reduceCtorEq, c1', c2', hx, hc2, b0, h, hlv, hst2, hx2, List.map_set, List.set_set, hsr, r1, r2, r3]
          refine callX_fn 3 (hS) (by simp only [go_sem]) (by simp only [go_sem]) ?_
          simp (config := { decide := true }) only [go_sem, Int.reduceToNat, Nat.reduceAdd, Nat.reduceSub, Nat.reduceMul, Nat.reduceBEq, reduceIte, reduceCtorEq, c1', c2', hx, hc2, b0, h, hlv, hst2, hx2, List.map_set, List.set_set, hsr, r1, r2, r3]
        · rw [if_neg (fun h' => by have := h'.2; omega)]
          obtain ⟨m1, m2, m3⟩ := locs (by rw [h]; rfl)
          have hj : jumpsB x y.eq = false := by simp [jumpsB, h]
          obtain rfl : s.mem = m' := by rw [← hm']; simp [thStep, h, hj]
          have ez : (thStep x s.mem y).2 = { y with pc := y.pc + 1, regs := setI y.regs x.reg (getI s.mem x.loc) } := by simp [thStep, h, hj]
          rw [ez] at hS
          simp only [ez]
          simp (config := { decide := true }) only [go_sem, Int.reduceToNat, Nat.reduceAdd, Nat.reduceSub, Nat.reduceMul, Nat.reduceBEq, reduceIte, reduceCtorEq, c1', c2', hx, hc2, b0, h, hlv, hst2, hx2, List.map_set, List.set_set, hsr, r1, r2, r3, m1, m2, m3]
          refine callX_fn 3 (hS) (by simp only [go_sem]) (by simp only [go_sem]) ?_
          simp (config := { decide := true }) only [go_sem, Int.reduceToNat, Nat.reduceAdd, Nat.reduceSub, Nat.reduceMul, Nat.reduceBEq, reduceIte, reduceCtorEq, c1', c2', hx, hc2, b0, h, hlv, hst2, hx2, List.map_set, List.set_set, hsr, r1, r2, r3, m1, m2, m3]
          refine HW.quiet 80 follows (by kernel_rfl) ?_
          simp (config := { decide := true }) only [go_sem, Int.reduceToNat, Nat.reduceAdd, Nat.reduceSub, Nat.reduceMul, Nat.reduceBEq, reduceIte, reduceCtorEq, c1', c2', hx, hc2, b0, h, hlv, hst2, hx2, List.map_set, List.set_set, hsr, r1, r2, r3, m1, m2, m3, setI]
          refine callQ_fn 3 (refView y.buf s.mem x.loc (by omega)) (by simp only [go_sem]) rfl rfl ?_
          simp (config := { decide := true }) only [go_sem, Int.reduceToNat, Nat.reduceAdd, Nat.reduceSub, Nat.reduceMul, Nat.reduceBEq, reduceIte, reduceCtorEq, c1', c2', hx, hc2, b0, h, hlv, hst2, hx2, List.map_set, List.set_set, hsr, r1, r2, r3, m1, m2, m3, setI]
          refine HW.ghost (Ghost.open 9 t 1) ?_
          simp (config := { decide := true }) only [go_sem, Int.reduceToNat, Nat.reduceAdd, Nat.reduceSub, Nat.reduceMul, Nat.reduceBEq, reduceIte, reduceCtorEq, c1', c2', hx, hc2, b0, h, hlv, hst2, hx2, List.map_set, List.set_set, hsr, r1, r2, r3, m1, m2, m3, setI]
          refine HW.mixed 80 10 (12, 0) [] follows (by kernel_rfl) (by decide) ?_
          simp (config := { decide := true }) only [go_sem, Int.reduceToNat, Nat.reduceAdd, Nat.reduceSub, Nat.reduceMul, Nat.reduceBEq, reduceIte, reduceCtorEq, c1', c2', hx, hc2, b0, h, hlv, hst2, hx2, List.map_set, List.set_set, hsr, r1, r2, r3, m1, m2, m3, setI]
        · rw [if_neg (fun h' => by have := h'.2; omega)]
          obtain ⟨m1, m2, m3⟩ := locs (by rw [h]; rfl)
          have hj : jumpsB x y.eq = false := by simp [jumpsB, h]
          have ez : (thStep x s.mem y).2 = { y with pc := y.pc + 1 } := by simp [thStep, h, hj]
          rw [ez] at hS
          simp only [ez]
          simp (config := { decide := true }) only [go_sem, Int.reduceToNat, Nat.reduceAdd, Nat.reduceSub, Nat.reduceMul, Nat.reduceBEq, reduceIte, reduceCtorEq, c1', c2', hx, hc2, b0, h, hlv, hst2, hx2, List.map_set, List.set_set, hsr, r1, r2, r3, m1, m2, m3]
          refine callX_fn 3 (hS) (by simp only [go_sem]) (by simp only [go_sem]) ?_
          simp (config := { decide := true }) only [go_sem, Int.reduceToNat, Nat.reduceAdd, Nat.reduceSub, Nat.reduceMul, Nat.reduceBEq, reduceIte, reduceCtorEq, c1', c2', hx, hc2, b0, h, hlv, hst2, hx2, List.map_set, List.set_set, hsr, r1, r2, r3, m1, m2, m3]
          refine HW.mixed 100 25 (11, 0) [] follows (by kernel_rfl) (by decide) ?_
          simp (config := { decide := true }) only [go_sem, Int.reduceToNat, Nat.reduceAdd, Nat.reduceSub, Nat.reduceMul, Nat.reduceBEq, reduceIte, reduceCtorEq, c1', c2', hx, hc2, b0, h, hlv, hst2, hx2, List.map_set, List.set_set, hsr, r1, r2, r3, m1, m2, m3]
          refine callN_nm (refPush y.buf x.loc (getI y.regs x.reg) (by omega)) rfl rfl ?_
          simp (config := { decide := true }) only [go_sem, Int.reduceToNat, Nat.reduceAdd, Nat.reduceSub, Nat.reduceMul, Nat.reduceBEq, reduceIte, reduceCtorEq, c1', c2', hx, hc2, b0, h, hlv, hst2, hx2, List.map_set, List.set_set, hsr, r1, r2, r3, m1, m2, m3]
        · rw [if_neg (fun h' => by have := h'.2; omega)]
          obtain ⟨m1, m2, m3⟩ := locs (by rw [h]; rfl)
          have hj : jumpsB x y.eq = false := by simp [jumpsB, h]
          have ez : (thStep x s.mem y).2 = { y with pc := y.pc + 1 } := by simp [thStep, h, hj]
          rw [ez] at hS
          simp only [ez]
          simp (config := { decide := true }) only [go_sem, Int.reduceToNat, Nat.reduceAdd, Nat.reduceSub, Nat.reduceMul, Nat.reduceBEq, reduceIte, reduceCtorEq, c1', c2', hx, hc2, b0, h, hlv, hst2, hx2, List.map_set, List.set_set, hsr, r1, r2, r3, m1, m2, m3]
          refine callX_fn 3 (hS) (by simp only [go_sem]) (by simp only [go_sem]) ?_
          simp (config := { decide := true }) only [go_sem, Int.reduceToNat, Nat.reduceAdd, Nat.reduceSub, Nat.reduceMul, Nat.reduceBEq, reduceIte, reduceCtorEq, c1', c2', hx, hc2, b0, h, hlv, hst2, hx2, List.map_set, List.set_set, hsr, r1, r2, r3, m1, m2, m3]
          refine HW.mixed 100 17 (11, 0) [] follows (by kernel_rfl) (by decide) ?_
          simp (config := { decide := true }) only [go_sem, Int.reduceToNat, Nat.reduceAdd, Nat.reduceSub, Nat.reduceMul, Nat.reduceBEq, reduceIte, reduceCtorEq, c1', c2', hx, hc2, b0, h, hlv, hst2, hx2, List.map_set, List.set_set, hsr, r1, r2, r3, m1, m2, m3]
          refine callN_nm (refPush y.buf x.loc x.n (by omega)) rfl rfl ?_
          simp (config := { decide := true }) only [go_sem, Int.reduceToNat, Nat.reduceAdd, Nat.reduceSub, Nat.reduceMul, Nat.reduceBEq, reduceIte, reduceCtorEq, c1', c2', hx, hc2, b0, h, hlv, hst2, hx2, List.map_set, List.set_set, hsr, r1, r2, r3, m1, m2, m3]
        · rw [if_pos ⟨hbe, by omega⟩]
          simp (config := { decide := true }) only [go_sem, Int.reduceToNat, Nat.reduceAdd, Nat.reduceSub, Nat.reduceMul, Nat.reduceBEq, reduceIte, reduceCtorEq, c1', c2', hx, hc2, b0, h, hlv, hst2, hx2, List.map_set, List.set_set, hsr, r1, r2, r3]
        · rw [if_pos ⟨hbe, by omega⟩]
          simp (config := { decide := true }) only [go_sem, Int.reduceToNat, Nat.reduceAdd, Nat.reduceSub, Nat.reduceMul, Nat.reduceBEq, reduceIte, reduceCtorEq, c1', c2', hx, hc2, b0, h, hlv, hst2, hx2, List.map_set, List.set_set, hsr, r1, r2, r3]
        · rw [if_neg (fun h' => by have := h'.2; omega)]
          simp (config := { decide := true }) only [go_sem, Int.reduceToNat, Nat.reduceAdd, Nat.reduceSub, Nat.reduceMul, Nat.reduceBEq, reduceIte, reduceCtorEq, c1', c2', hx, hc2, b0, h, hlv, hst2, hx2, List.map_set, List.set_set, hsr, r1, r2, r3]
          refine callX_fn 3 (hS) (by simp only [go_sem]) (by simp only [go_sem]) ?_
          simp (config := { decide := true }) only [go_sem, Int.reduceToNat, Nat.reduceAdd, Nat.reduceSub, Nat.reduceMul, Nat.reduceBEq, reduceIte, reduceCtorEq, c1', c2', hx, hc2, b0, h, hlv, hst2, hx2, List.map_set, List.set_set, hsr, r1, r2, r3]
        · rw [if_neg (fun h' => by have := h'.2; omega)]
          simp (config := { decide := true }) only [go_sem, Int.reduceToNat, Nat.reduceAdd, Nat.reduceSub, Nat.reduceMul, Nat.reduceBEq, reduceIte, reduceCtorEq, c1', c2', hx, hc2, b0, h, hlv, hst2, hx2, List.map_set, List.set_set, hsr, r1, r2, r3]
          refine callX_fn 3 (hS) (by simp only [go_sem]) (by simp only [go_sem]) ?_
          simp (config := { decide := true }) only [go_sem, Int.reduceToNat, Nat.reduceAdd, Nat.reduceSub, Nat.reduceMul, Nat.reduceBEq, reduceIte, reduceCtorEq, c1', c2', hx, hc2, b0, h, hlv, hst2, hx2, List.map_set, List.set_set, hsr, r1, r2, r3]
        · rw [if_neg (fun h' => by have := h'.2; omega)]
          simp (config := { decide := true }) only [go_sem, Int.reduceToNat, Nat.reduceAdd, Nat.reduceSub, Nat.reduceMul, Nat.reduceBEq, reduceIte, reduceCtorEq, c1', c2', hx, hc2, b0, h, hlv, hst2, hx2, List.map_set, List.set_set, hsr, r1, r2, r3]
          refine callX_fn 3 (hS) (by simp only [go_sem]) (by simp only [go_sem]) ?_
          simp (config := { decide := true }) only [go_sem, Int.reduceToNat, Nat.reduceAdd, Nat.reduceSub, Nat.reduceMul, Nat.reduceBEq, reduceIte, reduceCtorEq, c1', c2', hx, hc2, b0, h, hlv, hst2, hx2, List.map_set, List.set_set, hsr, r1, r2, r3]
        · rw [if_neg (fun h' => by have := h'.2; omega)]
          simp (config := { decide := true }) only [go_sem, Int.reduceToNat, Nat.reduceAdd, Nat.reduceSub, Nat.reduceMul, Nat.reduceBEq, reduceIte, reduceCtorEq, c1', c2', hx, hc2, b0, h, hlv, hst2, hx2, List.map_set, List.set_set, hsr, r1, r2, r3]
          refine callX_fn 3 (hS) (by simp only [go_sem]) (by simp only [go_sem]) ?_
          simp (config := { decide := true }) only [go_sem, Int.reduceToNat, Nat.reduceAdd, Nat.reduceSub, Nat.reduceMul, Nat.reduceBEq, reduceIte, reduceCtorEq, c1', c2', hx, hc2, b0, h, hlv, hst2, hx2, List.map_set, List.set_set, hsr, r1, r2, r3]
end Go.Proofs.Yteieinhgdjjdoaa
namespace Go.Proofs.Yteieinhgdjjdoaa
set_option linter.unusedVariables false
set_option maxRecDepth 8000
set_option linter.unusedSimpArgs false
theorem setI_length {l : List Int} {i x : Int} : (setI l i x).length = l.length := by simp [setI]
theorem thStep_mem {x : Stp} {mem : List Int} {t : Thd} : (thStep x mem t).1.length = mem.length := by
  unfold thStep
  dsimp only
  repeat' split
  all_goals simp [setI_length]
theorem thStep_regs {x : Stp} {mem : List Int} {t : Thd} : (thStep x mem t).2.regs.length = t.regs.length := by
  unfold thStep
  dsimp only
  repeat' split
  all_goals simp [setI_length]
theorem thStep_buf {x : Stp} {mem : List Int} {t : Thd} : (thStep x mem t).2.buf = t.buf := by
  unfold thStep
  dsimp only
  repeat' split
  all_goals rfl
theorem thStep_pc {x : Stp} {mem : List Int} {t : Thd} : (thStep x mem t).2.pc = if jumpsB x t.eq = true then x.to else t.pc + 1 := by
  unfold thStep
  dsimp only
  repeat' split
  all_goals first | rfl | simp_all
section
variable {p : Prg} {s : Sta}
theorem thAt_get {th : Int} (h : 0 ≤ th ∧ th < s.ths.length) : s.ths[th.toNat]? = some (thAt s th) := by
  unfold thAt
  rw [List.getElem?_eq_getElem (show th.toNat < s.ths.length by omega)]; rfl
theorem atS_spec {th : Int} {x : Stp} (hp : RightP p) (hs : RightS p s) (h : atS p s th = some x) :
    ∃ l, 0 ≤ th ∧ th < s.ths.length ∧ p.thr[th.toNat]? = some l ∧ s.ths[th.toNat]? = some (thAt s th) ∧ RightT p l (thAt s th) ∧ l[(thAt s th).pc.toNat]? = some x ∧ RightX p x (thAt s th).pc.toNat l.length ∧ (thAt s th).pc < l.length := by
  unfold atS at h
  split at h
  · rename_i hc
    have hlen := hs.ths
    have hl : p.thr[th.toNat]? = some (p.thr[th.toNat]'(by omega)) := List.getElem?_eq_getElem (by omega)
    rw [hl, Option.getD_some] at h
    have ht := thAt_get hc
    have hT := hs.t _ _ _ hl ht
    have hlt := (List.getElem?_eq_some_iff.1 h).1
    exact ⟨_, hc.1, hc.2, hl, ht, hT, h, hp.x _ _ hl _ _ h, by have := hT.pc; omega⟩
  · cases h
theorem pc_next {l : List Stp} {x : Stp} {t : Thd} (hX : RightX p x t.pc.toNat l.length) (hT : RightT p l t) (hlt : t.pc < l.length) : 0 ≤ (if jumpsB x t.eq = true then x.to else t.pc + 1) ∧ (if jumpsB x t.eq = true then x.to else t.pc + 1) ≤ l.length ∧ t.pc < (if jumpsB x t.eq = true then x.to else t.pc + 1) := by
  have h0 := hT.pc
  split
  · rename_i hj
    have h8 : 8 ≤ x.op := by
      simp only [jumpsB, Bool.or_eq_true, Bool.and_eq_true, decide_eq_true_eq] at hj
      omega
    have := hX.to.1 h8
    omega
  · omega
theorem setTh_right {th : Int} {mem : List Int} {t : Thd} (hs : RightS p s) (hm : mem.length = s.mem.length) (ht : ∀ l, p.thr[th.toNat]? = some l → RightT p l t) : RightS p (setTh s th mem t) := by
  refine ⟨by rw [← hs.mem, ← hm]; rfl, by rw [← hs.ths]; simp [setTh], fun i l t' hl ht' => ?_⟩
  simp only [setTh] at ht'
  by_cases e : th.toNat = i
  · subst e
    rw [List.getElem?_set] at ht'
    split at ht'
    · split at ht'
      · cases ht'; exact ht l hl
      · cases ht'
    · rename_i h; exact absurd rfl h
  · rw [List.getElem?_set_ne e] at ht'
    exact hs.t i l t' hl ht'
theorem stepS_right {th : Int} (hp : RightP p) (hs : RightS p s) : RightS p (stepS p s th).1 := by
  unfold stepS
  cases h : atS p s th with
  | none => exact hs
  | some x =>
    obtain ⟨l, c1, c2, hl, ht, hT, hx, hX, hlt⟩ := atS_spec hp hs h
    refine setTh_right hs thStep_mem fun l' hl' => ?_
    rw [hl] at hl'; cases hl'
    have := pc_next hX hT hlt
    exact ⟨by rw [thStep_pc]; omega, by rw [thStep_regs]; exact hT.regs, by rw [thStep_buf]; exact hT.buf⟩
theorem stepW_right {k : Pck} (hp : RightP p) (hs : RightS p s) : RightS p (stepW p s k).1 := by
  unfold stepW
  split
  · exact hs
  · rename_i hc
    have hc : 0 ≤ k.th ∧ k.th < s.ths.length := Decidable.not_not.1 hc
    have ht := thAt_get hc
    have hlen := hs.ths
    have hl : p.thr[k.th.toNat]? = some (p.thr[k.th.toNat]'(by omega)) := List.getElem?_eq_getElem (by omega)
    have hT := hs.t _ _ _ hl ht
    split
    · split
      · rename_i hd
        refine setTh_right hs ?_ fun l' hl' => ?_
        · unfold drainB
          split
          · rfl
          · split
            · exact setI_length
            · rfl
        · rw [hl] at hl'; cases hl'
          refine ⟨hT.pc, hT.regs, fun w hw => ?_⟩
          unfold drainB at hw
          split at hw
          · simp at hw
          · rename_i b v r e
            split at hw
            · exact hT.buf w (by rw [e]; exact List.mem_cons_of_mem _ hw)
            · exact hT.buf w (by rw [e]; rw [e] at hw; exact hw)
      · exact hs
    · cases h : atS p s k.th with
      | none => exact hs
      | some x =>
        obtain ⟨l, _, _, hl', _, _, hx, hX, hlt⟩ := atS_spec hp hs h
        rw [hl] at hl'; cases hl'
        have hpc := pc_next hX hT hlt
        have base : RightT p (p.thr[k.th.toNat]'(by omega)) (thStep x s.mem (thAt s k.th)).2 := ⟨by rw [thStep_pc]; omega, by rw [thStep_regs]; exact hT.regs, by rw [thStep_buf]; exact hT.buf⟩
        have hb : hasL x.op = true → 0 ≤ x.loc ∧ x.loc < (p.init.length : Int) := hX.loc.1
        dsimp only
        split
        · exact hs
        · split
          · refine setTh_right hs rfl fun l' hl' => ?_
            rw [hl] at hl'; cases hl'
            exact ⟨base.pc, by simp only [setI_length]; exact hT.regs, base.buf⟩
          · split
            · rename_i h3
              refine setTh_right hs rfl fun l' hl' => ?_
              rw [hl] at hl'; cases hl'
              refine ⟨base.pc, base.regs, fun w hw => ?_⟩
              rcases List.mem_append.1 hw with hw | hw
              · exact hT.buf w hw
              · obtain rfl := List.mem_singleton.1 hw
                exact hb (by rw [h3]; rfl)
            · split
              · rename_i h4
                refine setTh_right hs rfl fun l' hl' => ?_
                rw [hl] at hl'; cases hl'
                refine ⟨base.pc, base.regs, fun w hw => ?_⟩
                rcases List.mem_append.1 hw with hw | hw
                · exact hT.buf w hw
                · obtain rfl := List.mem_singleton.1 hw
                  exact hb (by rw [h4]; rfl)
              · refine setTh_right hs thStep_mem fun l' hl' => ?_
                rw [hl] at hl'; cases hl'
                exact base
def Few (s : Sta) (n : Nat) : Prop := ∀ t ∈ s.ths, t.buf.length ≤ n
theorem Few.set {th : Int} {mem : List Int} {t : Thd} {n m : Nat} (h : Few s n) (hnm : n ≤ m) (ht : t.buf.length ≤ m) : Few (setTh s th mem t) m := by
  intro t' ht'
  rcases List.mem_or_eq_of_mem_set ht' with h1 | rfl
  · have := h t' h1; omega
  · exact ht
theorem Few.at {n : Nat} (h : Few s n) (th : Int) : (thAt s th).buf.length ≤ n := by
  unfold thAt
  cases hx : s.ths[th.toNat]? with
  | none => simp [thd0]
  | some t => exact h t (List.mem_of_getElem? hx)
theorem Few.mono {n m : Nat} (h : Few s n) (hnm : n ≤ m) : Few s m := fun t ht => by have := h t ht; omega
theorem stepS_few {th : Int} {n : Nat} (h : Few s n) : Few (stepS p s th).1 n := by
  unfold stepS
  cases atS p s th with
  | none => exact h
  | some x => exact h.set (Nat.le_refl _) (by rw [thStep_buf]; exact h.at th)
theorem stepW_few {k : Pck} {n : Nat} (h : Few s n) : Few (stepW p s k).1 (n + 1) := by
  have h1 := h.mono (show n ≤ n + 1 by omega)
  have ha := h.at k.th
  unfold stepW
  split
  · exact h1
  · split
    · split
      · refine h.set (by omega) ?_
        show (drainB (thAt s k.th).buf s.mem).1.length ≤ n + 1
        unfold drainB
        split
        · simp
        · rename_i b v r e
          rw [e] at ha
          simp only [List.length_cons] at ha
          split
          · show r.length ≤ n + 1; omega
          · show (thAt s k.th).buf.length ≤ n + 1; rw [e]; simp only [List.length_cons]; omega
      · exact h1
    · cases atS p s k.th with
      | none => exact h1
      | some x =>
        dsimp only
        split
        · exact h1
        · split
          · exact h.set (by omega) (by show (thStep x s.mem (thAt s k.th)).2.buf.length ≤ _; rw [thStep_buf]; omega)
          · split
            · exact h.set (by omega) (by simp only [List.length_append, List.length_singleton]; omega)
            · split
              · exact h.set (by omega) (by simp only [List.length_append, List.length_singleton]; omega)
              · exact h.set (by omega) (by rw [thStep_buf]; omega)
end
end Go.Proofs.Yteieinhgdjjdoaa
namespace Go.Proofs.Yteieinhgdjjdoaa
open Go.RowKit
set_option linter.unusedVariables false
set_option linter.unusedSimpArgs false
set_option maxRecDepth 8000
def stepB (p : Prg) (s : Sta) (k : Pck) (weak : Bool) : Sta × Bool := if weak = true then stepW p s k else if k.dr = true then (s, false) else stepS p s k.th
set_option maxHeartbeats 4000000 in
theorem refStep (p : Prg) (s : Sta) (k : Pck) (weak : Bool) (hp : RightP p) (hs : RightS p s) (hb : ∀ t ∈ s.ths, t.buf.length ≤ 100000) : HFn Try.prog 44 [prgH p, staH s, pckH k, .v (.bool weak)] (.tu [staH (stepB p s k weak).1, .v (.bool (stepB p s k weak).2)]) := by
  refine HFn_bodyF (fn := Try.f44) 3 37 [.cell 8 38, .tmp 9] (by kernel_rfl) rfl rfl (by kernel_rfl) (HW.run 400 (by kernel_rfl) ?_)
  unfold stepB
  cases weak with
  | true =>
    simp (config := { decide := true }) only [go_sem, Int.reduceToNat, Nat.reduceAdd, Nat.reduceSub, Nat.reduceMul, Nat.reduceBEq, reduceIte, reduceCtorEq]
    refine callX_nm (refStepW p s k hp hs hb) rfl rfl ?_
    simp (config := { decide := true }) only [go_sem, Int.reduceToNat, Nat.reduceAdd, Nat.reduceSub, Nat.reduceMul, Nat.reduceBEq, reduceIte, reduceCtorEq]
  | false =>
    obtain ⟨th, dr⟩ := k
    cases dr with
    | true => simp (config := { decide := true }) only [go_sem, Int.reduceToNat, Nat.reduceAdd, Nat.reduceSub, Nat.reduceMul, Nat.reduceBEq, reduceIte, reduceCtorEq]
    | false =>
      simp (config := { decide := true }) only [go_sem, Int.reduceToNat, Nat.reduceAdd, Nat.reduceSub, Nat.reduceMul, Nat.reduceBEq, reduceIte, reduceCtorEq]
      refine callX_fn 3 (refStepS p s th hp hs hb) (by simp only [go_sem]) (by simp only [go_sem]) ?_
      simp (config := { decide := true }) only [go_sem, Int.reduceToNat, Nat.reduceAdd, Nat.reduceSub, Nat.reduceMul, Nat.reduceBEq, reduceIte, reduceCtorEq]
end Go.Proofs.Yteieinhgdjjdoaa
namespace Go.Proofs.Yteieinhgdjjdoaa
open Go.RowKit
set_option linter.unusedVariables false
set_option linter.unusedSimpArgs false
set_option maxRecDepth 8000
theorem stepB_right {p : Prg} {s : Sta} {k : Pck} {weak : Bool} (hp : RightP p) (hs : RightS p s) : RightS p (stepB p s k weak).1 := by
  unfold stepB
  split
  · exact stepW_right hp hs
  · split
    · exact hs
    · exact stepS_right hp hs
theorem stepB_few {p : Prg} {s : Sta} {k : Pck} {weak : Bool} {n : Nat} (h : Few s n) : Few (stepB p s k weak).1 (n + 1) := by
  unfold stepB
  split
  · exact stepW_few h
  · split
    · exact h.mono (by omega)
    · exact (stepS_few h).mono (by omega)
theorem begin_few {p : Prg} : Few (beginS p) 0 := by
  intro t ht
  simp only [beginS, List.mem_map] at ht
  obtain ⟨_, _, rfl⟩ := ht
  simp
def runF (f : Sta → Pck → Sta × Bool) : Sta → List Pck → Sta × Nat × Bool
  | s, [] => (s, 0, true)
  | s, k :: r => if (f s k).2 = true then ((runF f (f s k).1 r).1, (runF f (f s k).1 r).2.1 + 1, (runF f (f s k).1 r).2.2) else (s, 0, false)
set_option maxHeartbeats 4000000 in
theorem refRun (p : Prg) (l : List Pck) (weak : Bool) (hp : RightP p) (hl : l.length ≤ 100000) : HFn Try.prog 19 [prgH p, .sl (pcks l), .v (.bool weak)]
    (.tu [staH (runF (fun s k => stepB p s k weak) (beginS p) l).1, .v (.int .i64 ((runF (fun s k => stepB p s k weak) (beginS p) l).2.1 : Nat)), .v (.bool (runF (fun s k => stepB p s k weak) (beginS p) l).2.2)]) := by
  refine HFn_bodyF (fn := Try.f19) 3 40 [.cell 6 38, .tmp 7, .tmp 8] (by kernel_rfl) rfl rfl (by kernel_rfl) (HW.run 400 (by kernel_rfl) ?_)
  simp (config := { decide := true }) only [go_sem, Int.reduceToNat, Nat.reduceAdd, Nat.reduceSub, Nat.reduceMul, Nat.reduceBEq, reduceIte, reduceCtorEq]
  refine callX_nm (refBegin p (by have := hp.thr; omega) (by have := hp.init; omega)) rfl rfl ?_
  generalize hR : runF (fun s k => stepB p s k weak) (beginS p) l = R
  simp (config := { decide := true }) only [go_sem, Int.reduceToNat, Nat.reduceAdd, Nat.reduceSub, Nat.reduceMul, Nat.reduceBEq, reduceIte, reduceCtorEq]
  refine HW.loopG (fun k T H => ∃ (i : Nat) (s : Sta), k = l.length - i ∧ i ≤ l.length ∧ RightS p s ∧ Few s i ∧ R = ((runF (fun s k => stepB p s k weak) s (l.drop i)).1, i + (runF (fun s k => stepB p s k weak) s (l.drop i)).2.1, (runF (fun s k => stepB p s k weak) s (l.drop i)).2.2) ∧
    T 1 = .sl (pcks l) ∧ T 2 = .v (.bool weak) ∧ T 3 = .pt 0 1 0 0 ∧ T 6 = .pt 1 1 0 0 ∧ T 9 = .pt 2 1 0 0 ∧ T 10 = .v (.int .i64 i) ∧
    H = [some ⟨25, 2, [[.sl (ints p.init), .sl (thrs p.thr)]]⟩, some ⟨38, 2, [[.v (.slice none 0 0), .v (.slice none 0 0)]]⟩, some ⟨38, 2, [[.sl (ints s.mem), .sl (thds s.ths)]]⟩]) l.length
    ⟨_, _, Ghost.refl, 0, beginS p, rfl, by omega, begin_right, begin_few, ?_, rfl, rfl, rfl, rfl, rfl, rfl, ?_⟩ ?_
  · rw [List.drop_zero, hR]; simp
  · rfl
  rintro k T H ⟨i, s, rfl, hi, hs, hf, hRi, h1, h2, h3, h6, h9, h10, rfl⟩
  refine HW.run 200 (by kernel_rfl) ?_
  by_cases hlt : i < l.length
  · have hlt' : ((i : Int) < (l.length : Int)) = True := by rw [int_lt]; simp [hlt]
    have hx : l[i]? = some l[i] := List.getElem?_eq_getElem hlt
    have hdr : l.drop i = l[i] :: l.drop (i + 1) := List.drop_eq_getElem_cons hlt
    generalize l[i] = x at hx hdr
    rw [hdr] at hRi
    have hr' := stepB_right (k := x) (weak := weak) hp hs
    have hf' := stepB_few (p := p) (k := x) (weak := weak) hf
    have hst := refStep p s x weak hp hs (fun t ht => by have := hf t ht; omega)
    simp only [runF] at hRi
    simp (config := { decide := true }) only [go_sem, Int.reduceToNat, Nat.reduceAdd, Nat.reduceSub, Nat.reduceMul, Nat.reduceBEq, reduceIte, reduceCtorEq, h1, h2, h3, h6, h9, h10, hlt', hx]
    refine HW.mixed 80 14 (3, 0) [11, 12] follows (by kernel_rfl) (by decide) ?_
    simp (config := { decide := true }) only [go_sem, Int.reduceToNat, Nat.reduceAdd, Nat.reduceSub, Nat.reduceMul, Nat.reduceBEq, reduceIte, reduceCtorEq, h1, h2, h3, h6, h9, h10, hlt', hx]
    refine callN_nm (hst) rfl rfl ?_
    generalize stepB p s x weak = z at hRi hr' hf' ⊢
    obtain ⟨s', ok⟩ := z
    simp only at hRi hr' hf'
    cases ok with
    | true =>
      rw [if_pos rfl] at hRi
      simp (config := { decide := true }) only [go_sem, Int.reduceToNat, Nat.reduceAdd, Nat.reduceSub, Nat.reduceMul, Nat.reduceBEq, reduceIte, reduceCtorEq, h1, h2, h3, h6, h9, h10, hlt', hx]
      refine ⟨_, _, Ghost.trunc [1, 2, 3, 6, 9, 10] 3 (by omega) ?_ ?_, l.length - (i + 1), by omega, i + 1, s', rfl, by omega, hr', hf', ?_, ?_, ?_, ?_, ?_, ?_, ?_, ?_⟩
      · simp (config := { decide := true }) only [go_sem, Nat.reduceBEq, reduceIte, h1, h2, h3, h6, h9]
      · simp (config := { decide := true }) only [go_sem, Nat.reduceBEq, reduceIte]
      · rw [hRi]; simp only [Prod.mk.injEq, true_and, and_true]; omega
      iterate 5 simp (config := { decide := true }) only [go_sem, Nat.reduceBEq, reduceIte, h1, h2, h3, h6, h9]
      · simp (config := { decide := true }) only [go_sem, Nat.reduceBEq, reduceIte]; rw [w64 (by omega) (by omega)]; rfl
      · simp (config := { decide := true }) only [go_sem, Int.reduceToNat, Nat.reduceAdd, Nat.reduceSub, Nat.reduceMul, Nat.reduceBEq, reduceIte, reduceCtorEq]
    | false =>
      rw [if_neg (by simp)] at hRi
      subst hRi
      simp (config := { decide := true }) only [go_sem, Int.reduceToNat, Nat.reduceAdd, Nat.reduceSub, Nat.reduceMul, Nat.reduceBEq, reduceIte, reduceCtorEq, h1, h2, h3, h6, h9, h10, hlt', hx]
  · have hlt' : ((i : Int) < (l.length : Int)) = False := by rw [int_lt]; simp [hlt]
    have e : i = l.length := by omega
    subst e
    rw [List.drop_length] at hRi
    simp only [runF, Nat.add_zero] at hRi
    subst hRi
    simp (config := { decide := true }) only [go_sem, Int.reduceToNat, Nat.reduceAdd, Nat.reduceSub, Nat.reduceMul, Nat.reduceBEq, reduceIte, reduceCtorEq, h1, h2, h3, h6, h9, h10, hlt']
end Go.Proofs.Yteieinhgdjjdoaa
namespace Go.Proofs.Yteieinhgdjjdoaa
open Go.RowKit
set_option linter.unusedVariables false
set_option linter.unusedSimpArgs false
set_option maxRecDepth 8000
end Go.Proofs.Yteieinhgdjjdoaa
namespace Go.Proofs.Yteieinhgdjjdoaa
open Go.RowKit
set_option linter.unusedVariables false
set_option linter.unusedSimpArgs false
set_option maxRecDepth 8000
def putS (n : Int) (st : List Int × Bool) (x : Int) : List Int × Bool := if st.2 = false ∧ n ≤ x then ((if n = x then st.1 else st.1 ++ [n]) ++ [x], true) else (st.1 ++ [x], st.2)
def putB (l : List Int) (n : Int) : List Int := if (l.foldl (putS n) ([], false)).2 = true then (l.foldl (putS n) ([], false)).1 else (l.foldl (putS n) ([], false)).1 ++ [n]
end Go.Proofs.Yteieinhgdjjdoaa
namespace Go.Proofs.Yteieinhgdjjdoaa
open Go.RowKit
set_option linter.unusedVariables false
set_option linter.unusedSimpArgs false
set_option maxRecDepth 8000
end Go.Proofs.Yteieinhgdjjdoaa
namespace Go.Proofs.Yteieinhgdjjdoaa
open Go.RowKit
set_option linter.unusedVariables false
set_option linter.unusedSimpArgs false
set_option maxRecDepth 8000
def crossF (p : Prg) : Sta → List Int → List Pck → Option (List Int)
  | _, out, [] => some out
  | s, out, k :: r => if (stepW p s k).2 = true then crossF p (stepW p s k).1 (if k.dr = false ∧ (thAt s k.th).buf ≠ [] then putB out (numS p k.th (thAt s k.th).pc) else out) r else none
end Go.Proofs.Yteieinhgdjjdoaa
namespace Go.Proofs.Yteieinhgdjjdoaa
open Go.RowKit
set_option linter.unusedVariables false
set_option linter.unusedSimpArgs false
set_option maxRecDepth 8000
def raiseF (p : Prg) (g : List Int) : Sta → List Pck → List Pck → Option (List Pck)
  | _, out, [] => some out
  | s, out, k :: r => if (stepW p s k).2 = true then
      (if k.dr = false ∧ hasB g (numS p k.th (thAt s k.th).pc) = true then (if (thAt s k.th).buf ≠ [] then none else raiseF p g (stepW p s k).1 (out ++ [⟨k.th, false⟩] ++ [k]) r) else raiseF p g (stepW p s k).1 (out ++ [k]) r)
    else none
theorem Conv.nilTuOw (e : TypeId) (sz : Nat) (b : HV) : Conv (.tu [.v (.slice none 0 0), b]) (.tu [.ow e sz [], b]) := fun Z G w y h => by
  simp only [RV, RL] at h ⊢
  obtain ⟨ys, rfl, y1, ys', f1, f2, e1, e2, ⟨rfl, rfl⟩, h2⟩ := h
  exact ⟨_, rfl, _, _, [], f2, e1, by simpa using e2, .inl ⟨trivial, rfl, rfl⟩, h2⟩
end Go.Proofs.Yteieinhgdjjdoaa
namespace Go.Proofs.Yteieinhgdjjdoaa
open Go.RowKit
set_option linter.unusedVariables false
set_option linter.unusedSimpArgs false
set_option maxRecDepth 8000
def fenceT (g : List Int) (a : Int) (at_ : Int) (i : Nat) : Bool := hasB g (a + i) && decide (at_ = (i : Int) + (countB g a i : Int))
def fenceB (p : Prg) (g : List Int) (t : Nat) (at_ : Int) : Bool := (List.range ((p.thr[t]?).getD []).length).any (fenceT g (startB p.thr t) at_)
end Go.Proofs.Yteieinhgdjjdoaa
namespace Go.Proofs.Yteieinhgdjjdoaa
open Go.RowKit
set_option linter.unusedVariables false
set_option linter.unusedSimpArgs false
set_option maxRecDepth 8000
end Go.Proofs.Yteieinhgdjjdoaa
namespace Go.Proofs.Yteieinhgdjjdoaa
open Go.RowKit
set_option linter.unusedVariables false
set_option linter.unusedSimpArgs false
set_option maxRecDepth 8000
end Go.Proofs.Yteieinhgdjjdoaa
namespace Go.Proofs.Yteieinhgdjjdoaa
open Go.RowKit
set_option linter.unusedVariables false
set_option linter.unusedSimpArgs false
set_option maxRecDepth 8000
def great7 (p : Prg) : Bool := decide (60 < p.init.length) || decide (9 < p.thr.length) || p.thr.any fun l => decide (300 < l.length)
theorem great7_small {p : Prg} (h : great7 p = false) : SmallP p := by
  simp only [great7, Bool.or_eq_false_iff, decide_eq_false_iff_not, List.any_eq_false] at h
  exact ⟨by omega, by omega, fun l hl => by have := h.2 l hl; simp at this; omega⟩
theorem lawGreat7 (p : Prg) : HFn Try.prog 48 [prgH p] (.v (.bool (great7 p))) := by
  refine HCalls_body (fn := Try.f48) 28 [2] (by kernel_rfl) rfl (by kernel_rfl) (HW.run 400 (by kernel_rfl) ?_)
  by_cases c1 : 60 < p.init.length
  · have c1' : ((60 : Int) < (p.init.length : Int)) = True := by simp only [eq_iff_iff, iff_true]; omega
    simp (config := { decide := true }) only [go_sem, Int.reduceToNat, Nat.reduceAdd, Nat.reduceSub, Nat.reduceMul, Nat.reduceBEq, reduceIte, reduceCtorEq, c1']
    exact vb (by simp [great7, c1])
  have c1' : ((60 : Int) < (p.init.length : Int)) = False := by simp only [eq_iff_iff, iff_false]; omega
  by_cases c2 : 9 < p.thr.length
  · have c2' : ((9 : Int) < (p.thr.length : Int)) = True := by simp only [eq_iff_iff, iff_true]; omega
    simp (config := { decide := true }) only [go_sem, Int.reduceToNat, Nat.reduceAdd, Nat.reduceSub, Nat.reduceMul, Nat.reduceBEq, reduceIte, reduceCtorEq, c1', c2']
    exact vb (by simp [great7, c2])
  have c2' : ((9 : Int) < (p.thr.length : Int)) = False := by simp only [eq_iff_iff, iff_false]; omega
  have hG : great7 p = p.thr.any fun l => decide (300 < l.length) := by simp [great7, c1, c2]
  simp (config := { decide := true }) only [go_sem, Int.reduceToNat, Nat.reduceAdd, Nat.reduceSub, Nat.reduceMul, Nat.reduceBEq, reduceIte, reduceCtorEq, c1', c2']
  rw [hG]
  refine HW.loopG (fun k T H => ∃ i : Nat, k = p.thr.length - i ∧ i ≤ p.thr.length ∧ (∀ j, j < i → ∀ l, p.thr[j]? = some l → ¬ 300 < l.length) ∧ T 1 = .pt 0 1 0 0 ∧ T 3 = .v (.int .i64 i) ∧ H = [some ⟨25, 2, [[.sl (ints p.init), .sl (thrs p.thr)]]⟩]) p.thr.length ⟨_, _, Ghost.refl, 0, rfl, by omega, by simp, rfl, rfl, rfl⟩ ?_
  rintro k T H ⟨i, rfl, hi, hno, h1, h3, rfl⟩
  refine HW.run 200 (by kernel_rfl) ?_
  by_cases hlt : i < p.thr.length
  · have hlt' : ((i : Int) < (p.thr.length : Int)) = True := by rw [int_lt]; simp [hlt]
    have hx : p.thr[i]? = some p.thr[i] := List.getElem?_eq_getElem hlt
    generalize p.thr[i] = l at hx
    by_cases c3 : 300 < l.length
    · have c3' : ((300 : Int) < (l.length : Int)) = True := by simp only [eq_iff_iff, iff_true]; omega
      simp (config := { decide := true }) only [go_sem, Int.reduceToNat, Nat.reduceAdd, Nat.reduceSub, Nat.reduceMul, Nat.reduceBEq, reduceIte, reduceCtorEq, h1, h3, hlt', hx, c3']
      exact vb (Eq.symm (List.any_eq_true.2 ⟨l, List.mem_of_getElem? hx, by simpa using c3⟩))
    · have c3' : ((300 : Int) < (l.length : Int)) = False := by simp only [eq_iff_iff, iff_false]; omega
      simp (config := { decide := true }) only [go_sem, Int.reduceToNat, Nat.reduceAdd, Nat.reduceSub, Nat.reduceMul, Nat.reduceBEq, reduceIte, reduceCtorEq, h1, h3, hlt', hx, c3']
      refine ⟨_, _, Ghost.refl, p.thr.length - (i + 1), by omega, i + 1, rfl, by omega, ?_, ?_, ?_, rfl⟩
      · intro j hj y hy
        rcases Nat.lt_or_ge j i with h | h
        · exact hno j h y hy
        · obtain rfl : j = i := by omega
          rw [hx] at hy; cases hy; exact c3
      all_goals first | (simp (config := { decide := true }) only [go_sem, Nat.reduceBEq, reduceIte, h1]; done) | (simp (config := { decide := true }) only [go_sem, Nat.reduceBEq, reduceIte]; rw [w64 (by omega) (by omega)]; rfl)
  · have hlt' : ((i : Int) < (p.thr.length : Int)) = False := by rw [int_lt]; simp [hlt]
    simp (config := { decide := true }) only [go_sem, Int.reduceToNat, Nat.reduceAdd, Nat.reduceSub, Nat.reduceMul, Nat.reduceBEq, reduceIte, reduceCtorEq, h1, h3, hlt']
    refine vb (Eq.symm ?_)
    rw [List.any_eq_false]
    intro y hy
    obtain ⟨j, hj⟩ := List.mem_iff_getElem?.1 hy
    have := hno j (by have := (List.getElem?_eq_some_iff.1 hj).1; omega) y hj
    simpa using this
end Go.Proofs.Yteieinhgdjjdoaa
namespace Go.Proofs.Yteieinhgdjjdoaa
open Go.RowKit
set_option linter.unusedVariables false
set_option linter.unusedSimpArgs false
set_option maxRecDepth 8000
def fnc : Stp := ⟨6, 0, 0, 0, 0⟩
def insStp (g : List Int) (a : Nat) (x : Stp) : Stp := if 8 ≤ x.op then { x with to := x.to + countB g a x.to.toNat } else x
def insR (g : List Int) : Nat → List Stp → List Stp
  | _, [] => []
  | n, x :: l => (if hasB g (n : Int) = true then [fnc] else []) ++ x :: insR g (n + 1) l
def insT (g : List Int) (a : Nat) (l : List Stp) : List Stp := (insR g a l).map (insStp g a)
def insF (g : List Int) (thr : List (List Stp)) : Nat → List (List Stp)
  | 0 => []
  | t + 1 => insF g thr t ++ [insT g (startB thr t) ((thr[t]?).getD [])]
def insP (p : Prg) (g : List Int) : Prg := ⟨p.init, insF g p.thr p.thr.length⟩
theorem insR_append (g : List Int) : ∀ (l r : List Stp) (n : Nat), insR g n (l ++ r) = insR g n l ++ insR g (n + l.length) r
  | [], r, n => by simp [insR]
  | x :: l, r, n => by
    simp only [List.cons_append, insR, insR_append g l r (n + 1), List.length_cons, List.append_assoc]
    rw [show n + 1 + l.length = n + (l.length + 1) by omega]
theorem insR_snoc (g : List Int) (l : List Stp) (x : Stp) (n : Nat) : insR g n (l ++ [x]) = insR g n l ++ ((if hasB g ((n + l.length : Nat) : Int) = true then [fnc] else []) ++ [x]) := by
  rw [insR_append]; rfl
theorem insR_len (g : List Int) (a : Nat) : ∀ (l : List Stp) (j : Nat), j ≤ l.length → (insR g a (l.take j)).length = j + countB g a j := by
  intro l j
  induction j with
  | zero => intro _; simp [insR, countB]
  | succ j ih =>
    intro hj
    have hx : l.take (j + 1) = l.take j ++ [l[j]'(by omega)] := by rw [List.take_add_one, List.getElem?_eq_getElem (by omega)]; rfl
    rw [hx, insR_snoc, List.length_append, ih (by omega), List.length_take, Nat.min_eq_left (by omega)]
    have e : ((a + j : Nat) : Int) = (a : Int) + j := by omega
    rw [countB, ← e]
    split <;> simp <;> omega
theorem insR_mem {g : List Int} {y : Stp} : ∀ {l : List Stp} {n : Nat}, y ∈ insR g n l → y = fnc ∨ y ∈ l
  | [], n, h => by simp [insR] at h
  | x :: l, n, h => by
    simp only [insR, List.mem_append, List.mem_cons] at h
    rcases h with h | rfl | h
    · split at h
      · simp at h; exact .inl h
      · simp at h
    · exact .inr (by simp)
    · rcases insR_mem h with h | h
      · exact .inl h
      · exact .inr (by simp [h])
theorem insF_len (g : List Int) (thr : List (List Stp)) : ∀ t, (insF g thr t).length = t
  | 0 => rfl
  | t + 1 => by simp [insF, insF_len g thr t]
theorem insF_get (g : List Int) (thr : List (List Stp)) : ∀ (m t : Nat), t < m → (insF g thr m)[t]? = some (insT g (startB thr t) ((thr[t]?).getD []))
  | 0, t, h => absurd h (Nat.not_lt_zero _)
  | m + 1, t, h => by
    unfold insF
    by_cases e : t < m
    · rw [List.getElem?_append_left (by rw [insF_len]; exact e)]
      exact insF_get g thr m t e
    · obtain rfl : t = m := by omega
      rw [List.getElem?_append_right (by rw [insF_len]; omega), insF_len]; simp
def begL (g : List Int) (a : Nat) (j : Nat) : List Int := (List.range j).map fun k => ((k + countB g a k : Nat) : Int)
theorem begL_snoc (g : List Int) (a j : Nat) : begL g a (j + 1) = begL g a j ++ [((j + countB g a j : Nat) : Int)] := by simp [begL, List.range_succ]
theorem begL_get {g : List Int} {a j k : Nat} (h : k < j) : (begL g a j)[k]? = some ((k + countB g a k : Nat) : Int) := by simp [begL, h]
theorem begL_len {g : List Int} {a j : Nat} : (begL g a j).length = j := by simp [begL]
end Go.Proofs.Yteieinhgdjjdoaa
namespace Go.Proofs.Yteieinhgdjjdoaa
open Go.RowKit
set_option linter.unusedVariables false
set_option linter.unusedSimpArgs false
section
variable {α : Type} [DecidableEq α]
def getM (kv : List (α × Int)) (k : α) : Int := ((kv.find? fun e => decide (k = e.1)).map (·.2)).getD 0
def inM (kv : List (α × Int)) (k : α) : Bool := kv.any fun e => decide (k = e.1)
def setM (kv : List (α × Int)) (k : α) (v : Int) : List (α × Int) :=
  match kv with
  | [] => [(k, v)]
  | e :: r => if k = e.1 then (k, v) :: r else e :: setM r k v
def entM (kv : List (α × Int)) (k : α) : List (α × Int) := if inM kv k = true then kv else kv ++ [(k, 0)]
def idxM (kv : List (α × Int)) (k : α) : Nat := (kv.findIdx fun e => decide (k = e.1))
def esL (kf : α → Value) : Nat → List (α × Int) → List MapEntry
  | _, [] => []
  | n, e :: r => ⟨kf e.1, .int .i64 e.2, n⟩ :: esL kf (n + 1) r
def esG (kf : α → Value) (kv : List (α × Int)) : Array MapEntry := (esL kf 0 kv).toArray
def mapG (kf : α → Value) (kv : List (α × Int)) : HObj := mapObj (esG kf kv) kv.length
def findI (k : α) : List (α × Int) → Nat → Option (Nat × Value)
  | [], _ => none
  | e :: r, i => if k = e.1 then some (i, .int .i64 e.2) else findI k r (i + 1)
variable {kf : α → Value} (hk : ∀ x y, keq (kf x) (kf y) = some (decide (x = y)))
include hk
theorem findV_esL (k : α) : ∀ (kv : List (α × Int)) (n i : Nat), findV (kf k) (esL kf n kv) i = some (findI k kv i)
  | [], _, _ => rfl
  | e :: r, n, i => by
    simp only [esL, findV, hk, Option.bind_some, findI, decide_eq_true_eq, findV_esL k r (n + 1) (i + 1)]
    split <;> rfl
omit hk in
theorem findI_get (k : α) : ∀ (kv : List (α × Int)) (i : Nat), ((findI k kv i).map (·.2)).getD (.int .i64 0) = .int .i64 (getM kv k) ∧ (findI k kv i).isSome = inM kv k
  | [], _ => ⟨rfl, rfl⟩
  | e :: r, i => by
    have ih := findI_get k r (i + 1)
    simp only [findI, getM, inM, List.find?_cons, List.any_cons] at ih ⊢
    by_cases h : k = e.1
    · simp [h]
    · simpa [h] using ih
theorem lookV_esG (k : α) (kv : List (α × Int)) : lookV (esG kf kv) (kf k) (.int .i64 0) = some (.int .i64 (getM kv k), inM kv k) := by
  unfold lookV esG
  rw [List.toList_toArray, findV_esL hk]
  simp only [Option.map_some, (findI_get k kv 0).1, (findI_get k kv 0).2]
omit hk in
theorem esL_append : ∀ (kv r : List (α × Int)) (n : Nat), esL kf n (kv ++ r) = esL kf n kv ++ esL kf (n + kv.length) r
  | [], r, n => by simp [esL]
  | e :: l, r, n => by simp only [List.cons_append, esL, esL_append l r (n + 1), List.length_cons]; rw [show n + 1 + l.length = n + (l.length + 1) by omega]
omit hk in
theorem esL_length : ∀ (kv : List (α × Int)) (n : Nat), (esL kf n kv).length = kv.length
  | [], _ => rfl
  | e :: r, n => by simp [esL, esL_length r]
omit hk in
theorem setM_none (k : α) (v : Int) : ∀ (kv : List (α × Int)) (i : Nat), findI k kv i = none → setM kv k v = kv ++ [(k, v)]
  | [], _, _ => rfl
  | e :: r, i, h => by
    simp only [findI] at h
    split at h
    · cases h
    · rename_i hne; simp only [setM, if_neg hne, setM_none k v r (i + 1) h, List.cons_append]
omit hk in
theorem setM_some (k : α) (v : Int) : ∀ (kv : List (α × Int)) (n i j : Nat) (x : Value), findI k kv i = some (i + j, x) → (esL kf n kv).modify j (fun e => { e with key := kf k, val := .int .i64 v }) = esL kf n (setM kv k v) ∧ (setM kv k v).length = kv.length
  | [], n, i, j, x, h => by simp [findI] at h
  | e :: r, n, i, j, x, h => by
    simp only [findI] at h
    split at h
    · rename_i he
      have : j = 0 := by simp at h; omega
      subst this
      simp only [esL, setM, if_pos he, List.modify_zero_cons, List.length_cons, and_self]
    · rename_i hne
      cases j with
      | zero =>
        exfalso
        have key : ∀ (l : List (α × Int)) (m : Nat), ∀ q y, findI k l m = some (q, y) → m ≤ q := by
          intro l
          induction l with
          | nil => intro m q y h; simp [findI] at h
          | cons a l ih =>
            intro m q y h
            simp only [findI] at h
            split at h
            · simp at h; omega
            · have := ih _ _ _ h; omega
        have := key _ _ _ _ h
        omega
      | succ j =>
        have := setM_some k v r (n + 1) (i + 1) j x (by rw [show i + 1 + j = i + (j + 1) by omega]; exact h)
        simp only [esL, setM, if_neg hne, List.modify_succ_cons, this.1, List.length_cons, this.2, and_self]
theorem putO_esG (k : α) (v : Int) (kv : List (α × Int)) : putO (esG kf kv) kv.length (kf k) (.int .i64 v) = some (mapG kf (setM kv k v)) := by
  unfold putO
  have e : (esG kf kv).toList = esL kf 0 kv := by unfold esG; rw [List.toList_toArray]
  rw [e, findV_esL hk]
  simp only [Option.map_some, Option.some.injEq]
  cases h : findI k kv 0 with
  | none =>
    simp only [putE]
    rw [setM_none k v kv 0 h]
    unfold mapG
    have : (esG kf kv).push ⟨kf k, .int .i64 v, kv.length⟩ = esG kf (kv ++ [(k, v)]) := by
      apply Array.ext'
      simp [esG, esL_append, esL]
    rw [this]; simp
  | some r =>
    obtain ⟨j, x⟩ := r
    obtain ⟨h1, h2⟩ := setM_some (kf := kf) k v kv 0 0 j x (by rw [Nat.zero_add]; exact h)
    simp only [putE]
    unfold mapG
    rw [h2]
    have : (esG kf kv).modify j (fun e => { e with key := kf k, val := .int .i64 v }) = esG kf (setM kv k v) := by
      apply Array.ext'
      rw [Array.toList_modify, e, h1]; simp [esG]
    rw [this]
end
abbrev kI (x : Int) : Value := .int .i64 x
abbrev kP (x : Int × Int) : Value := .agg #[.int .i64 x.1, .int .i64 x.2]
def mapI (kv : List (Int × Int)) : HObj := mapG kI kv
def mapP (kv : List ((Int × Int) × Int)) : HObj := mapG kP kv
theorem mapOf_I {kv : List (Int × Int)} : mapOf (mapI kv) = some (esG kI kv, kv.length) := rfl
theorem mapOf_P {kv : List ((Int × Int) × Int)} : mapOf (mapP kv) = some (esG kP kv, kv.length) := rfl
theorem lookV_I {kv : List (Int × Int)} {k : Int} : lookV (esG kI kv) (.int .i64 k) (.int .i64 0) = some (.int .i64 (getM kv k), inM kv k) := lookV_esG (fun _ _ => keq_int) k kv
theorem lookV_P {kv : List ((Int × Int) × Int)} {a b : Int} : lookV (esG kP kv) (.agg #[.int .i64 a, .int .i64 b]) (.int .i64 0) = some (.int .i64 (getM kv (a, b)), inM kv (a, b)) := lookV_esG (kf := kP) (fun _ _ => keq_ag2) (a, b) kv
theorem putO_I {kv : List (Int × Int)} {k v : Int} : putO (esG kI kv) kv.length (.int .i64 k) (.int .i64 v) = some (mapI (setM kv k v)) := putO_esG (fun _ _ => keq_int) k v kv
theorem putO_P {kv : List ((Int × Int) × Int)} {a b v : Int} : putO (esG kP kv) kv.length (.agg #[.int .i64 a, .int .i64 b]) (.int .i64 v) = some (mapP (setM kv (a, b) v)) := putO_esG (kf := kP) (fun _ _ => keq_ag2) (a, b) v kv
attribute [go_sem] mapOf_I mapOf_P lookV_I lookV_P putO_I putO_P
end Go.Proofs.Yteieinhgdjjdoaa
namespace Go.Proofs.Yteieinhgdjjdoaa
open Go.RowKit
set_option linter.unusedVariables false
set_option linter.unusedSimpArgs false
set_option maxRecDepth 8000
def keysB (g : List Int) : List (Int × Int) := g.foldl (fun kv n => setM kv n (getM kv n + 1)) []
theorem keysB_snoc (g : List Int) (n : Int) : keysB (g ++ [n]) = setM (keysB g) n (getM (keysB g) n + 1) := by simp [keysB, List.foldl_append]
theorem getM_setM (kv : List (Int × Int)) (k v j : Int) : getM (setM kv k v) j = if j = k then v else getM kv j := by
  induction kv with
  | nil =>
    simp only [setM, getM, List.find?_cons, List.find?_nil]
    by_cases h : j = k <;> simp [h]
  | cons e r ih =>
    unfold setM
    by_cases h : k = e.1
    · rw [if_pos h]
      simp only [getM, List.find?_cons]
      by_cases h2 : j = k
      · simp [h2]
      · simp [h2, h ▸ h2]
    · rw [if_neg h]
      simp only [getM, List.find?_cons] at ih ⊢
      by_cases h2 : j = e.1
      · have : j ≠ k := fun e' => h (by rw [← e', h2])
        simp [h2, h2 ▸ this]
      · simp only [h2, decide_false] at ih ⊢
        exact ih
theorem getM_fold (n : Int) : ∀ (g : List Int) (kv : List (Int × Int)), getM (g.foldl (fun kv n => setM kv n (getM kv n + 1)) kv) n = getM kv n + ((g.filter fun x => decide (x = n)).length : Int)
  | [], kv => by simp
  | x :: g, kv => by
    rw [List.foldl_cons, getM_fold n g, getM_setM]
    by_cases h : n = x
    · subst h; simp; omega
    · simp [h, Ne.symm h]
theorem getM_keysB (g : List Int) (n : Int) : getM (keysB g) n = ((g.filter fun x => decide (x = n)).length : Int) := by
  unfold keysB
  rw [getM_fold]
  simp [getM]
theorem getM_keysB_pos (g : List Int) (n : Int) : (0 < getM (keysB g) n) = (n ∈ g) := by
  rw [getM_keysB]
  simp only [eq_iff_iff]
  rw [show (0 : Int) < ((g.filter fun x => decide (x = n)).length : Int) ↔ 0 < (g.filter fun x => decide (x = n)).length by omega, List.length_pos_iff_exists_mem]
  simp
theorem getM_keysB_le (g : List Int) (n : Int) : 0 ≤ getM (keysB g) n ∧ getM (keysB g) n ≤ g.length := by
  rw [getM_keysB]
  have := List.length_filter_le (fun x => decide (x = n)) g
  omega
abbrev owMap (kv : List (Int × Int)) : HV := .om (.map (esG kI kv) kv.length) []
theorem crossKeys (g : List Int) (hg : g.length ≤ 100000) : HFn Try.prog 42 [.sl (ints g)] (owMap (keysB g)) := by
  refine HCalls_body (fn := Try.f42) 19 [2] (by kernel_rfl) rfl (by kernel_rfl) (HW.run 400 (by kernel_rfl) ?_)
  simp (config := { decide := true }) only [go_sem, Int.reduceToNat, Nat.reduceAdd, Nat.reduceSub, Nat.reduceMul, Nat.reduceBEq, reduceIte, reduceCtorEq]
  refine HW.loopG (fun k T H => ∃ i : Nat, k = g.length - i ∧ i ≤ g.length ∧ T 3 = .mp 0 ∧ T 7 = .sl (ints g) ∧ T 8 = .v (.int .i64 g.length) ∧ T 9 = .v (.int .i64 i) ∧ H = [some (mapI (keysB (g.take i)))]) g.length ⟨_, _, Ghost.refl, 0, rfl, by omega, rfl, rfl, rfl, rfl, rfl⟩ ?_
  rintro k T H ⟨i, rfl, hi, h3, h7, h8, h9, rfl⟩
  refine HW.run 200 (by kernel_rfl) ?_
  by_cases hlt : i < g.length
  · have hlt' : ((i : Int) < (g.length : Int)) = True := by rw [int_lt]; simp [hlt]
    have hx : g[i]? = some g[i] := List.getElem?_eq_getElem hlt
    have htk : g.take (i + 1) = g.take i ++ [g[i]] := by rw [List.take_add_one, hx]; rfl
    generalize g[i] = x at hx htk
    have hle := getM_keysB_le (g.take i) x
    rw [List.length_take] at hle
    have hw : IntKind.i64.wrap (getM (keysB (g.take i)) x + 1) = getM (keysB (g.take i)) x + 1 := w64 (by omega) (by omega)
    simp (config := { decide := true }) only [go_sem, Int.reduceToNat, Nat.reduceAdd, Nat.reduceSub, Nat.reduceMul, Nat.reduceBEq, reduceIte, reduceCtorEq, h3, h7, h8, h9, hlt', hx, hw]
    refine ⟨_, _, Ghost.refl, g.length - (i + 1), by omega, i + 1, rfl, by omega, ?_, ?_, ?_, ?_, ?_⟩
    iterate 3 simp (config := { decide := true }) only [go_sem, Nat.reduceBEq, reduceIte, h3, h7, h8]
    · simp (config := { decide := true }) only [go_sem, Nat.reduceBEq, reduceIte]; rw [w64 (by omega) (by omega)]; rfl
    · rw [htk, keysB_snoc]
  · have hlt' : ((i : Int) < (g.length : Int)) = False := by rw [int_lt]; simp [hlt]
    have htk : g.take i = g := List.take_of_length_le (by omega)
    simp (config := { decide := true }) only [go_sem, Int.reduceToNat, Nat.reduceAdd, Nat.reduceSub, Nat.reduceMul, Nat.reduceBEq, reduceIte, reduceCtorEq, h3, h7, h8, h9, hlt', htk]
    exact ⟨rfl, rfl⟩
theorem slotsKeys (g : List Int) (hg : g.length ≤ 100000) : HFn Try.prog 63 [.sl (ints g)] (owMap (keysB g)) := by
  refine HCalls_body (fn := Try.f63) 19 [2] (by kernel_rfl) rfl (by kernel_rfl) (HW.run 400 (by kernel_rfl) ?_)
  simp (config := { decide := true }) only [go_sem, Int.reduceToNat, Nat.reduceAdd, Nat.reduceSub, Nat.reduceMul, Nat.reduceBEq, reduceIte, reduceCtorEq]
  refine HW.loopG (fun k T H => ∃ i : Nat, k = g.length - i ∧ i ≤ g.length ∧ T 3 = .mp 0 ∧ T 7 = .sl (ints g) ∧ T 8 = .v (.int .i64 g.length) ∧ T 9 = .v (.int .i64 i) ∧ H = [some (mapI (keysB (g.take i)))]) g.length ⟨_, _, Ghost.refl, 0, rfl, by omega, rfl, rfl, rfl, rfl, rfl⟩ ?_
  rintro k T H ⟨i, rfl, hi, h3, h7, h8, h9, rfl⟩
  refine HW.run 200 (by kernel_rfl) ?_
  by_cases hlt : i < g.length
  · have hlt' : ((i : Int) < (g.length : Int)) = True := by rw [int_lt]; simp [hlt]
    have hx : g[i]? = some g[i] := List.getElem?_eq_getElem hlt
    have htk : g.take (i + 1) = g.take i ++ [g[i]] := by rw [List.take_add_one, hx]; rfl
    generalize g[i] = x at hx htk
    have hle := getM_keysB_le (g.take i) x
    rw [List.length_take] at hle
    have hw : IntKind.i64.wrap (getM (keysB (g.take i)) x + 1) = getM (keysB (g.take i)) x + 1 := w64 (by omega) (by omega)
    simp (config := { decide := true }) only [go_sem, Int.reduceToNat, Nat.reduceAdd, Nat.reduceSub, Nat.reduceMul, Nat.reduceBEq, reduceIte, reduceCtorEq, h3, h7, h8, h9, hlt', hx, hw]
    refine ⟨_, _, Ghost.refl, g.length - (i + 1), by omega, i + 1, rfl, by omega, ?_, ?_, ?_, ?_, ?_⟩
    iterate 3 simp (config := { decide := true }) only [go_sem, Nat.reduceBEq, reduceIte, h3, h7, h8]
    · simp (config := { decide := true }) only [go_sem, Nat.reduceBEq, reduceIte]; rw [w64 (by omega) (by omega)]; rfl
    · rw [htk, keysB_snoc]
  · have hlt' : ((i : Int) < (g.length : Int)) = False := by rw [int_lt]; simp [hlt]
    have htk : g.take i = g := List.take_of_length_le (by omega)
    simp (config := { decide := true }) only [go_sem, Int.reduceToNat, Nat.reduceAdd, Nat.reduceSub, Nat.reduceMul, Nat.reduceBEq, reduceIte, reduceCtorEq, h3, h7, h8, h9, hlt', htk]
    exact ⟨rfl, rfl⟩
end Go.Proofs.Yteieinhgdjjdoaa
namespace Go.Proofs.Yteieinhgdjjdoaa
open Go.RowKit
set_option linter.unusedVariables false
set_option linter.unusedSimpArgs false
set_option linter.unusedSectionVars false
section
variable {α : Type} [DecidableEq α]
theorem getM_setM' (kv : List (α × Int)) (k : α) (v : Int) (j : α) : getM (setM kv k v) j = if j = k then v else getM kv j := by
  induction kv with
  | nil =>
    simp only [setM, getM, List.find?_cons, List.find?_nil]
    by_cases h : j = k <;> simp [h]
  | cons e r ih =>
    unfold setM
    by_cases h : k = e.1
    · rw [if_pos h]
      simp only [getM, List.find?_cons]
      by_cases h2 : j = k
      · simp [h2]
      · simp [h2, h ▸ h2]
    · rw [if_neg h]
      simp only [getM, List.find?_cons] at ih ⊢
      by_cases h2 : j = e.1
      · have : j ≠ k := fun e' => h (by rw [← e', h2])
        simp [h2, h2 ▸ this]
      · simp only [h2, decide_false] at ih ⊢
        exact ih
def foldC (kv : List (α × Int)) (l : List α) : List (α × Int) := l.foldl (fun kv n => setM kv n (getM kv n + 1)) kv
theorem foldC_cons (kv : List (α × Int)) (x : α) (l : List α) : foldC kv (x :: l) = foldC (setM kv x (getM kv x + 1)) l := rfl
theorem getM_foldC (n : α) : ∀ (g : List α) (kv : List (α × Int)), getM (foldC kv g) n = getM kv n + ((g.filter fun x => decide (x = n)).length : Int)
  | [], kv => by simp [foldC]
  | x :: g, kv => by
    rw [foldC_cons, getM_foldC n g, getM_setM']
    by_cases h : n = x
    · subst h; simp; omega
    · simp [h, Ne.symm h]
theorem getM_entM (kv : List (α × Int)) (k j : α) : getM (entM kv k) j = getM kv j := by
  unfold entM
  split
  · rfl
  · rename_i h
    unfold getM
    rw [List.find?_append]
    cases hf : kv.find? (fun e => decide (j = e.1)) with
    | some e => rfl
    | none =>
      simp only [List.find?_cons, List.find?_nil, Option.none_or]
      by_cases hj : j = k <;> simp [hj]
variable {kf : α → Value} (hk : ∀ x y, keq (kf x) (kf y) = some (decide (x = y)))
theorem findI_idx (k : α) : ∀ (kv : List (α × Int)) (i : Nat), findI k kv i = if inM kv k = true then some (i + idxM kv k, .int .i64 (getM kv k)) else none
  | [], i => by simp [findI, inM]
  | e :: r, i => by
    have ih := findI_idx k r (i + 1)
    by_cases h : k = e.1
    · have h1 : inM (e :: r) k = true := by simp [inM, h]
      have h2 : idxM (e :: r) k = 0 := by simp [idxM, List.findIdx_cons, h]
      have h3 : getM (e :: r) k = e.2 := by simp [getM, h]
      rw [h1, h2, h3]
      simp [findI, h]
    · have h1 : inM (e :: r) k = inM r k := by simp [inM, h]
      have h2 : idxM (e :: r) k = idxM r k + 1 := by simp [idxM, List.findIdx_cons, h]
      have h3 : getM (e :: r) k = getM r k := by simp [getM, List.find?_cons, h]
      rw [h1, h2, h3]
      simp only [findI, if_neg h]
      rw [ih, show i + 1 + idxM r k = i + (idxM r k + 1) by omega]
theorem idxM_lt {kv : List (α × Int)} {k : α} (h : inM kv k = true) : idxM kv k < kv.length := by
  unfold idxM inM at *
  exact List.findIdx_lt_length_of_exists (by simpa [List.any_eq_true] using h)
theorem idxM_no {kv : List (α × Int)} {k : α} (h : inM kv k = false) : idxM kv k = kv.length := by
  unfold idxM inM at *
  refine List.findIdx_eq_length.2 fun x hx => ?_
  have := List.any_eq_false.1 h x hx
  simpa using this
theorem esL_born : ∀ (kv : List (α × Int)) (n i : Nat), i < kv.length → ((esL kf n kv)[i]?).map (·.born) = some (n + i)
  | [], n, i, h => by simp at h
  | e :: r, n, 0, h => by simp [esL]
  | e :: r, n, i + 1, h => by
    simp only [esL, List.getElem?_cons_succ]
    rw [esL_born r (n + 1) i (by simpa using h)]
    congr 1; omega
theorem esL_modify_key (k : α) : ∀ (kv : List (α × Int)) (n i : Nat), (kv[i]?).map (·.1) = some k → (esL kf n kv).modify i (fun e => { e with key := kf k }) = esL kf n kv
  | [], n, i, h => by simp at h
  | e :: r, n, 0, h => by
    simp only [List.getElem?_cons_zero, Option.map_some, Option.some.injEq] at h
    simp [esL, h]
  | e :: r, n, i + 1, h => by
    simp only [List.getElem?_cons_succ] at h
    simp only [esL, List.modify_succ_cons]
    rw [esL_modify_key k r (n + 1) i h]
theorem idxM_key {kv : List (α × Int)} {k : α} (h : inM kv k = true) : (kv[idxM kv k]?).map (·.1) = some k := by
  have hl := idxM_lt h
  have := List.findIdx_getElem (w := (hl : kv.findIdx (fun e => decide (k = e.1)) < kv.length))
  rw [List.getElem?_eq_getElem hl]
  simp only [decide_eq_true_eq] at this
  simp only [Option.map_some, Option.some.injEq]
  exact this.symm
include hk
theorem entO_esG (k : α) (kv : List (α × Int)) : entO (esG kf kv) kv.length (kf k) (.int .i64 0) = some (.int .i64 (getM kv k), idxM kv k, mapG kf (entM kv k)) := by
  unfold entO
  have e : (esG kf kv).toList = esL kf 0 kv := by unfold esG; rw [List.toList_toArray]
  rw [e, findV_esL hk, findI_idx]
  cases h : inM kv k with
  | true =>
    simp only [if_true, Option.map_some, entV, entE, Nat.zero_add, entM, h]
    have h1 : ((esG kf kv)[idxM kv k]?).map (·.born) = some (idxM kv k) := by
      rw [← Array.getElem?_toList, e, esL_born kv 0 _ (idxM_lt h), Nat.zero_add]
    rw [h1]
    have h2 : (esG kf kv).modify (idxM kv k) (fun e => { e with key := kf k }) = esG kf kv := by
      apply Array.ext'
      rw [Array.toList_modify, e, esL_modify_key k kv 0 _ (idxM_key h)]
    rw [h2]; rfl
  | false =>
    have hg : getM kv k = 0 := by
      unfold getM
      rw [List.find?_eq_none.2 fun x hx => by
        have := List.any_eq_false.1 h x hx
        simpa using this]
      rfl
    simp only [Bool.false_eq_true, if_false, Option.map_some, Option.map_none, entV, entE, entM, h, hg, idxM_no h]
    have : (esG kf kv).push ⟨kf k, .int .i64 0, kv.length⟩ = esG kf (kv ++ [(k, 0)]) := by
      apply Array.ext'
      simp [esG, esL_append, esL]
    rw [this]
    unfold mapG
    simp
omit hk
theorem esL_find : ∀ (kv : List (α × Int)) (n i : Nat), i < kv.length → (esL kf n kv).findIdx? (fun e => ((e.born : Int) == ((n + i : Nat) : Int))) = some i
  | [], n, i, h => by simp at h
  | e :: r, n, 0, h => by simp [esL, List.findIdx?_cons]
  | e :: r, n, i + 1, h => by
    simp only [esL, List.findIdx?_cons]
    have : ((n : Int) == ((n + (i + 1) : Nat) : Int)) = false := by
      rw [beq_eq_false_iff_ne]; omega
    rw [this]
    have ih := esL_find r (n + 1) i (by simpa using h)
    rw [show n + 1 + i = n + (i + 1) by omega] at ih
    simp only [Bool.false_eq_true, if_false]
    rw [ih]; rfl
theorem esL_store (k : α) (v : Int) : ∀ (kv : List (α × Int)) (n : Nat), inM kv k = true → (esL kf n kv).modify (idxM kv k) (fun e => { e with val := .int .i64 v }) = esL kf n (setM kv k v)
  | [], n, h => by simp [inM] at h
  | e :: r, n, h => by
    unfold setM
    by_cases he : k = e.1
    · have : idxM (e :: r) k = 0 := by unfold idxM; simp [List.findIdx_cons, he]
      rw [this, if_pos he]
      simp [esL, he]
    · have : idxM (e :: r) k = idxM r k + 1 := by unfold idxM; simp [List.findIdx_cons, he]
      rw [this, if_neg he]
      simp only [esL, List.modify_succ_cons]
      rw [esL_store k v r (n + 1) (by simpa [inM, he] using h)]
theorem setM_len {k : α} {v : Int} : ∀ {kv : List (α × Int)}, inM kv k = true → (setM kv k v).length = kv.length
  | [], h => by simp [inM] at h
  | e :: r, h => by
    unfold setM
    by_cases he : k = e.1
    · rw [if_pos he]; simp
    · rw [if_neg he]
      simp only [List.length_cons]
      rw [setM_len (by simpa [inM, he] using h)]
theorem inM_entM (kv : List (α × Int)) (k : α) : inM (entM kv k) k = true := by
  unfold entM
  split
  · assumption
  · simp [inM]
theorem idxM_entM (kv : List (α × Int)) (k : α) : idxM (entM kv k) k = idxM kv k := by
  unfold entM
  split
  · rfl
  · rename_i h
    have h : inM kv k = false := by simpa using h
    rw [idxM_no h]
    unfold idxM
    rw [List.findIdx_append]
    have h1 : kv.findIdx (fun e => decide (k = e.1)) = kv.length := idxM_no h
    rw [h1, if_neg (by omega)]
    simp
theorem setM_entM (kv : List (α × Int)) (k : α) (v : Int) : setM (entM kv k) k v = setM kv k v := by
  unfold entM
  split
  · rfl
  · rename_i h
    have h : inM kv k = false := by simpa using h
    induction kv with
    | nil => simp [setM]
    | cons e r ih =>
      simp only [inM, List.any_cons, Bool.or_eq_false_iff, decide_eq_false_iff_not] at h
      simp only [List.cons_append, setM, if_neg h.1]
      rw [ih (by unfold inM; rw [h.2]; simp) h.2]
theorem stoO_esG (k : α) (v : Int) (kv : List (α × Int)) : stoO (esG kf (entM kv k)) (entM kv k).length ((idxM kv k : Nat) : Int) (.int .i64 v) = some (mapG kf (setM kv k v)) := by
  unfold stoO
  rw [← idxM_entM kv k, ← setM_entM kv k]
  have hin := inM_entM kv k
  generalize entM kv k = m at hin
  have e : (esG kf m).toList = esL kf 0 m := by unfold esG; rw [List.toList_toArray]
  have h1 := esL_find (kf := kf) m 0 (idxM m k) (idxM_lt hin)
  rw [Nat.zero_add] at h1
  have h3 : (esG kf m).findIdx? (fun e => ((e.born : Int) == ((idxM m k : Nat) : Int))) = some (idxM m k) := by
    rw [← h1, ← e]
    obtain ⟨l⟩ := esG kf m
    simp
  rw [h3]
  simp only [Option.map_some, Option.some.injEq]
  unfold mapG
  rw [setM_len hin]
  have h2 : (esG kf m).modify (idxM m k) (fun e => { e with val := .int .i64 v }) = esG kf (setM m k v) := by
    apply Array.ext'
    rw [Array.toList_modify, e, esL_store k v m 0 hin]; simp [esG]
  rw [h2]
end
theorem entO_P {kv : List ((Int × Int) × Int)} {a b : Int} : entO (esG kP kv) kv.length (.agg #[.int .i64 a, .int .i64 b]) (.int .i64 0) = some (.int .i64 (getM kv (a, b)), idxM kv (a, b), mapP (entM kv (a, b))) := entO_esG (kf := kP) (fun _ _ => keq_ag2) (a, b) kv
theorem entO_I {kv : List (Int × Int)} {a : Int} : entO (esG kI kv) kv.length (.int .i64 a) (.int .i64 0) = some (.int .i64 (getM kv a), idxM kv a, mapI (entM kv a)) := entO_esG (kf := kI) (fun _ _ => keq_int) a kv
theorem stoO_P {kv : List ((Int × Int) × Int)} {k : Int × Int} {v : Int} : stoO (esG kP (entM kv k)) (entM kv k).length ((idxM kv k : Nat) : Int) (.int .i64 v) = some (mapP (setM kv k v)) := stoO_esG k v kv
theorem stoO_I {kv : List (Int × Int)} {k : Int} {v : Int} : stoO (esG kI (entM kv k)) (entM kv k).length ((idxM kv k : Nat) : Int) (.int .i64 v) = some (mapI (setM kv k v)) := stoO_esG k v kv
theorem getM_entP {kv : List ((Int × Int) × Int)} {k j : Int × Int} : getM (entM kv k) j = getM kv j := getM_entM kv k j
theorem getM_entI {kv : List (Int × Int)} {k j : Int} : getM (entM kv k) j = getM kv j := getM_entM kv k j
theorem nmR_mapI {kv : List (Int × Int)} {m : Nat} : nmR m (mapI kv).rows = true := rfl
theorem nmR_mapP {kv : List ((Int × Int) × Int)} {m : Nat} : nmR m (mapP kv).rows = true := rfl
attribute [go_sem] nmR_mapI nmR_mapP entO_P entO_I stoO_P stoO_I getM_entP getM_entI
end Go.Proofs.Yteieinhgdjjdoaa
namespace Go.Proofs.Yteieinhgdjjdoaa
open Go.RowKit
set_option linter.unusedVariables false
set_option linter.unusedSimpArgs false
def head (all : List Oper) (m f : Nat) (of : Oper) : List Oper := (all.take m).set f { of with op := .move (.global 0) }
theorem head_dst {all : List Oper} {m f j t : Nat} {of : Oper} (hof : all[f]? = some of) (hj : dstAt (head all m f of) j = some t) : ∃ oj, all[j]? = some oj ∧ oj.dst = some t ∧ j < m := by
  by_cases e : j = f
  · subst e
    have hlt : j < (all.take m).length := by
      unfold dstAt head at hj
      cases hx : ((all.take m).set j { of with op := .move (.global 0) })[j]? with
      | none => rw [hx] at hj; cases hj
      | some oj => have := (List.getElem?_eq_some_iff.1 hx).1; simpa using this
    have : dstAt (head all m j of) j = of.dst := by
      unfold dstAt head
      rw [List.getElem?_set_self hlt]; rfl
    rw [this] at hj
    rw [List.length_take] at hlt
    exact ⟨of, hof, hj, by omega⟩
  · have : dstAt (head all m f of) j = dstAt (all.take m) j := by
      unfold dstAt head
      rw [List.getElem?_set_ne (Ne.symm e)]
    rw [this] at hj
    exact take_dst hj
structure Pend (te : TypeId) (zc : Array Value) (w0 : World) (Z : Nat → Prop) (FP : Nat → List Nat) (w : World) (b : Nat) : Prop where
  new : w0.heap.size ≤ b
  cells : w.heap[b]? = some (.cells zc te (0, 0))
  z : ¬ Z b
  fp : ∀ id, b ∉ FP id
theorem Pend.evo {te : TypeId} {zc : Array Value} {w0 w w' : World} {Z Z' : Nat → Prop} {FP FP' : Nat → List Nat} {b : Nat} (h : Pend te zc w0 Z FP w b) (e : Evo Z FP w Z' FP' w') : Pend te zc w0 Z' FP' w' b := by
  have hlt := (Array.getElem?_eq_some_iff.1 h.cells).1
  refine ⟨h.new, (e.keep b hlt h.fp).trans h.cells, fun hz => ?_, fun id hc => ?_⟩
  · rcases e.znew b hz with h1 | h1 | ⟨id, h1⟩
    · exact h.z h1
    · omega
    · exact h.fp id h1
  · rcases e.fnew id b hc with h1 | ⟨id', h1⟩
    · omega
    · exact h.fp id' h1
def flT (f d b : Nat) (listed : Array Bool) (l : List Oper) (xs : List HV) (T0 : Nat → HV) : Nat → HV :=
  if listed.getD f false = true then upd (runM (fun k => listed.getD k false) 0 l xs T0) d (.v (.pointer (some ⟨b, 0, none⟩))) else runM (fun k => listed.getD k false) 0 l xs T0
theorem flT_ne {f d b t : Nat} {listed : Array Bool} {l : List Oper} {xs : List HV} {T0 : Nat → HV} (h : t ≠ d) : flT f d b listed l xs T0 t = runM (fun k => listed.getD k false) 0 l xs T0 t := by
  unfold flT
  split
  · simp [upd, h]
  · rfl
section go
variable {P : Program} {N L m mm B : Nat} {base : Nat × Nat} {hv : List Nat} {ro : Option Nat} {all : List Oper} {Φ : Exit → Act → World → Prop}
theorem any_float {f d : Nat} {te : TypeId} {zc : Array Value} {of : Oper} (hfm : f < m) (hof : all[f]? = some of) (hfv : hv.contains f = false) (hfd : of.dst = some d) (hdN : d < N)
    (hfr : ∀ (j : Nat) o, j ≠ f → j < m → all[j]? = some o → o.dst ≠ some d ∧ d ∉ seenT all o)
    (hrun : ∀ (a : Act) (w : World), Region.wanted of (yielded all.toArray a.tmps) = true ∧ (execOp a.eval of).run P w = .ok (.value (.pointer (some ⟨w.heap.size, 0, none⟩))) (w.alloc (.cells zc te))) (hA : AnyOk3 N m hv all) {Z0 : Nat → Prop} {G0 : List (Option OG)} {FP0 : Nat → List Nat} {ds : List Nat} {T0 : Nat → HV} {H0 : Heap} {xs : List HV} {hs : List Heap} {w0 : World} (hxf : xs[f]? = some .any) (hc0 : CertNL P base hv all 0 (head all m f of) T0 H0 xs hs) (hml : m ≤ all.length)
    (hB : ∀ Z FP w, Evo Z0 FP0 w0 Z FP w → Bo ro B FP w)
    (hend : ∀ Z G FP a w b, Pend te zc w0 Z FP w b → St N B Z G FP ds (upd (runM (fun _ => true) 0 (head all m f of) xs T0) d (.v (.pointer (some ⟨b, 0, none⟩)))) (heapAt H0 hs m) a w → GLt L G0 G → Evo Z0 FP0 w0 Z FP w → wpListIn (Wd ro) mm P all.toArray Φ (all.drop m) a w) :
    ∀ (fuel : Nat) (listed : Array Bool) (c : Nat) (Z : Nat → Prop) (G : List (Option OG)) (FP : Nat → List Nat) (a : Act) (w : World) (b : Nat), listed.size = all.length → left listed ≤ fuel → Closed all listed → (∀ j, m ≤ j → j < all.length → listed.getD j false = false) →
    c ≤ m → (∀ (j : Nat), j < m → hv.contains j = true → (listed.getD j false = true ↔ j < c)) →
    (listed.getD f false = true → Pend te zc w0 Z FP w b) → St N B Z G FP ds (flT f d b listed (head all m f of) xs T0) (heapAt H0 hs c) a w → GLt L G0 G → Evo Z0 FP0 w0 Z FP w → wpAnyIn (Wd ro) mm P .any all.toArray Φ fuel listed a w := by
  have hlm : (head all m f of).length = m := by unfold head; rw [List.length_set, List.length_take]; omega
  have fin : ∀ (listed : Array Bool) (c : Nat) (Z : Nat → Prop) (G : List (Option OG)) (FP : Nat → List Nat) (a : Act) (w : World) (b : Nat), c ≤ m → (∀ k, k < m → listed.getD k false = true) → (∀ (j : Nat), j < m → hv.contains j = true → (listed.getD j false = true ↔ j < c)) →
      (listed.getD f false = true → Pend te zc w0 Z FP w b) → St N B Z G FP ds (flT f d b listed (head all m f of) xs T0) (heapAt H0 hs c) a w → GLt L G0 G → Evo Z0 FP0 w0 Z FP w → wpListIn (Wd ro) mm P all.toArray Φ (all.drop m) a w := by
    intro listed c Z G FP a w b hcm hall hcl hpend hs' hG hE
    have hfl : listed.getD f false = true := hall f hfm
    have hTe : runM (fun k => listed.getD k false) 0 (head all m f of) xs T0 = runM (fun _ => true) 0 (head all m f of) xs T0 := by
      funext t
      refine runM_at _ _ _ _ _ rfl fun j hj => ?_
      obtain ⟨oj, h1, h2, h3⟩ := head_dst hof hj
      simp only [Nat.zero_add]
      exact hall j h3
    have hHe : heapAt H0 hs m = heapAt H0 hs c := heapAt_same hc0 m c hcm (by omega) fun j h1 h2 => by
      cases hv' : hv.contains j with
      | false => rfl
      | true => have := (hcl j h2 hv').1 (hall j h2); omega
    refine hend Z G FP a w b (hpend hfl) ?_ hG hE
    unfold flT at hs'
    rw [if_pos hfl] at hs'
    rw [← hTe, hHe]; exact hs'
  intro fuel
  induction fuel with
  | zero =>
    intro listed c Z G FP a w b hsz hf hc hm hcm hcl hpend hs' hG hE
    have hall := left_zero (Nat.le_zero.1 hf)
    have hml' : all.length ≤ m := by
      rcases Nat.lt_or_ge m all.length with h | h
      · have h1 := hm m (Nat.le_refl _) h
        rw [hall m (by omega)] at h1; cases h1
      · exact h
    have hno : Region.ready .any all.toArray listed = [] := by
      rw [List.eq_nil_iff_forall_not_mem]
      intro i hi
      obtain ⟨h1, o, ho, _⟩ := mem_ready.1 hi
      rw [List.getElem?_toArray] at ho
      have hi' := (List.getElem?_eq_some_iff.1 ho).1
      have h2 := hall i (by omega)
      rw [Array.getD_eq_getD_getElem?, not_listed h1] at h2
      simp at h2
    refine ⟨hno, ?_⟩
    have := fin listed c Z G FP a w b hcm (fun k hk => hall k (by omega)) hcl hpend hs' hG hE
    rw [List.drop_eq_nil_of_le hml'] at this
    exact this
  | succ fuel ih =>
    intro listed c Z G FP a w b hsz hf hc hm hcm hcl hpend hs' hG hE
    by_cases hall : ∀ k, k < m → listed.getD k false = true
    · have h := fin listed c Z G FP a w b hcm hall hcl hpend hs' hG hE
      refine any_tail hA.base (all.drop m) m (fuel + 1) listed a w rfl (Nat.le_refl _) hml hsz hf hc (fun i hi => ⟨fun hx => ?_, fun hx => hall i hx⟩) h
      rcases Nat.lt_or_ge i m with h' | h'
      · exact h'
      · rw [hm i h' hi] at hx; cases hx
    · have hex : ∃ k, k < m ∧ listed.getD k false = false := by
        apply Classical.byContradiction
        intro hn
        refine hall fun k h1 => ?_
        cases hx : listed.getD k false with
        | true => rfl
        | false => exact absurd ⟨k, h1, hx⟩ hn
      obtain ⟨k, ⟨hk1, hk3⟩, hkl⟩ := exists_least (p := fun k => k < m ∧ listed.getD k false = false) hex
      have hkr : k ∈ Region.ready .any all.toArray listed := ready_least hA.base hsz (by omega) hk3 (fun j hj => by
        cases hx : listed.getD j false with
        | true => rfl
        | false => have := hkl j ⟨by omega, hx⟩; omega)
      refine ⟨fun h0 => by rw [h0] at hkr; simp at hkr, fun i hi => ?_⟩
      obtain ⟨h1, o, ho, ha⟩ := mem_ready.1 hi
      rw [List.getElem?_toArray] at ho
      have hil := (List.getElem?_eq_some_iff.1 ho).1
      have hnl := not_listed h1
      have hnf : listed.getD i false = false := by rw [Array.getD_eq_getD_getElem?, hnl]; rfl
      have him : i < m := by
        rcases Nat.lt_or_ge i m with h' | h'
        · exact h'
        · have := ready_must hA.base hc hi (hA.base.ord k i _ o (by omega) (List.getElem?_eq_getElem (show k < all.length by omega)) ho (.inl h'))
          rw [hk3] at this; cases this
      have hadd := left_add hnl
      have hcl2 := closed_add hc (fun o' ho' e he hb => by rw [ho] at ho'; cases ho'; exact ha e (by simpa using he) hb)
      have hm2 : ∀ j, m ≤ j → j < all.length → (listed.setIfInBounds i true).getD j false = false := fun j h1 h2 => by
        cases hx : (listed.setIfInBounds i true).getD j false with
        | false => rfl
        | true =>
          rcases getD_set_listed hx with rfl | hx
          · omega
          · rw [hm j h1 h2] at hx; cases hx
      by_cases hif : i = f
      ·
        subst hif
        rw [hof] at ho; cases ho
        obtain ⟨hwant, hex⟩ := hrun a w
        obtain ⟨hok, hnd⟩ := hA.base.ok i of hof
        have hoT : (head all m i of)[i]? = some { of with op := .move (.global 0) } := by
          unfold head; rw [List.getElem?_set_self (by rw [List.length_take]; omega)]
        have hT : runM (fun k => (listed.setIfInBounds i true).getD k false) 0 (head all m i of) xs T0 = updO (runM (fun k => listed.getD k false) 0 (head all m i of) xs T0) of.dst .any := by
          refine runM_add (head all m i of) xs 0 i T0 { of with op := .move (.global 0) } .any hoT hxf ?_ ?_ ?_ ?_
          · simp only [Nat.zero_add]; exact getD_set_self (by omega)
          · simp only [Nat.zero_add]; exact hnf
          · intro k hk
            simp only [Nat.zero_add] at hk
            simp only [Array.getD_eq_getD_getElem?, Array.getElem?_setIfInBounds_ne (Ne.symm hk)]
          · intro k hk hS t ht hdk
            simp only [Nat.zero_add] at hS
            obtain ⟨ok, hok', hd, _⟩ := head_dst hof hdk
            have := closed_must hA.base hc k i ok hok' (hc k ok hok' hS) (hA.base.ord i k of ok hk hof hok' (.inr (by
              unfold confB
              rw [show of.dst = some t from ht]
              simp [hd])))
            rw [hnf] at this; cases this
        unfold wpOpIn
        rw [List.getElem?_toArray, hof]
        dsimp only
        rw [if_pos hwant]
        refine ⟨fun _ _ => trivial, ?_⟩
        rw [semAt_plain _ _ _ (noDefer_spec hnd), hex]
        have hsz' : w.heap.size < (w.alloc (.cells zc te)).heap.size := by simp
        have hEv : Evo Z FP w Z FP (w.alloc (.cells zc te)) := ⟨rfl, rfl, rfl, by simp, fun b hb _ => heap_alloc_old w _ hb, fun _ h => h, fun _ h => .inl h, fun id b hb => .inr ⟨id, hb⟩⟩
        have hi2 : HInv Z G FP (heapAt H0 hs c) (w.alloc (.cells zc te)) := hs'.inv.keep (by simp) (fun b hb => heap_alloc_old w _ (by
          rcases hb with hb | ⟨id, hb⟩
          · exact hs'.inv.zlt b hb
          · exact hs'.inv.flt id b hb))
        have hs2 := (hs'.evo hi2 (GLe.refl _) hEv).put (x := .v (.pointer (some ⟨w.heap.size, 0, none⟩))) (y := .pointer (some ⟨w.heap.size, 0, none⟩)) (by simp [RV]) of.dst (fun q hq => by rw [hfd] at hq; cases hq; exact hdN)
        have hTf : updO (flT i d b listed (head all m i of) xs T0) of.dst (.v (.pointer (some ⟨w.heap.size, 0, none⟩))) = flT i d w.heap.size (listed.setIfInBounds i true) (head all m i of) xs T0 := by
          unfold flT
          rw [hnf, if_neg (by simp), if_pos (getD_set_self (by omega)), hT, hfd]
          funext t
          simp only [updO, upd]
          split <;> rfl
        rw [hTf] at hs2
        refine ih (listed.setIfInBounds i true) c Z G FP _ _ w.heap.size (by simpa using hsz) (by omega) hcl2 hm2 hcm (fun j hj hv' => ?_) (fun _ => ⟨hE.size, heap_alloc_new w _, fun hz => by have := hs'.inv.zlt _ hz; omega, fun id hc => by have := hs'.inv.flt id _ hc; omega⟩) hs2 hG (hE.trans hEv)
        rw [← hcl j hj hv']
        constructor
        · intro hxx
          rcases getD_set_listed hxx with rfl | hxx
          · rw [hfv] at hv'; cases hv'
          · exact hxx
        · exact getD_set_keep
      have hoT : (head all m f of)[i]? = some o := by unfold head; rw [List.getElem?_set_ne (Ne.symm hif), List.getElem?_take, if_pos him]; exact ho
      obtain ⟨hd1, hd2⟩ := hfr i o hif him ho
      obtain ⟨x, hx, hcert⟩ := CertNL_at (head all m f of) xs hs 0 i T0 H0 o hc0 hoT
      obtain ⟨hok, hnd⟩ := hA.base.ok i o ho
      have hsee : ∀ t ∈ seenT all o, runM (fun k => decide (k < 0 + i)) 0 (head all m f of) xs T0 t = flT f d b listed (head all m f of) xs T0 t := by
        intro t ht
        rw [flT_ne (fun e => hd2 (by rw [← e]; exact ht))]
        refine runM_at _ _ _ _ _ rfl fun j hj => ?_
        obtain ⟨oj, hoj, hd, hjm⟩ := head_dst hof hj
        simp only [Nat.zero_add]
        rcases Nat.lt_trichotomy j i with h' | h' | h'
        · have := ready_must hA.base hc hi (hA.base.ord j i oj o h' hoj ho (.inr (by simp [confB, hd, ht])))
          rw [this]; simp [h']
        · subst h'; rw [hnf]; simp
        · have hjl := (List.getElem?_eq_some_iff.1 hoj).1
          cases hx : listed.getD j false with
          | false => simp; omega
          | true =>
            have := closed_must hA.base hc j i oj hoj (hc j oj hoj hx) (hA.base.ord i j o oj h' ho hoj (.inr (by
              unfold confB
              rw [hd]
              simp [ht])))
            rw [hnf] at this; cases this
      have hcert' := CertN_congr hsee hcert
      rw [Nat.zero_add] at hcert'
      have hdall : all.all (dstOk N) = true := by
        rw [List.all_eq_true]
        intro o' ho'
        obtain ⟨j', hj'⟩ := List.mem_iff_getElem?.1 ho'
        have := (hA.base.ok j' o' hj').1
        simp only [operOk, Bool.and_eq_true] at this
        exact this.1
      have heavyAt : hv.contains i = true → heapAt H0 hs c = heapAt H0 hs i ∧ c ≤ i := fun hvi => by
        have hci : c ≤ i := by
          rcases Nat.lt_or_ge i c with h | h
          · have := (hcl i him hvi).2 h; rw [hnf] at this; cases this
          · exact h
        refine ⟨(heapAt_same hc0 i c hci (by omega) fun j h1 h2 => ?_).symm, hci⟩
        cases hv' : hv.contains j with
        | false => rfl
        | true =>
          have := ready_must hA.base hc hi (hA.hv j i _ o h2 (List.getElem?_eq_getElem (show j < all.length by omega)) ho hv' hvi)
          have := (hcl j (by omega) hv').1 this
          omega
      have hquiet0 : SameTo base.1 (heapAt H0 hs i) (heapAt H0 hs c) := by
        rcases Nat.lt_or_ge i c with h | h
        · exact (heapAt_mono hc0 c i (by omega) (by omega)).1
        · intro id hid
          exact ((heapAt_mono hc0 i c h (by omega)).1 id hid).symm
      have hquiet : hv.contains i = false → SameTo (bsO hv base i) (heapAt H0 hs i) (heapAt H0 hs c) := fun hvi0 => by
        cases hod : hv.contains (1000 + i) with
        | false =>
          have : bsO hv base i = base.1 := by unfold bsO; rw [if_neg (by rw [hvi0]; simp), if_neg (by rw [hod]; simp)]
          rw [this]; exact hquiet0
        | true =>
          have : bsO hv base i = base.2 := by unfold bsO; rw [if_neg (by rw [hvi0]; simp), if_pos hod]
          rw [this]
          rcases Nat.lt_or_ge i c with h | h
          · refine (heapAt_mono2 hc0 c i (by omega) (by omega) fun j h1 h2 hv' hw => ?_).1
            have hjl : j < all.length := by omega
            have hlj := (hcl j (by omega) hv').2 h2
            rcases Nat.lt_or_ge i j with h3 | h3
            · have := closed_must hA.base hc j i all[j] (List.getElem?_eq_getElem hjl) (hc j all[j] (List.getElem?_eq_getElem hjl) hlj) (hA.od2 i j o all[j] h3 ho (List.getElem?_eq_getElem hjl) hod hw)
              rw [hnf] at this; cases this
            · obtain rfl : i = j := by omega
              rw [hnf] at hlj; cases hlj
          · intro id hid
            refine ((heapAt_mono2 hc0 i c h (by omega) fun j h1 h2 hv' hw => ?_).1 id hid).symm
            have := ready_must hA.base hc hi (hA.od1 j i _ o h2 (List.getElem?_eq_getElem (show j < all.length by omega)) ho hw hod)
            have := (hcl j (by omega) hv').1 this
            omega
      have hT : runM (fun k => (listed.setIfInBounds i true).getD k false) 0 (head all m f of) xs T0 = updO (runM (fun k => listed.getD k false) 0 (head all m f of) xs T0) o.dst x := by
        refine runM_add (head all m f of) xs 0 i T0 o x hoT hx ?_ ?_ ?_ ?_
        · simp only [Nat.zero_add]; exact getD_set_self (by omega)
        · simp only [Nat.zero_add]; exact hnf
        · intro k hk
          simp only [Nat.zero_add] at hk
          simp only [Array.getD_eq_getD_getElem?, Array.getElem?_setIfInBounds_ne (Ne.symm hk)]
        · intro k hk hS t ht hdk
          simp only [Nat.zero_add] at hS
          obtain ⟨ok, hok', hd, _⟩ := head_dst hof hdk
          have := closed_must hA.base hc k i ok hok' (hc k ok hok' hS) (hA.base.ord i k o ok hk ho hok' (.inr (by
            unfold confB
            rw [ht]
            simp [hd])))
          rw [hnf] at this; cases this
      have hTf : flT f d b (listed.setIfInBounds i true) (head all m f of) xs T0 = updO (flT f d b listed (head all m f of) xs T0) o.dst x := by
        have hfs : (listed.setIfInBounds i true).getD f false = listed.getD f false := by
          simp only [Array.getD_eq_getD_getElem?, Array.getElem?_setIfInBounds_ne hif]
        unfold flT
        rw [hfs, hT]
        cases listed.getD f false with
        | false => simp
        | true =>
          simp only [if_true]
          cases hod : o.dst with
          | none => rfl
          | some t =>
            have : t ≠ d := fun e => hd1 (by rw [hod, e])
            funext q
            simp only [updO, upd]
            by_cases e1 : q = d
            · subst e1; simp [Ne.symm this]
            · simp [e1]
      have hpend' : ∀ Z' FP' w', Evo Z FP w Z' FP' w' → ((listed.setIfInBounds i true).getD f false = true → Pend te zc w0 Z' FP' w' b) := fun Z' FP' w' hEE hxx => by
        rcases getD_set_listed hxx with rfl | hxx
        · exact absurd rfl hif
        · exact (hpend hxx).evo hEE
      cases hvi : hv.contains i with
      | true =>
        rw [hvi] at hcert'
        obtain ⟨hHc, hci⟩ := heavyAt hvi
        refine certN_run (L := L) (Hn := heapAt H0 hs (i + 1)) hdall ho hok hnd hcert' hs' (hB Z FP w hE) hG.len (fun h => by cases h) (fun _ => ⟨hHc, rfl⟩) fun Z' G' FP' a' w' hs2 hG' hE' => ?_
        refine ih (listed.setIfInBounds i true) (i + 1) Z' G' FP' a' w' b (by simpa using hsz) (by omega) hcl2 hm2 (by omega) (fun j hj hv' => ?_) (hpend' _ _ _ hE') (by rw [hTf]; exact hs2) (hG.trans hG') (hE.trans hE')
        constructor
        · intro hxx
          rcases getD_set_listed hxx with rfl | hxx
          · omega
          · have := (hcl j hj hv').1 hxx; omega
        · intro hlt
          by_cases e : j = i
          · subst e; exact getD_set_self (by omega)
          · refine getD_set_keep ?_
            exact ready_must hA.base hc hi (hA.hv j i _ o (by omega) (List.getElem?_eq_getElem (show j < all.length by omega)) ho hv' hvi)
      | false =>
        rw [hvi] at hcert'
        refine certN_run (L := L) (Hn := heapAt H0 hs c) hdall ho hok hnd hcert' hs' (hB Z FP w hE) hG.len (fun _ => ⟨rfl, hquiet hvi⟩) (fun h => by cases h) fun Z' G' FP' a' w' hs2 hG' hE' => ?_
        refine ih (listed.setIfInBounds i true) c Z' G' FP' a' w' b (by simpa using hsz) (by omega) hcl2 hm2 hcm (fun j hj hv' => ?_) (hpend' _ _ _ hE') (by rw [hTf]; exact hs2) (hG.trans hG') (hE.trans hE')
        rw [← hcl j hj hv']
        constructor
        · intro hxx
          rcases getD_set_listed hxx with rfl | hxx
          · rw [hvi] at hv'; cases hv'
          · exact hxx
        · exact getD_set_keep
end go
section
variable {P : Program} {N L : Nat} {base : Nat × Nat} {hv : List Nat} {Q : Exit → KS} {H : Heap}
def floatOk (N m f : Nat) (hv : List Nat) (all : List Oper) : Bool :=
  match all[f]? with
  | some of => decide (f < m) && !hv.contains f && (match of.guard with | none => true | some _ => false) &&
    (match of.dst, of.op with
    | some d, .alloc _ => decide (d < N) && (all.take m).zipIdx.all fun (o, j) => j == f || ((match o.dst with | some t => t != d | none => true) && !(seenT all o).contains d)
    | _, _ => false)
  | none => false
def nameFl (P : Program) (k : KS) (of : Oper) : KS := fun T H =>
  match of.op with
  | .alloc t => onR (ralloc P H t) fun x H' => k (updO T of.dst x) H'
  | _ => False
theorem HW.float {id : Nat} {all : List Oper} {T : Nat → HV} (n m : Nat) (base : Nat × Nat) (hv : List Nat) (f : Nat) (of : Oper) (hm : P.follows .mixedOrders = true) (hB : anyB3 N m hv all = true) (hml : m ≤ all.length) (hof : all[f]? = some of) (hF : floatOk N m f hv all = true)
    (h : exM P base hv all (nameFl P (ex P N L Q n [.ops all (all.drop m)]) of) 0 (head all m f of) T H) : HW P N L (.region id all.toArray true) Q T H := by
  unfold floatOk at hF
  rw [hof] at hF
  simp only [Bool.and_eq_true, decide_eq_true_eq, Bool.not_eq_true'] at hF
  obtain ⟨⟨⟨hfm, hfv⟩, hg⟩, hF⟩ := hF
  have hg : of.guard = none := by
    split at hg
    · assumption
    · cases hg
  split at hF
  case h_2 => cases hF
  rename_i d t hd hop
  simp only [Bool.and_eq_true, decide_eq_true_eq] at hF
  obtain ⟨hdN, hF⟩ := hF
  have hfr : ∀ (j : Nat) o, j ≠ f → j < m → all[j]? = some o → o.dst ≠ some d ∧ d ∉ seenT all o := by
    intro j o hj hjm ho
    have hmem : (o, j) ∈ (all.take m).zipIdx := by
      rw [List.mem_zipIdx_iff_getElem?, List.getElem?_take, if_pos hjm]; exact ho
    have := List.all_eq_true.1 hF (o, j) hmem
    simp only [Bool.or_eq_true, beq_iff_eq, Bool.and_eq_true, Bool.not_eq_true'] at this
    rcases this with h | ⟨h1, h2⟩
    · exact absurd h hj
    · refine ⟨fun e => ?_, fun hc => ?_⟩
      · rw [e] at h1; simp at h1
      · have : (seenT all o).contains d = true := by simpa using hc
        rw [this] at h2; cases h2
  obtain ⟨xs, hs, hc, hex⟩ := exM_cert (head all m f of) 0 T H h
  have hlm : (head all m f of).length = m := by unfold head; rw [List.length_set, List.length_take]; omega
  rw [hlm] at hex
  have hxf : xs[f]? = some .any := by
    obtain ⟨x, hx, hN⟩ := CertNL_at (head all m f of) xs hs 0 f T H { of with op := .move (.global 0) } hc (by unfold head; rw [List.getElem?_set_self (by rw [List.length_take]; omega)])
    rw [Nat.zero_add, hfv] at hN
    unfold CertN at hN
    simp only [hg] at hN
    unfold CertE at hN
    simp only [Bool.false_eq_true, if_false] at hN
    rcases hN.1 with ⟨p, H0, hp, hr, _⟩ | ⟨g, args, tys, fid, caps, R, e, _⟩ | ⟨rv, name, args, tys, t, y, fid, R, e, _⟩ | ⟨t, len, parts, p, H0, e, _⟩
    · have : ropQ P (runM (fun k => decide (k < f)) 0 (head all m f of) xs T) (heapAt H hs f) (.move (.global 0)) = some (True, .any, heapAt H hs f) := rfl
      rw [this] at hr
      simp only [Option.some.injEq, Prod.mk.injEq] at hr
      rw [hx, hr.2.1]
    · cases e
    · cases e
    · cases e
  unfold nameFl at hex
  rw [hop] at hex
  obtain ⟨ty, hty, hex⟩ := bindO_spec hex
  obtain ⟨cs, hcs, hex⟩ := bindO_spec hex
  obtain ⟨z, hz, rfl, hz1, hzs⟩ := zcells_spec hcs
  have hex := hex.2
  intro ro mm B Z G FP ds a w hB' hL hst
  have hA := anyB3_spec hB
  have hEv : Evo Z FP w Z FP { w with drawn := w.drawn + 1 } := ⟨rfl, rfl, rfl, Nat.le_refl _, fun _ _ _ => rfl, fun _ h => h, fun _ h => .inl h, fun id b hb => .inr ⟨id, hb⟩⟩
  have hi : HInv Z G FP H { w with drawn := w.drawn + 1 } := hst.inv.keep (Nat.le_refl _) (fun _ _ => rfl)
  have hs' := hst.evo hi (GLe.refl _) hEv
  have hallok : (all.all fun o => operOk N o && noDefer o) = true := by
    rw [List.all_eq_true]
    intro o ho
    obtain ⟨j, hj⟩ := List.mem_iff_getElem?.1 ho
    have := hA.base.ok j o hj
    simp [this.1, this.2]
  have hdrop : ((all.drop m).all fun o => operOk N o && noDefer o) = true := by
    rw [List.all_eq_true]
    intro o ho
    exact List.all_eq_true.1 hallok o (List.mem_of_mem_drop ho)
  refine wpIn_region_any hm ?_
  refine any_float (m := m) (B := B) (L := L) (Z0 := Z) (G0 := G) (FP0 := FP) (ds := ds) (w0 := w) (te := t) (zc := z.cells) hfm hof hfv hd hdN hfr (fun a w => ⟨by simp [Region.wanted, hg], by simp only [execOp, hop, Instr.alloc, Sem.run_bind, run_zeroValue hty hz, Result.andThen_ok, newVar, newRow]; simp⟩) hA hxf hc hml (fun Z' FP' w' hE => hB'.evo hE) ?_ _ _ 0 Z G FP _ _ 0 (by simp) ?_ ?_ (fun j h1 h2 => ?_) (Nat.zero_le _) (fun j hj hv => ?_) (fun hx => ?_) ?_ (GLt.refl hL) hEv
  · intro Z1 G1 FP1 a1 w1 b hp hs1 hG1 hE1
    have hlt := (Array.getElem?_eq_some_iff.1 hp.cells).1
    have hlen := hs1.inv.len
    have hob : OB Z1 (G1 ++ [some ⟨some b, t, ty.size, 1, 1⟩]) w1 ⟨t, ty.size, [z.cells.toList.map .v]⟩ ⟨some b, t, ty.size, 1, 1⟩ [b] := by
      refine ⟨rfl, rfl, rfl, by simp [hzs], .inr (.inl ⟨b, z.cells, [], rfl, rfl, hp.cells, by simp [hzs], by simp, by simp [maxLen], ?_⟩)⟩
      refine (RR_iff hp.cells _ 0 [] (Nat.zero_le _)).2 ⟨by simp, ?_, ?_⟩
      · simp only [List.flatten_cons, List.flatten_nil, List.append_nil, List.length_map, List.drop_zero]
        rw [List.take_of_length_le (Nat.le_refl _)]
        exact RL_vs _ _ _ _
      · simp only [List.drop_zero]
        intro y hy
        exact hz1 y (List.mem_of_mem_take hy)
    have hnew := hs1.inv.new (Nat.le_refl _) (fun _ _ => rfl) hob (by simp) (fun b' hb' => by
      obtain rfl := List.mem_singleton.1 hb'
      exact ⟨hp.z, hlt, hp.fp⟩)
    have hE2 : Evo Z FP w Z1 (fun j => if j = (heapAt H hs m).length then [b] else FP1 j) w1 := by
      refine ⟨hE1.os, hE1.tape, hE1.output, hE1.size, hE1.keep, hE1.zle, hE1.znew, fun id b' hb' => ?_⟩
      by_cases e : id = (heapAt H hs m).length
      · simp only [if_pos e, List.mem_singleton] at hb'
        subst hb'; exact .inl hp.new
      · simp only [if_neg e] at hb'
        exact hE1.fnew id b' hb'
    have hptr : RV Z1 (G1 ++ [some ⟨some b, t, ty.size, 1, 1⟩]) w1 (.pt (heapAt H hs m).length 1 0 0) (.pointer (some ⟨b, 0, none⟩)) [] := by
      simp only [RV]
      rw [← hlen]
      refine ⟨trivial, rfl, by simp, fun g hg => ?_⟩
      simp at hg; subst hg
      exact ⟨Nat.le_refl _, fun _ => ⟨b, rfl, by simp⟩⟩
    have hs2 : St N B Z1 (G1 ++ [some ⟨some b, t, ty.size, 1, 1⟩]) (fun j => if j = (heapAt H hs m).length then [b] else FP1 j) ds (updO (runM (fun _ => true) 0 (head all m f of) xs T) of.dst (.pt (heapAt H hs m).length 1 0 0)) (heapAt H hs m ++ [some ⟨t, ty.size, [z.cells.toList.map .v]⟩]) a1 w1 := by
      refine ⟨hnew, hs1.size, fun i hi => ?_, hs1.defers, hs1.dsn, fun q hq => ?_⟩
      · have := hs1.tmps i hi
        rw [hd]
        simp only [updO, upd] at this ⊢
        split
        · rename_i e
          rw [if_pos e] at this
          rw [RV_v this]
          exact hptr
        · rename_i e
          rw [if_neg e] at this
          exact RV.nil_keep (fun _ _ => rfl) (fun _ h => h) (GLe.more _) this
      · obtain ⟨q1, q2, q3, q4⟩ := hs1.dsat q hq
        refine ⟨q1, q2, q3, fun id hc => ?_⟩
        by_cases e : id = (heapAt H hs m).length
        · simp only [if_pos e, List.mem_singleton] at hc
          subst hc
          rw [hp.cells] at q2; cases q2
        · simp only [if_neg e] at hc
          exact q4 id hc
    have := ex_run n [.ops all (all.drop m)] _ _ hex (by simp [itemOk, hallok, hdrop]) ro mm B Z G FP w Z1 _ _ ds a1 w1 (hB'.evo hE2) hs2 (hG1.trans (GLt.of hG1.len (GLe.more _))) hE2
    simp only [M] at this
    exact this
  · have : ∀ k : Nat, left (Array.replicate k false) = k := by intro k; simp [left]
    rw [this]; simp
  · intro j o hj hl
    exfalso
    have hjl := (List.getElem?_eq_some_iff.1 hj).1
    simp [Array.getD_eq_getD_getElem?, hjl] at hl
  · simp [Array.getD_eq_getD_getElem?, h2]
  · simp [Array.getD_eq_getD_getElem?, show j < all.length by omega]
  · exfalso
    simp [Array.getD_eq_getD_getElem?, show f < all.length by omega] at hx
  · have e : runM (fun k => (Array.replicate all.toArray.size false).getD k false) 0 (head all m f of) xs T = T := by
      funext t
      rw [runM_no]
      intro j _
      simp only [Array.getD_eq_getD_getElem?]
      by_cases hlt : 0 + j < all.toArray.size
      · have : 0 + j < all.length := by simpa using hlt
        rw [Array.getElem?_eq_getElem (by simpa using hlt)]
        simp
      · rw [Array.getElem?_eq_none (by simpa using hlt)]; rfl
    unfold flT
    rw [if_neg (by simp [Array.getD_eq_getD_getElem?, show f < all.length by omega]), e]
    exact hs'
theorem nameFl_alloc {k : KS} {d : Option Nat} {t ty : TypeId} {pos : String} {af : Array Edge} {g : Option (Nat × Bool)} {T : Nat → HV} : nameFl P k { dst := d, op := .alloc t, type := ty, pos := pos, after := af, guard := g } T H = onR (ralloc P H t) fun x H' => k (updO T d x) H' := rfl
theorem onR_some {p : Prop} {x : HV} {H' : Heap} {K : KT} : onR (some (p, x, H')) K = (p ∧ K x H') := rfl
theorem hev_global {T : Nat → HV} {g : Nat} : hev T (.global g) = .any := rfl
attribute [go_sem] nameFl_alloc onR_some hev_global head
end
end Go.Proofs.Yteieinhgdjjdoaa
