/- Parts of the proof: Cg, Cf, Ce, Ci, Ch, Cj, Co, Cl, Cr. -/
import Derived.Test.YteieinhgdjjdoaaZd11
import Derived.Test.YteieinhgdjjdoaaZd08
import Derived.Test.YteieinhgdjjdoaaZd10
import Derived.Test.YteieinhgdjjdoaaZd09
set_option linter.unusedSectionVars false
set_option linter.unusedVariables false
set_option linter.unusedSimpArgs false
namespace Go.Proofs.Yteieinhgdjjdoaa
open Go.RowKit
set_option maxRecDepth 8000
theorem packV_nil0 {L : Nat} {H : Heap} : packV L (retVs []) H = (.tu [], H) := rfl
theorem endP_eq {L : Nat} {Q : HV → Heap → Prop} {x : HV} {H : Heap} : endP L Q (x, H) = (nmH L H = true ∧ Q x (H.take L)) := rfl
abbrev takeH (p : Prg) (s : Sta) (mem : List Int) (ths : List (List HV)) (t : Nat) : Heap :=
  [some ⟨25, 2, [[.sl (ints p.init), .sl (thrs p.thr)]]⟩, some ⟨38, 2, [[.sl (ints s.mem), .sl (thds s.ths)]]⟩,
   some ⟨38, 2, [[.v (.slice none 0 0), .v (.slice none 0 0)]]⟩, some ⟨3, 1, ints mem⟩, some ⟨50, 4, ths⟩,
   some ⟨38, 2, [[.hd 3 0 s.mem.length, .hd 4 0 s.ths.length]]⟩, some ⟨134, 2, [[.pt 4 s.ths.length t 0, .hd 3 0 s.mem.length]]⟩]
set_option maxHeartbeats 8000000 in
theorem takeC (p : Prg) (s : Sta) (x : Stp) (y : Thd) (t k many : Nat) (ht : t < s.ths.length) (hx : s.ths[t]? = some y) (hR : RightX p x k many) (hmany : many ≤ 80) (q2 : y.regs.length = 4) (hmm : s.mem.length = p.init.length) (hin : p.init.length ≤ 4) (hk : 0 ≤ y.pc ∧ y.pc ≤ 1000) :
    HCalls Try.prog 93 (takeH p s s.mem (thdsO s.ths) t) [.pt 6 1 0 0, .ag [.v (.int .i64 x.op), .v (.int .i64 x.reg), .v (.int .i64 x.loc), .v (.int .i64 x.n), .v (.int .i64 x.to)]]
      (fun r H' => r = .tu [] ∧ H' = takeH p s (thStep x s.mem y).1 ((thdsO s.ths).set t (throwO (thStep x s.mem y).2)) t) := by
  refine HCalls_bodyC (fn := Try.f93) 173 [] (by kernel_rfl) rfl rfl (by kernel_rfl) (HW.weaken (Q' := fun e => GQ _ _ (endC _ _ _ _ e)) (HW.run 400 (by kernel_rfl) ?_) (fun _ _ _ h => h))
  have hst : ∀ X, ((thdsO s.ths).set t X)[t]? = some X := set_get (by rw [thdsO_length]; exact ht)
  have hw : IntKind.i64.wrap (y.pc + 1) = y.pc + 1 := w64 (by omega) (by omega)
  have r1 : (0 ≤ x.reg) = True := by simp only [eq_iff_iff, iff_true]; exact hR.reg.1
  have r2 : (x.reg < (y.regs.length : Int)) = True := by have := hR.reg.2.1; simp only [eq_iff_iff, iff_true]; omega
  have r3 : y.regs[x.reg.toNat]? = some (getI y.regs x.reg) := by
    have : x.reg.toNat < y.regs.length := by have := hR.reg; omega
    unfold getI; rw [List.getElem?_eq_getElem this]; rfl
  have hlv : (s.ths.length == s.ths.length && s.ths.length != 0) = true := by
    rw [Bool.and_eq_true]
    exact ⟨beq_self_eq_true _, by simp only [bne_iff_ne]; omega⟩
  have hop : x.op = 1 ∨ x.op = 2 ∨ x.op = 3 ∨ x.op = 4 ∨ x.op = 5 ∨ x.op = 6 ∨ x.op = 7 ∨ x.op = 8 ∨ x.op = 9 ∨ x.op = 10 := by have := hR.op; omega
  have locs : hasL x.op = true → (0 ≤ x.loc) = True ∧ (x.loc < (s.mem.length : Int)) = True ∧ s.mem[x.loc.toNat]? = some (getI s.mem x.loc) := fun h => by
    obtain ⟨k1, k2⟩ := hR.loc.1 h
    refine ⟨by simp [k1], by simp only [eq_iff_iff, iff_true]; omega, ?_⟩
    have : x.loc.toNat < s.mem.length := by omega
    unfold getI; rw [List.getElem?_eq_getElem this]; rfl
  rcases hop with h | h | h | h | h | h | h | h | h | h
  · have hj : jumpsB x y.eq = false := by simp [jumpsB, h]
    have e : thStep x s.mem y = (s.mem, { y with pc := y.pc + 1, regs := setI y.regs x.reg x.n }) := by simp [thStep, h, hj]
    rw [e]
    simp (config := { decide := true }) only [go_sem, Int.reduceToNat, Nat.reduceAdd, Nat.reduceSub, Nat.reduceMul, Nat.reduceBEq, reduceIte, reduceCtorEq, hx, h, hw, hlv, hst, r1, r2, r3, List.map_set, List.set_set, setI]
    refine HW.ghost (Ghost.open 4 t 1) ?_
    simp (config := { decide := true }) only [go_sem, Int.reduceToNat, Nat.reduceAdd, Nat.reduceSub, Nat.reduceMul, Nat.reduceBEq, reduceIte, reduceCtorEq, hx, h, hw, hlv, hst, r1, r2, r3, List.map_set, List.set_set, setI]
    refine HW.mixed 120 11 (9, 0) [] follows (by kernel_rfl) (by decide) ?_
    simp (config := { decide := true }) only [go_sem, Int.reduceToNat, Nat.reduceAdd, Nat.reduceSub, Nat.reduceMul, Nat.reduceBEq, reduceIte, reduceCtorEq, hx, h, hw, hlv, hst, r1, r2, r3, List.map_set, List.set_set, setI]
    refine GQ.step (Ghost.absorb 4 t 1) ?_
    simp (config := { decide := true }) only [go_sem, Int.reduceToNat, Nat.reduceAdd, Nat.reduceSub, Nat.reduceMul, Nat.reduceBEq, reduceIte, reduceCtorEq, hst, List.set_set, setI]
    refine GQ.done ?_
    simp (config := { decide := true }) only [go_sem, Int.reduceToNat, Nat.reduceAdd, Nat.reduceSub, Nat.reduceMul, Nat.reduceBEq, reduceIte, reduceCtorEq, hst, List.set_set, setI, packV_nil0, endP_eq]
    try exact ⟨rfl, rfl⟩
  · have hj : jumpsB x y.eq = false := by simp [jumpsB, h]
    have e : thStep x s.mem y = (s.mem, { y with pc := y.pc + 1, regs := setI y.regs x.reg (getI s.mem x.loc) }) := by simp [thStep, h, hj]
    rw [e]
    obtain ⟨m1, m2, m3⟩ := locs (by rw [h]; rfl)
    have hms : ∀ v, (s.mem.set x.loc.toNat v)[x.loc.toNat]? = some v := fun v => by simp [(List.getElem?_eq_some_iff.1 m3).1]
    have hrs : y.regs.set x.reg.toNat (getI y.regs x.reg) = y.regs := set_self r3
    simp (config := { decide := true }) only [go_sem, Int.reduceToNat, Nat.reduceAdd, Nat.reduceSub, Nat.reduceMul, Nat.reduceBEq, reduceIte, reduceCtorEq, hx, h, hw, hlv, hst, r1, r2, r3, List.map_set, List.set_set, setI, m1, m2, m3, hms, hrs, List.length_set]
    refine HW.ghost (Ghost.open 4 t 1) ?_
    simp (config := { decide := true }) only [go_sem, Int.reduceToNat, Nat.reduceAdd, Nat.reduceSub, Nat.reduceMul, Nat.reduceBEq, reduceIte, reduceCtorEq, hx, h, hw, hlv, hst, r1, r2, r3, List.map_set, List.set_set, setI, m1, m2, m3, hms, hrs, List.length_set]
    refine HW.mixed 120 17 (9, 0) [] follows (by kernel_rfl) (by decide) ?_
    simp (config := { decide := true }) only [go_sem, Int.reduceToNat, Nat.reduceAdd, Nat.reduceSub, Nat.reduceMul, Nat.reduceBEq, reduceIte, reduceCtorEq, hx, h, hw, hlv, hst, r1, r2, r3, List.map_set, List.set_set, setI, m1, m2, m3, hms, hrs, List.length_set]
    refine GQ.step (Ghost.absorb 4 t 1) ?_
    simp (config := { decide := true }) only [go_sem, Int.reduceToNat, Nat.reduceAdd, Nat.reduceSub, Nat.reduceMul, Nat.reduceBEq, reduceIte, reduceCtorEq, hst, List.set_set, setI]
    refine GQ.done ?_
    simp (config := { decide := true }) only [go_sem, Int.reduceToNat, Nat.reduceAdd, Nat.reduceSub, Nat.reduceMul, Nat.reduceBEq, reduceIte, reduceCtorEq, hst, List.set_set, setI, packV_nil0, endP_eq]
    try exact ⟨rfl, rfl⟩
  · have hj : jumpsB x y.eq = false := by simp [jumpsB, h]
    have e : thStep x s.mem y = (setI s.mem x.loc (getI y.regs x.reg), { y with pc := y.pc + 1 }) := by simp [thStep, h, hj]
    rw [e]
    obtain ⟨m1, m2, m3⟩ := locs (by rw [h]; rfl)
    have hms : ∀ v, (s.mem.set x.loc.toNat v)[x.loc.toNat]? = some v := fun v => by simp [(List.getElem?_eq_some_iff.1 m3).1]
    have hrs : y.regs.set x.reg.toNat (getI y.regs x.reg) = y.regs := set_self r3
    simp (config := { decide := true }) only [go_sem, Int.reduceToNat, Nat.reduceAdd, Nat.reduceSub, Nat.reduceMul, Nat.reduceBEq, reduceIte, reduceCtorEq, hx, h, hw, hlv, hst, r1, r2, r3, List.map_set, List.set_set, setI, m1, m2, m3, hms, hrs, List.length_set]
    refine HW.ghost (Ghost.open 4 t 1) ?_
    simp (config := { decide := true }) only [go_sem, Int.reduceToNat, Nat.reduceAdd, Nat.reduceSub, Nat.reduceMul, Nat.reduceBEq, reduceIte, reduceCtorEq, hx, h, hw, hlv, hst, r1, r2, r3, List.map_set, List.set_set, setI, m1, m2, m3, hms, hrs, List.length_set]
    refine HW.mixed 120 17 (9, 0) [] follows (by kernel_rfl) (by decide) ?_
    simp (config := { decide := true }) only [go_sem, Int.reduceToNat, Nat.reduceAdd, Nat.reduceSub, Nat.reduceMul, Nat.reduceBEq, reduceIte, reduceCtorEq, hx, h, hw, hlv, hst, r1, r2, r3, List.map_set, List.set_set, setI, m1, m2, m3, hms, hrs, List.length_set]
    refine HW.mixed 120 17 (9, 0) [] follows (by kernel_rfl) (by decide) ?_
    simp (config := { decide := true }) only [go_sem, Int.reduceToNat, Nat.reduceAdd, Nat.reduceSub, Nat.reduceMul, Nat.reduceBEq, reduceIte, reduceCtorEq, hx, h, hw, hlv, hst, r1, r2, r3, List.map_set, List.set_set, setI, m1, m2, m3, hms, hrs, List.length_set]
    refine GQ.step (Ghost.absorb 4 t 1) ?_
    simp (config := { decide := true }) only [go_sem, Int.reduceToNat, Nat.reduceAdd, Nat.reduceSub, Nat.reduceMul, Nat.reduceBEq, reduceIte, reduceCtorEq, hst, List.set_set, setI]
    refine GQ.done ?_
    simp (config := { decide := true }) only [go_sem, Int.reduceToNat, Nat.reduceAdd, Nat.reduceSub, Nat.reduceMul, Nat.reduceBEq, reduceIte, reduceCtorEq, hst, List.set_set, setI, packV_nil0, endP_eq]
    try exact ⟨rfl, rfl⟩
  · have hj : jumpsB x y.eq = false := by simp [jumpsB, h]
    have e : thStep x s.mem y = (setI s.mem x.loc x.n, { y with pc := y.pc + 1 }) := by simp [thStep, h, hj]
    rw [e]
    obtain ⟨m1, m2, m3⟩ := locs (by rw [h]; rfl)
    have hms : ∀ v, (s.mem.set x.loc.toNat v)[x.loc.toNat]? = some v := fun v => by simp [(List.getElem?_eq_some_iff.1 m3).1]
    have hrs : y.regs.set x.reg.toNat (getI y.regs x.reg) = y.regs := set_self r3
    simp (config := { decide := true }) only [go_sem, Int.reduceToNat, Nat.reduceAdd, Nat.reduceSub, Nat.reduceMul, Nat.reduceBEq, reduceIte, reduceCtorEq, hx, h, hw, hlv, hst, r1, r2, r3, List.map_set, List.set_set, setI, m1, m2, m3, hms, hrs, List.length_set]
    refine HW.ghost (Ghost.open 4 t 1) ?_
    simp (config := { decide := true }) only [go_sem, Int.reduceToNat, Nat.reduceAdd, Nat.reduceSub, Nat.reduceMul, Nat.reduceBEq, reduceIte, reduceCtorEq, hx, h, hw, hlv, hst, r1, r2, r3, List.map_set, List.set_set, setI, m1, m2, m3, hms, hrs, List.length_set]
    refine HW.mixed 120 8 (9, 0) [] follows (by kernel_rfl) (by decide) ?_
    simp (config := { decide := true }) only [go_sem, Int.reduceToNat, Nat.reduceAdd, Nat.reduceSub, Nat.reduceMul, Nat.reduceBEq, reduceIte, reduceCtorEq, hx, h, hw, hlv, hst, r1, r2, r3, List.map_set, List.set_set, setI, m1, m2, m3, hms, hrs, List.length_set]
    refine GQ.step (Ghost.absorb 4 t 1) ?_
    simp (config := { decide := true }) only [go_sem, Int.reduceToNat, Nat.reduceAdd, Nat.reduceSub, Nat.reduceMul, Nat.reduceBEq, reduceIte, reduceCtorEq, hst, List.set_set, setI]
    refine GQ.done ?_
    simp (config := { decide := true }) only [go_sem, Int.reduceToNat, Nat.reduceAdd, Nat.reduceSub, Nat.reduceMul, Nat.reduceBEq, reduceIte, reduceCtorEq, hst, List.set_set, setI, packV_nil0, endP_eq]
    try exact ⟨rfl, rfl⟩
  · have hj : jumpsB x y.eq = false := by simp [jumpsB, h]
    have e : thStep x s.mem y = (setI s.mem x.loc (getI y.regs x.reg), { y with pc := y.pc + 1, regs := setI y.regs x.reg (getI s.mem x.loc) }) := by simp [thStep, h, hj]
    rw [e]
    obtain ⟨m1, m2, m3⟩ := locs (by rw [h]; rfl)
    have hms : ∀ v, (s.mem.set x.loc.toNat v)[x.loc.toNat]? = some v := fun v => by simp [(List.getElem?_eq_some_iff.1 m3).1]
    have hrs : y.regs.set x.reg.toNat (getI y.regs x.reg) = y.regs := set_self r3
    simp (config := { decide := true }) only [go_sem, Int.reduceToNat, Nat.reduceAdd, Nat.reduceSub, Nat.reduceMul, Nat.reduceBEq, reduceIte, reduceCtorEq, hx, h, hw, hlv, hst, r1, r2, r3, List.map_set, List.set_set, setI, m1, m2, m3, hms, hrs, List.length_set]
    refine HW.ghost (Ghost.open 4 t 1) ?_
    simp (config := { decide := true }) only [go_sem, Int.reduceToNat, Nat.reduceAdd, Nat.reduceSub, Nat.reduceMul, Nat.reduceBEq, reduceIte, reduceCtorEq, hx, h, hw, hlv, hst, r1, r2, r3, List.map_set, List.set_set, setI, m1, m2, m3, hms, hrs, List.length_set]
    refine HW.ghost (Ghost.freeze 3 7 1 0 0 rfl rfl rfl rfl) ?_
    refine HW.mixed 160 36 (3, 9) [35, 2035, 1000, 1001, 1002, 1003, 1004, 1005, 1006, 1007, 1008, 1009, 1010, 1011, 1012, 1015, 1016, 1017, 1018, 1019, 1020, 1021, 1022, 1023, 1024, 1025, 1026, 1027, 1028, 1029, 1030, 1031, 1032, 1033, 1034] follows (by kernel_rfl) (by decide) ?_
    simp (config := { decide := true }) only [go_sem, Int.reduceToNat, Nat.reduceAdd, Nat.reduceSub, Nat.reduceMul, Nat.reduceBEq, reduceIte, reduceCtorEq, hx, h, hw, hlv, hst, r1, r2, r3, List.map_set, List.set_set, setI, m1, m2, m3, hms, hrs, List.length_set]
    refine GQ.step (Ghost.absorb 4 t 1) ?_
    simp (config := { decide := true }) only [go_sem, Int.reduceToNat, Nat.reduceAdd, Nat.reduceSub, Nat.reduceMul, Nat.reduceBEq, reduceIte, reduceCtorEq, hst, List.set_set, setI]
    refine GQ.done ?_
    simp (config := { decide := true }) only [go_sem, Int.reduceToNat, Nat.reduceAdd, Nat.reduceSub, Nat.reduceMul, Nat.reduceBEq, reduceIte, reduceCtorEq, hst, List.set_set, setI, packV_nil0, endP_eq]
    try exact ⟨rfl, rfl⟩
  · have hj : jumpsB x y.eq = false := by simp [jumpsB, h]
    have e : thStep x s.mem y = (s.mem, { y with pc := y.pc + 1 }) := by simp [thStep, h, hj]
    rw [e]
    simp (config := { decide := true }) only [go_sem, Int.reduceToNat, Nat.reduceAdd, Nat.reduceSub, Nat.reduceMul, Nat.reduceBEq, reduceIte, reduceCtorEq, hx, h, hw, hlv, hst, r1, r2, r3, List.map_set, List.set_set, setI]
    refine GQ.done ?_
    simp (config := { decide := true }) only [go_sem, Int.reduceToNat, Nat.reduceAdd, Nat.reduceSub, Nat.reduceMul, Nat.reduceBEq, reduceIte, reduceCtorEq, hst, List.set_set, setI, packV_nil0, endP_eq]
    try exact ⟨rfl, rfl⟩
  · have hj : jumpsB x y.eq = false := by simp [jumpsB, h]
    have e : thStep x s.mem y = (s.mem, { y with pc := y.pc + 1, eq := decide (getI y.regs x.reg = x.n) }) := by simp [thStep, h, hj]
    rw [e]
    simp (config := { decide := true }) only [go_sem, Int.reduceToNat, Nat.reduceAdd, Nat.reduceSub, Nat.reduceMul, Nat.reduceBEq, reduceIte, reduceCtorEq, hx, h, hw, hlv, hst, r1, r2, r3, List.map_set, List.set_set, setI]
    refine HW.ghost (Ghost.open 4 t 1) ?_
    simp (config := { decide := true }) only [go_sem, Int.reduceToNat, Nat.reduceAdd, Nat.reduceSub, Nat.reduceMul, Nat.reduceBEq, reduceIte, reduceCtorEq, hx, h, hw, hlv, hst, r1, r2, r3, List.map_set, List.set_set, setI]
    refine HW.mixed 120 18 (9, 0) [] follows (by kernel_rfl) (by decide) ?_
    simp (config := { decide := true }) only [go_sem, Int.reduceToNat, Nat.reduceAdd, Nat.reduceSub, Nat.reduceMul, Nat.reduceBEq, reduceIte, reduceCtorEq, hx, h, hw, hlv, hst, r1, r2, r3, List.map_set, List.set_set, setI]
    refine GQ.step (Ghost.absorb 4 t 1) ?_
    simp (config := { decide := true }) only [go_sem, Int.reduceToNat, Nat.reduceAdd, Nat.reduceSub, Nat.reduceMul, Nat.reduceBEq, reduceIte, reduceCtorEq, hst, List.set_set, setI]
    refine GQ.done ?_
    simp (config := { decide := true }) only [go_sem, Int.reduceToNat, Nat.reduceAdd, Nat.reduceSub, Nat.reduceMul, Nat.reduceBEq, reduceIte, reduceCtorEq, hst, List.set_set, setI, packV_nil0, endP_eq]
    try exact ⟨rfl, rfl⟩
  · have hj : jumpsB x y.eq = true := by simp [jumpsB, h]
    have e : thStep x s.mem y = (s.mem, { y with pc := x.to }) := by simp [thStep, h, hj]
    rw [e]
    simp (config := { decide := true }) only [go_sem, Int.reduceToNat, Nat.reduceAdd, Nat.reduceSub, Nat.reduceMul, Nat.reduceBEq, reduceIte, reduceCtorEq, hx, h, hw, hlv, hst, r1, r2, r3, List.map_set, List.set_set, setI]
    refine GQ.done ?_
    simp (config := { decide := true }) only [go_sem, Int.reduceToNat, Nat.reduceAdd, Nat.reduceSub, Nat.reduceMul, Nat.reduceBEq, reduceIte, reduceCtorEq, hst, List.set_set, setI, packV_nil0, endP_eq]
    try exact ⟨rfl, rfl⟩
  · cases he : y.eq with
    | true =>
      have hj : jumpsB x y.eq = true := by simp [jumpsB, h, he]
      have e : thStep x s.mem y = (s.mem, { y with pc := x.to }) := by simp [thStep, h, hj]
      rw [e]
      simp (config := { decide := true }) only [go_sem, Int.reduceToNat, Nat.reduceAdd, Nat.reduceSub, Nat.reduceMul, Nat.reduceBEq, reduceIte, reduceCtorEq, hx, h, hw, hlv, hst, r1, r2, r3, List.map_set, List.set_set, setI, he]
      refine GQ.done ?_
      simp (config := { decide := true }) only [go_sem, Int.reduceToNat, Nat.reduceAdd, Nat.reduceSub, Nat.reduceMul, Nat.reduceBEq, reduceIte, reduceCtorEq, hst, List.set_set, setI, packV_nil0, endP_eq]
      try exact ⟨rfl, rfl⟩
    | false =>
      have hj : jumpsB x y.eq = false := by simp [jumpsB, h, he]
      have e : thStep x s.mem y = (s.mem, { y with pc := y.pc + 1 }) := by simp [thStep, h, hj]
      rw [e]
      simp (config := { decide := true }) only [go_sem, Int.reduceToNat, Nat.reduceAdd, Nat.reduceSub, Nat.reduceMul, Nat.reduceBEq, reduceIte, reduceCtorEq, hx, h, hw, hlv, hst, r1, r2, r3, List.map_set, List.set_set, setI, he]
      refine GQ.done ?_
      simp (config := { decide := true }) only [go_sem, Int.reduceToNat, Nat.reduceAdd, Nat.reduceSub, Nat.reduceMul, Nat.reduceBEq, reduceIte, reduceCtorEq, hst, List.set_set, setI, packV_nil0, endP_eq]
      try exact ⟨rfl, rfl⟩
  · cases he : y.eq with
    | false =>
      have hj : jumpsB x y.eq = true := by simp [jumpsB, h, he]
      have e : thStep x s.mem y = (s.mem, { y with pc := x.to }) := by simp [thStep, h, hj]
      rw [e]
      simp (config := { decide := true }) only [go_sem, Int.reduceToNat, Nat.reduceAdd, Nat.reduceSub, Nat.reduceMul, Nat.reduceBEq, reduceIte, reduceCtorEq, hx, h, hw, hlv, hst, r1, r2, r3, List.map_set, List.set_set, setI, he]
      refine GQ.done ?_
      simp (config := { decide := true }) only [go_sem, Int.reduceToNat, Nat.reduceAdd, Nat.reduceSub, Nat.reduceMul, Nat.reduceBEq, reduceIte, reduceCtorEq, hst, List.set_set, setI, packV_nil0, endP_eq]
      try exact ⟨rfl, rfl⟩
    | true =>
      have hj : jumpsB x y.eq = false := by simp [jumpsB, h, he]
      have e : thStep x s.mem y = (s.mem, { y with pc := y.pc + 1 }) := by simp [thStep, h, hj]
      rw [e]
      simp (config := { decide := true }) only [go_sem, Int.reduceToNat, Nat.reduceAdd, Nat.reduceSub, Nat.reduceMul, Nat.reduceBEq, reduceIte, reduceCtorEq, hx, h, hw, hlv, hst, r1, r2, r3, List.map_set, List.set_set, setI, he]
      refine GQ.done ?_
      simp (config := { decide := true }) only [go_sem, Int.reduceToNat, Nat.reduceAdd, Nat.reduceSub, Nat.reduceMul, Nat.reduceBEq, reduceIte, reduceCtorEq, hst, List.set_set, setI, packV_nil0, endP_eq]
      try exact ⟨rfl, rfl⟩
end Go.Proofs.Yteieinhgdjjdoaa
namespace Go.Proofs.Yteieinhgdjjdoaa
open Go.RowKit
set_option maxRecDepth 8000
set_option maxHeartbeats 4000000 in
theorem scStep (p : Prg) (s : Sta) (th : Int) (hp : RightP p) (hs : RightS p s) (hb : ∀ t ∈ s.ths, t.buf.length ≤ 100000) : HFn Try.prog 77 [prgH p, staH s, .v (.int .i64 th)] (.tu [staO (stepS p s th).1, .v (.bool (stepS p s th).2)]) := by
  refine HCalls_bodyC (fn := Try.f77) 62 [.cell 6 38, .tmp 7] (by kernel_rfl) rfl rfl (by kernel_rfl) (HW.weaken (Q' := fun e => GQ _ _ (endC _ _ _ _ e)) (HW.run 400 (by kernel_rfl) ?_) (fun _ _ _ h => h))
  have hml : s.mem.length ≤ 100000 := by have := hs.mem; have := hp.init; omega
  have htl : s.ths.length ≤ 1000 := by have := hs.ths; have := hp.thr; omega
  have hrl : ∀ t ∈ s.ths, t.regs.length ≤ 100000 ∧ t.buf.length ≤ 100000 := fun t ht => by
    obtain ⟨i, hi⟩ := List.getElem?_of_mem ht
    have hlt := (List.getElem?_eq_some_iff.1 hi).1
    have := (hs.t i _ t (List.getElem?_eq_getElem (show i < p.thr.length by rw [← hs.ths]; exact hlt)) hi).regs
    exact ⟨by omega, hb t ht⟩
  simp (config := { decide := true }) only [go_sem, Int.reduceToNat, Nat.reduceAdd, Nat.reduceSub, Nat.reduceMul, Nat.reduceBEq, reduceIte, reduceCtorEq]
  refine callX_fn 3 (scOwn s hml htl hrl) (by simp only [go_sem]) (by simp only [go_sem]) ?_
  have hlen := hs.ths
  by_cases c1 : 0 ≤ th
  case neg =>
    have c1' : (th < 0) = True := by simp only [eq_iff_iff, iff_true]; omega
    have ha : atS p s th = none := if_neg (fun h => c1 h.1)
    rw [atS_none ha]
    simp (config := { decide := true }) only [go_sem, Int.reduceToNat, Nat.reduceAdd, Nat.reduceSub, Nat.reduceMul, Nat.reduceBEq, reduceIte, reduceCtorEq]
    refine HW.quiet 80 follows (by kernel_rfl) ?_
    simp (config := { decide := true }) only [go_sem, Int.reduceToNat, Nat.reduceAdd, Nat.reduceSub, Nat.reduceMul, Nat.reduceBEq, reduceIte, reduceCtorEq, c1']
    refine GQ.done ?_
    simp (config := { decide := true }) only [go_sem, Int.reduceToNat, Nat.reduceAdd, Nat.reduceSub, Nat.reduceMul, Nat.reduceBEq, reduceIte, reduceCtorEq]
  have c1' : (th < 0) = False := by simp only [eq_iff_iff, iff_false]; omega
  by_cases c2 : th < s.ths.length
  case neg =>
    have c2' : ((s.ths.length : Int) ≤ th) = True := by simp only [eq_iff_iff, iff_true]; omega
    have ha : atS p s th = none := if_neg (fun h => c2 h.2)
    rw [atS_none ha]
    simp (config := { decide := true }) only [go_sem, Int.reduceToNat, Nat.reduceAdd, Nat.reduceSub, Nat.reduceMul, Nat.reduceBEq, reduceIte, reduceCtorEq]
    refine HW.quiet 80 follows (by kernel_rfl) ?_
    simp (config := { decide := true }) only [go_sem, Int.reduceToNat, Nat.reduceAdd, Nat.reduceSub, Nat.reduceMul, Nat.reduceBEq, reduceIte, reduceCtorEq, c1', c2']
    refine GQ.done ?_
    simp (config := { decide := true }) only [go_sem, Int.reduceToNat, Nat.reduceAdd, Nat.reduceSub, Nat.reduceMul, Nat.reduceBEq, reduceIte, reduceCtorEq]
  have c2' : ((s.ths.length : Int) ≤ th) = False := by simp only [eq_iff_iff, iff_false]; omega
  obtain ⟨t, rfl⟩ : ∃ t : Nat, th = t := ⟨th.toNat, by omega⟩
  have ht : t < s.ths.length := by omega
  have hx : s.ths[t]? = some s.ths[t] := List.getElem?_eq_getElem ht
  have htA : thAt s (t : Int) = s.ths[t] := by unfold thAt; rw [Int.toNat_natCast, hx]; rfl
  have hpt : p.thr[t]? = some (p.thr[t]'(by omega)) := List.getElem?_eq_getElem (by omega)
  obtain ⟨q1, q2, q3⟩ := hs.t t _ _ hpt hx
  have e0 : atS p s (t : Int) = (p.thr[t]'(by omega))[(s.ths[t]).pc.toNat]? := by
    unfold atS; rw [if_pos ⟨c1, c2⟩, htA, Int.toNat_natCast, hpt, Option.getD_some]
  have hRx := fun i x h => hp.x t _ hpt i x h
  have hll : (p.thr[t]'(by omega)).length ≤ 80 := hp.len _ (List.mem_of_getElem? hpt)
  generalize s.ths[t] = y at hx htA q1 q2 q3 e0
  generalize p.thr[t]'(by omega) = l at hpt q1 e0 hRx hll
  obtain ⟨k, hk⟩ : ∃ k : Nat, y.pc = k := ⟨y.pc.toNat, by omega⟩
  have hc2 : ((t : Int) < (s.ths.length : Int)) = True := by rw [int_lt]; simp [ht]
  have hc3 : ((t : Int) < (p.thr.length : Int)) = True := by rw [int_lt, ← hlen]; simp [ht]
  have hst : ∀ X, ((thdsO s.ths).set t X)[t]? = some X := set_get (by rw [thdsO_length]; exact ht)
  have hlv : (s.ths.length == s.ths.length && s.ths.length != 0) = true := by
    rw [Bool.and_eq_true]
    exact ⟨beq_self_eq_true _, by simp only [bne_iff_ne]; omega⟩
  rw [hk, Int.toNat_natCast] at e0
  by_cases c3 : k < l.length
  case neg =>
    have c3' : ((l.length : Int) ≤ (k : Int)) = True := by simp only [eq_iff_iff, iff_true]; omega
    rw [List.getElem?_eq_none (by omega)] at e0
    rw [atS_none e0]
    simp (config := { decide := true }) only [go_sem, Int.reduceToNat, Nat.reduceAdd, Nat.reduceSub, Nat.reduceMul, Nat.reduceBEq, reduceIte, reduceCtorEq]
    refine HW.quiet 80 follows (by kernel_rfl) ?_
    simp (config := { decide := true }) only [go_sem, Int.reduceToNat, Nat.reduceAdd, Nat.reduceSub, Nat.reduceMul, Nat.reduceBEq, reduceIte, reduceCtorEq, c1', c2', hx, hpt, hc2, hc3, hk, c3', hlv]
    refine GQ.done ?_
    simp (config := { decide := true }) only [go_sem, Int.reduceToNat, Nat.reduceAdd, Nat.reduceSub, Nat.reduceMul, Nat.reduceBEq, reduceIte, reduceCtorEq]
  have c3' : ((l.length : Int) ≤ (k : Int)) = False := by simp only [eq_iff_iff, iff_false]; omega
  have hc4 : ((k : Int) < (l.length : Int)) = True := by rw [int_lt]; simp [c3]
  have hz : l[k]? = some l[k] := List.getElem?_eq_getElem c3
  rw [hz] at e0
  rw [atS_step e0, htA]
  have hR := hRx _ _ hz
  generalize l[k] = x at hz e0 hR
  simp (config := { decide := true }) only [go_sem, Int.reduceToNat, Nat.reduceAdd, Nat.reduceSub, Nat.reduceMul, Nat.reduceBEq, reduceIte, reduceCtorEq]
  refine HW.quiet 80 follows (by kernel_rfl) ?_
  simp (config := { decide := true }) only [go_sem, Int.reduceToNat, Nat.reduceAdd, Nat.reduceSub, Nat.reduceMul, Nat.reduceBEq, reduceIte, reduceCtorEq, c1', c2', hx, hpt, hc2, hc3, hk, c3', hlv]
  refine HW.mixed 80 7 (7, 0) [] follows (by kernel_rfl) (by decide) ?_
  simp (config := { decide := true }) only [go_sem, Int.reduceToNat, Nat.reduceAdd, Nat.reduceSub, Nat.reduceMul, Nat.reduceBEq, reduceIte, reduceCtorEq, c1', c2', hx, hpt, hc2, hc3, hk, c3', hc4, hz, hlv]
  refine HW.mixed 80 14 (7, 0) [] follows (by kernel_rfl) (by decide) ?_
  simp (config := { decide := true }) only [go_sem, Int.reduceToNat, Nat.reduceAdd, Nat.reduceSub, Nat.reduceMul, Nat.reduceBEq, reduceIte, reduceCtorEq, c1', c2', hx, hpt, hc2, hc3, hk, c3', hc4, hz, hlv]
  refine ⟨_, takeC p s x y t k l.length ht hx hR hll q2 hs.mem hp.init (by omega), ?_⟩
  have hm' : (thStep x s.mem y).1.length = s.mem.length := thStep_mem
  generalize thStep x s.mem y = z at hm' ⊢
  obtain ⟨m', z⟩ := z
  simp only at hm'
  rintro r H' ⟨rfl, rfl⟩ -
  simp (config := { decide := true }) only [go_sem, Int.reduceToNat, Nat.reduceAdd, Nat.reduceSub, Nat.reduceMul, Nat.reduceBEq, reduceIte, reduceCtorEq, hlv, hm']
  refine GQ.done ?_
  simp (config := { decide := true }) only [go_sem, Int.reduceToNat, Nat.reduceAdd, Nat.reduceSub, Nat.reduceMul, Nat.reduceBEq, reduceIte, reduceCtorEq, hlv, hm', List.length_set]
  rfl
end Go.Proofs.Yteieinhgdjjdoaa
namespace Go.Proofs.Yteieinhgdjjdoaa
open Go.RowKit
set_option maxRecDepth 8000
theorem rowBack (b : List (Int × Int)) : HFn Try.prog 101 [.sl (wrts b)] (.fn 103 [.bx 143 1 [.sl (wrts b)]]) := by
  refine HCalls_body (fn := Try.f101) 4 [2] (by kernel_rfl) rfl (by kernel_rfl) (HW.run 400 (by kernel_rfl) ?_)
  simp (config := { decide := true }) only [go_sem, Int.reduceToNat, Nat.reduceAdd, Nat.reduceSub, Nat.reduceMul, Nat.reduceBEq, reduceIte, reduceCtorEq]
theorem find_take {α : Type} {p : α → Bool} : ∀ {l : List α} {i : Nat} {x : α}, (∀ k, k < i → ∀ y, l[k]? = some y → p y = false) → l[i]? = some x → p x = true → l.find? p = some x
  | [], i, x, _, h, _ => by simp at h
  | a :: l, 0, x, _, h, hp => by simp at h; subst h; simp [hp]
  | a :: l, i + 1, x, hq, h, hp => by
    have ha := hq 0 (by omega) a rfl
    simp only [List.find?_cons, ha]
    exact find_take (i := i) (fun k hk y hy => hq (k + 1) (by omega) y (by simpa using hy)) (by simpa using h) hp
set_option maxHeartbeats 4000000 in
theorem bufLast (b : List (Int × Int)) (loc : Int) (hb : b.length ≤ 1000000) : HFn Try.prog 94 [.sl (wrts b), .v (.int .i64 loc)] (.tu [.v (.int .i64 ((lastB b loc).getD 0)), .v (.bool (lastB b loc).isSome)]) := by
  refine HCalls_bodyC (fn := Try.f94) 16 [.cell 4 3, .cell 5 4] (by kernel_rfl) rfl rfl (by kernel_rfl) (HW.run 400 (by kernel_rfl) ?_)
  simp (config := { decide := true }) only [go_sem, Int.reduceToNat, Nat.reduceAdd, Nat.reduceSub, Nat.reduceMul, Nat.reduceBEq, reduceIte, reduceCtorEq]
  refine callX_nm (rowBack b) rfl rfl ?_
  simp (config := { decide := true }) only [go_sem, Int.reduceToNat, Nat.reduceAdd, Nat.reduceSub, Nat.reduceMul, Nat.reduceBEq, reduceIte, reduceCtorEq]
  refine HW.rangeFunc rfl (by decide) rfl (rowX b) [some ⟨3, 1, [[.v (.int .i64 loc)]]⟩, some ⟨3, 1, [[.v (.int .i64 0)]]⟩, some ⟨4, 1, [[.v (.bool false)]]⟩, none]
    (fun j Hi => Hi = [some ⟨3, 1, [[.v (.int .i64 loc)]]⟩, some ⟨3, 1, [[.v (.int .i64 0)]]⟩, some ⟨4, 1, [[.v (.bool false)]]⟩, none] ∧ ∀ k, k < j → ∀ y, b.reverse[k]? = some y → decide (y.1 = loc) = false)
    (fun c Hi => c = .ret ∧ ∃ n, lastB b loc = some n ∧ Hi = [some ⟨3, 1, [[.v (.int .i64 loc)]]⟩, some ⟨3, 1, [[.v (.int .i64 n)]]⟩, some ⟨4, 1, [[.v (.bool true)]]⟩, none])
    (SubH.spec (And.intro rfl (And.intro rfl (And.intro rfl trivial)))) ?_ (fun o => back1 b hb _ 3 rfl) ⟨rfl, by simp⟩ ?_ ?_ ?_
  · intro x hx
    obtain ⟨y, _, rfl⟩ := List.mem_map.1 hx
    exact ⟨rfl, rfl⟩
  · rintro i x Hi hx - ⟨rfl, hno⟩
    unfold rowX at hx
    rw [List.getElem?_map] at hx
    obtain ⟨w, hw, rfl⟩ := Option.map_eq_some_iff.1 hx
    refine HW.run 60 (by kernel_rfl) ?_
    simp (config := { decide := true }) only [go_sem, Int.reduceToNat, Nat.reduceAdd, Nat.reduceSub, Nat.reduceMul, Nat.reduceBEq, reduceIte, reduceCtorEq]
    refine HW.run 60 (by kernel_rfl) ?_
    by_cases hc : w.1 = loc
    · have hc' : decide (w.1 = loc) = true := by simp [hc]
      have hl : lastB b loc = some w.2 := by
        unfold lastB
        rw [find_take (p := fun w => decide (w.1 = loc)) hno hw hc']; rfl
      simp (config := { decide := true }) only [go_sem, Int.reduceToNat, Nat.reduceAdd, Nat.reduceSub, Nat.reduceMul, Nat.reduceBEq, reduceIte, reduceCtorEq, hc]
      exact ⟨_, _, Ghost.trunc [] 4 (by omega) rfl rfl, rfl, _, hl, rfl⟩
    · simp (config := { decide := true }) only [go_sem, Int.reduceToNat, Nat.reduceAdd, Nat.reduceSub, Nat.reduceMul, Nat.reduceBEq, reduceIte, reduceCtorEq, hc]
      refine ⟨_, _, Ghost.trunc [] 4 (by omega) rfl rfl, rfl, rfl, fun k hk y hy => ?_⟩
      rcases Nat.lt_or_ge k i with h | h
      · simpa using hno k h y hy
      · obtain rfl : k = i := by omega
        rw [hw] at hy; cases hy; exact hc
  · rintro Hf - ⟨rfl, hno⟩
    have hl : lastB b loc = none := by
      unfold lastB
      rw [List.find?_eq_none.2 fun x hx => ?_]; rfl
      obtain ⟨k, hk⟩ := List.mem_iff_getElem?.1 hx
      have hkl := (List.getElem?_eq_some_iff.1 hk).1
      have := hno k (by simp [rowX] at hkl ⊢; omega) x hk
      simpa using this
    simp (config := { decide := true }) only [go_sem, Int.reduceToNat, Nat.reduceAdd, Nat.reduceSub, Nat.reduceMul, Nat.reduceBEq, reduceIte, reduceCtorEq, hl]
  · rintro c Hf - ⟨rfl, n, hl, rfl⟩
    unfold XQ
    simp (config := { decide := true }) only [go_sem, Int.reduceToNat, Nat.reduceAdd, Nat.reduceSub, Nat.reduceMul, Nat.reduceBEq, reduceIte, reduceCtorEq, hl]
set_option maxHeartbeats 4000000 in
theorem bufView (b : List (Int × Int)) (mem : List Int) (loc : Int) (hb : b.length ≤ 1000000) : HFn Try.prog 80 [.sl (wrts b), .sl (ints mem), .v (.int .i64 loc)] (.tu [.v (.int .i64 (viewB b mem loc).1), .v (.bool (viewB b mem loc).2)]) := by
  refine HCalls_body (fn := Try.f80) 30 [6, 7] (by kernel_rfl) rfl (by kernel_rfl) (HW.run 400 (by kernel_rfl) ?_)
  simp (config := { decide := true }) only [go_sem, Int.reduceToNat, Nat.reduceAdd, Nat.reduceSub, Nat.reduceMul, Nat.reduceBEq, reduceIte, reduceCtorEq]
  refine callX_fn 3 (bufLast b loc hb) (by simp only [go_sem]) rfl ?_
  unfold viewB
  cases hl : lastB b loc with
  | some n => simp (config := { decide := true }) only [go_sem, Int.reduceToNat, Nat.reduceAdd, Nat.reduceSub, Nat.reduceMul, Nat.reduceBEq, reduceIte, reduceCtorEq, hl]
  | none =>
    by_cases c1 : 0 ≤ loc
    case neg =>
      have c1' : (loc < 0) = True := by simp only [eq_iff_iff, iff_true]; omega
      have c1t : (0 ≤ loc) = False := by simp only [eq_iff_iff, iff_false]; omega
      simp (config := { decide := true }) only [go_sem, Int.reduceToNat, Nat.reduceAdd, Nat.reduceSub, Nat.reduceMul, Nat.reduceBEq, reduceIte, reduceCtorEq, hl, c1', c1t]
    have c1' : (loc < 0) = False := by simp only [eq_iff_iff, iff_false]; omega
    have c1t : (0 ≤ loc) = True := by simp [c1]
    by_cases c2 : loc < mem.length
    case neg =>
      have c2' : ((mem.length : Int) ≤ loc) = True := by simp only [eq_iff_iff, iff_true]; omega
      have c2t : (loc < (mem.length : Int)) = False := by simp [c2]
      simp (config := { decide := true }) only [go_sem, Int.reduceToNat, Nat.reduceAdd, Nat.reduceSub, Nat.reduceMul, Nat.reduceBEq, reduceIte, reduceCtorEq, hl, c1', c1t, c2', c2t]
    have c2' : ((mem.length : Int) ≤ loc) = False := by simp only [eq_iff_iff, iff_false]; omega
    have c2t : (loc < (mem.length : Int)) = True := by simp [c2]
    have hx : mem[loc.toNat]? = some (getI mem loc) := by
      have : loc.toNat < mem.length := by omega
      unfold getI; rw [List.getElem?_eq_getElem this]; rfl
    simp (config := { decide := true }) only [go_sem, Int.reduceToNat, Nat.reduceAdd, Nat.reduceSub, Nat.reduceMul, Nat.reduceBEq, reduceIte, reduceCtorEq, hl, c1', c1t, c2', c2t, hx]
end Go.Proofs.Yteieinhgdjjdoaa
namespace Go.Proofs.Yteieinhgdjjdoaa
open Go.RowKit
set_option maxRecDepth 8000
abbrev pushH (p : Prg) (s : Sta) (y : Thd) (x : Stp) (mem : List Int) (ths : List (List HV)) (c : HV) (t : Nat) : Heap :=
  [some ⟨25, 2, [[.sl (ints p.init), .sl (thrs p.thr)]]⟩, some ⟨38, 2, [[.sl (ints s.mem), .sl (thds s.ths)]]⟩,
   some ⟨38, 2, [[.v (.slice none 0 0), .v (.slice none 0 0)]]⟩,
   some ⟨50, 4, [[.v (.int .i64 y.pc), .sl (ints y.regs), .v (.bool y.eq), .sl (wrts y.buf)]]⟩,
   some ⟨3, 1, ints mem⟩, some ⟨50, 4, ths⟩,
   some ⟨38, 2, [[c, .hd 5 0 s.ths.length]]⟩, some ⟨116, 1, [[.pt 5 s.ths.length t 0]]⟩,
   some ⟨44, 5, [[.v (.int .i64 x.op), .v (.int .i64 x.reg), .v (.int .i64 x.loc), .v (.int .i64 x.n), .v (.int .i64 x.to)]]⟩]
set_option maxHeartbeats 8000000 in
theorem pushC (p : Prg) (s : Sta) (y z : Thd) (x : Stp) (m' : List Int) (t : Nat) (loc n : Int) (ht : t < s.ths.length) (hml : s.mem.length ≤ 100000) (hyb : y.buf.length ≤ 100000) (hm' : m'.length = s.mem.length) :
    HCalls Try.prog 78 (pushH p s y x m' (thdsO (s.ths.set t z)) (.hd 4 0 s.mem.length) t) [.v (.int .i64 loc), .v (.int .i64 n), .pt 3 1 0 0, .pt 7 1 0 0, .pt 1 1 0 0, .pt 6 1 0 0]
      (fun r H' => r = .tu [] ∧ H' = pushH p s y x m' (thdsO (s.ths.set t { z with buf := y.buf ++ [(loc, n)] })) (.ow 3 1 (ints s.mem)) t) := by
  refine HCalls_bodyC (fn := Try.f78) 21 [] (by kernel_rfl) rfl rfl (by kernel_rfl) (HW.weaken (Q' := fun e => GQ _ _ (endC _ _ _ _ e)) (HW.run 400 (by kernel_rfl) ?_) (fun _ _ _ h => h))
  have hst2 : ∀ (z : Thd) X, ((thdsO (s.ths.set t z)).set t X)[t]? = some X := fun z => set_get (by rw [thdsO_length, List.length_set]; exact ht)
  have hx2 : ∀ z : Thd, (s.ths.set t z)[t]? = some z := fun z => by simp [ht]
  have hlv : (s.ths.length == s.ths.length && s.ths.length != 0) = true := by
    rw [Bool.and_eq_true]
    exact ⟨beq_self_eq_true _, by simp only [bne_iff_ne]; omega⟩
  simp (config := { decide := true }) only [go_sem, Int.reduceToNat, Nat.reduceAdd, Nat.reduceSub, Nat.reduceMul, Nat.reduceBEq, reduceIte, reduceCtorEq, hst2, hx2, hlv, List.length_set]
  refine HW.mixed 80 7 (9, 0) [6] follows (by kernel_rfl) (by decide) ?_
  simp (config := { decide := true }) only [go_sem, Int.reduceToNat, Nat.reduceAdd, Nat.reduceSub, Nat.reduceMul, Nat.reduceBEq, reduceIte, reduceCtorEq, hst2, hx2, hlv, List.length_set]
  refine callM_nm (bufPush y.buf loc n (by omega)) rfl rfl ?_
  simp (config := { decide := true }) only [go_sem, Int.reduceToNat, Nat.reduceAdd, Nat.reduceSub, Nat.reduceMul, Nat.reduceBEq, reduceIte, reduceCtorEq, hst2, hx2, hlv, List.length_set, List.map_set, List.set_set]
  refine callX_nm (cloneInts s.mem (by omega)) rfl rfl ?_
  simp (config := { decide := true }) only [go_sem, Int.reduceToNat, Nat.reduceAdd, Nat.reduceSub, Nat.reduceMul, Nat.reduceBEq, reduceIte, reduceCtorEq, hst2, hx2, hlv, List.length_set, List.map_set, List.set_set, List.length_append, List.length_singleton]
  refine GQ.step (Ghost.absorb 6 0 0) ?_
  simp (config := { decide := true }) only [go_sem, Int.reduceToNat, Nat.reduceAdd, Nat.reduceSub, Nat.reduceMul, Nat.reduceBEq, reduceIte, reduceCtorEq, hst2, hx2, hlv, List.length_set, List.map_set, List.set_set, List.length_append, List.length_singleton]
  refine GQ.step (Ghost.absorb 5 t 3) ?_
  simp (config := { decide := true }) only [go_sem, Int.reduceToNat, Nat.reduceAdd, Nat.reduceSub, Nat.reduceMul, Nat.reduceBEq, reduceIte, reduceCtorEq, hst2, hx2, hlv, List.length_set, List.map_set, List.set_set, List.length_append, List.length_singleton]
  refine GQ.done ?_
  simp (config := { decide := true }) only [go_sem, Int.reduceToNat, Nat.reduceAdd, Nat.reduceSub, Nat.reduceMul, Nat.reduceBEq, reduceIte, reduceCtorEq, hst2, hx2, hlv, List.length_set, List.map_set, List.set_set, List.length_append, List.length_singleton, packV_nil0, endP_eq]
  try exact ⟨rfl, rfl, rfl⟩
end Go.Proofs.Yteieinhgdjjdoaa
namespace Go.Proofs.Yteieinhgdjjdoaa
open Go.RowKit
set_option maxRecDepth 8000
theorem setTh_nat' {s : Sta} {t : Nat} {mem : List Int} {y : Thd} : setTh s (t : Int) mem y = ⟨mem, s.ths.set t y⟩ := by unfold setTh; rw [Int.toNat_natCast]
set_option maxHeartbeats 4000000 in
theorem tsoDrain (s : Sta) (t : Nat) (y : Thd) (hx : s.ths[t]? = some y) (hml : s.mem.length ≤ 100000) (htl : s.ths.length ≤ 1000) (hrl : ∀ t ∈ s.ths, t.regs.length ≤ 100000 ∧ t.buf.length ≤ 100000) :
    HFn Try.prog 66 [staH s, .v (.int .i64 t)] (.tu [staO (if (drainB y.buf s.mem).2.2 = true then setTh s t (drainB y.buf s.mem).2.1 { y with buf := (drainB y.buf s.mem).1 } else s), .v (.bool (drainB y.buf s.mem).2.2)]) := by
  refine HCalls_bodyC (fn := Try.f66) 36 [.cell 4 38, .tmp 5] (by kernel_rfl) rfl rfl (by kernel_rfl) (HW.weaken (Q' := fun e => GQ _ _ (endC _ _ _ _ e)) (HW.run 400 (by kernel_rfl) ?_) (fun _ _ _ h => h))
  have ht : t < s.ths.length := (List.getElem?_eq_some_iff.1 hx).1
  have hyp : y ∈ s.ths := List.mem_of_getElem? hx
  obtain ⟨_, hyb⟩ := hrl _ hyp
  have hc2 : ((t : Int) < (s.ths.length : Int)) = True := by rw [int_lt]; simp [ht]
  have hst : ∀ X, ((thdsO s.ths).set t X)[t]? = some X := set_get (by rw [thdsO_length]; exact ht)
  have hlv : (s.ths.length == s.ths.length && s.ths.length != 0) = true := by
    rw [Bool.and_eq_true]
    exact ⟨beq_self_eq_true _, by simp only [bne_iff_ne]; omega⟩
  simp (config := { decide := true }) only [go_sem, Int.reduceToNat, Nat.reduceAdd, Nat.reduceSub, Nat.reduceMul, Nat.reduceBEq, reduceIte, reduceCtorEq]
  refine callX_fn 3 (tsoOwn s hml htl hrl) (by simp only [go_sem]) (by simp only [go_sem]) ?_
  simp (config := { decide := true }) only [go_sem, Int.reduceToNat, Nat.reduceAdd, Nat.reduceSub, Nat.reduceMul, Nat.reduceBEq, reduceIte, reduceCtorEq]
  refine HW.ghost (Ghost.open 3 t 3) ?_
  simp (config := { decide := true }) only [go_sem, Int.reduceToNat, Nat.reduceAdd, Nat.reduceSub, Nat.reduceMul, Nat.reduceBEq, reduceIte, reduceCtorEq, hx]
  refine HW.mixed 100 16 (6, 0) [8] follows (by kernel_rfl) (by decide) ?_
  simp (config := { decide := true }) only [go_sem, Int.reduceToNat, Nat.reduceAdd, Nat.reduceSub, Nat.reduceMul, Nat.reduceBEq, reduceIte, reduceCtorEq, hx, hc2, hlv, hst, List.map_set, List.set_set, List.length_set]
  refine callM_fn 3 (bufDrain y.buf s.mem (by omega) (by omega)) (by simp only [go_sem]) (by simp only [go_sem]) ?_
  have hdm : (drainB y.buf s.mem).2.1.length = s.mem.length := by
    unfold drainB
    split
    · rfl
    · split
      · exact setI_length
      · rfl
  cases hd : (drainB y.buf s.mem).2.2 with
  | true =>
    rw [if_pos rfl, setTh_nat']
    simp (config := { decide := true }) only [go_sem, Int.reduceToNat, Nat.reduceAdd, Nat.reduceSub, Nat.reduceMul, Nat.reduceBEq, reduceIte, reduceCtorEq, hx, hc2, hlv, hst, List.map_set, List.set_set, List.length_set, hd, hdm]
    refine GQ.step (Ghost.absorb 3 t 3) ?_
    simp (config := { decide := true }) only [go_sem, Int.reduceToNat, Nat.reduceAdd, Nat.reduceSub, Nat.reduceMul, Nat.reduceBEq, reduceIte, reduceCtorEq, hx, hc2, hlv, hst, List.map_set, List.set_set, List.length_set, hd, hdm]
    refine GQ.done ?_
    simp (config := { decide := true }) only [go_sem, Int.reduceToNat, Nat.reduceAdd, Nat.reduceSub, Nat.reduceMul, Nat.reduceBEq, reduceIte, reduceCtorEq, hx, hc2, hlv, hst, List.map_set, List.set_set, List.length_set, hd, hdm]
  | false =>
    rw [if_neg (by simp)]
    simp (config := { decide := true }) only [go_sem, Int.reduceToNat, Nat.reduceAdd, Nat.reduceSub, Nat.reduceMul, Nat.reduceBEq, reduceIte, reduceCtorEq, hx, hc2, hlv, hst, List.map_set, List.set_set, List.length_set, hd, hdm]
    refine GQ.step (Ghost.absorb 3 t 3) ?_
    simp (config := { decide := true }) only [go_sem, Int.reduceToNat, Nat.reduceAdd, Nat.reduceSub, Nat.reduceMul, Nat.reduceBEq, reduceIte, reduceCtorEq, hx, hc2, hlv, hst, List.map_set, List.set_set, List.length_set, hd, hdm]
    refine GQ.done ?_
    simp (config := { decide := true }) only [go_sem, Int.reduceToNat, Nat.reduceAdd, Nat.reduceSub, Nat.reduceMul, Nat.reduceBEq, reduceIte, reduceCtorEq, hx, hc2, hlv, hst, List.map_set, List.set_set, List.length_set, hd, hdm]
    have e : s.ths.set t ⟨y.pc, y.regs, y.eq, y.buf⟩ = s.ths := set_self hx
    rw [e]
set_option maxHeartbeats 16000000 in
theorem tsoTake (p : Prg) (s : Sta) (t : Nat) (y : Thd) (hx : s.ths[t]? = some y) (hp : RightP p) (hs : RightS p s) (hb : ∀ t ∈ s.ths, t.buf.length ≤ 100000) :
    HFn Try.prog 67 [prgH p, staH s, .v (.int .i64 t)] (.tu [staO (stepW p s ⟨t, false⟩).1, .v (.bool (stepW p s ⟨t, false⟩).2)]) := by
  refine HCalls_bodyC (fn := Try.f67) 94 [.cell 6 38, .tmp 7] (by kernel_rfl) rfl rfl (by kernel_rfl) (HW.weaken (Q' := fun e => GQ _ _ (endC _ _ _ _ e)) (HW.run 400 (by kernel_rfl) ?_) (fun _ _ _ h => h))
  have hml : s.mem.length ≤ 100000 := by have := hs.mem; have := hp.init; omega
  have htl : s.ths.length ≤ 1000 := by have := hs.ths; have := hp.thr; omega
  have hrl : ∀ t ∈ s.ths, t.regs.length ≤ 100000 ∧ t.buf.length ≤ 100000 := fun t ht => by
    obtain ⟨i, hi⟩ := List.getElem?_of_mem ht
    have hlt := (List.getElem?_eq_some_iff.1 hi).1
    have := (hs.t i _ t (List.getElem?_eq_getElem (show i < p.thr.length by rw [← hs.ths]; exact hlt)) hi).regs
    exact ⟨by omega, hb t ht⟩
  have ht : t < s.ths.length := (List.getElem?_eq_some_iff.1 hx).1
  have hyp : y ∈ s.ths := List.mem_of_getElem? hx
  obtain ⟨hyr, hyb⟩ := hrl _ hyp
  have htA : thAt s (t : Int) = y := by unfold thAt; rw [Int.toNat_natCast, hx]; rfl
  have hc2 : ((t : Int) < (s.ths.length : Int)) = True := by rw [int_lt]; simp [ht]
  have hst : ∀ X, ((thdsO s.ths).set t X)[t]? = some X := set_get (by rw [thdsO_length]; exact ht)
  have hlv : (s.ths.length == s.ths.length && s.ths.length != 0) = true := by
    rw [Bool.and_eq_true]
    exact ⟨beq_self_eq_true _, by simp only [bne_iff_ne]; omega⟩
  simp (config := { decide := true }) only [go_sem, Int.reduceToNat, Nat.reduceAdd, Nat.reduceSub, Nat.reduceMul, Nat.reduceBEq, reduceIte, reduceCtorEq, hx, hc2]
  refine callX_fn 3 (scStep p s t hp hs hb) (by simp only [go_sem]) (by simp only [go_sem]) ?_
  cases ha : atS p s (t : Int) with
  | none =>
    have e : stepW p s ⟨t, false⟩ = (s, false) := by
      unfold stepW
      rw [if_neg (fun h => h ⟨Int.natCast_nonneg t, Int.ofNat_lt.2 ht⟩), if_neg (by simp)]
      simp only [ha]
    rw [e, atS_none ha]
    simp (config := { decide := true }) only [go_sem, Int.reduceToNat, Nat.reduceAdd, Nat.reduceSub, Nat.reduceMul, Nat.reduceBEq, reduceIte, reduceCtorEq, hx, hc2]
    refine GQ.done ?_
    simp (config := { decide := true }) only [go_sem, Int.reduceToNat, Nat.reduceAdd, Nat.reduceSub, Nat.reduceMul, Nat.reduceBEq, reduceIte, reduceCtorEq, hx, hc2]
  | some x =>
    obtain ⟨l, c1, c2, hpt, _, hT, hz, hR, hlt⟩ := atS_spec hp hs ha
    rw [Int.toNat_natCast] at hpt
    rw [htA] at hT hz hR hlt
    rw [atS_step ha, htA]
    simp only [setTh_nat']
    have hW : stepW p s ⟨t, false⟩ = if y.buf ≠ [] ∧ (x.op = 6 ∨ x.op = 5) then (s, false)
        else if x.op = 2 then (setTh s t s.mem { (thStep x s.mem y).2 with regs := setI y.regs x.reg (viewB y.buf s.mem x.loc).1 }, true)
        else if x.op = 3 then (setTh s t s.mem { (thStep x s.mem y).2 with buf := y.buf ++ [(x.loc, getI y.regs x.reg)] }, true)
        else if x.op = 4 then (setTh s t s.mem { (thStep x s.mem y).2 with buf := y.buf ++ [(x.loc, x.n)] }, true)
        else (setTh s t (thStep x s.mem y).1 (thStep x s.mem y).2, true) := by
      unfold stepW
      rw [if_neg (fun h => h ⟨Int.natCast_nonneg t, Int.ofNat_lt.2 ht⟩), if_neg (by simp)]
      simp only [ha, htA]
    rw [hW]
    simp only [setTh_nat']
    have hm' : (thStep x s.mem y).1.length = s.mem.length := thStep_mem
    have hbz : (thStep x s.mem y).2.buf = y.buf := thStep_buf
    have hrz : (thStep x s.mem y).2.regs.length = y.regs.length := thStep_regs
    obtain ⟨k, hk⟩ : ∃ k : Nat, y.pc = k := ⟨y.pc.toNat, by have := hT.pc; omega⟩
    rw [hk, Int.toNat_natCast] at hz
    have hkl : k < l.length := by omega
    have hc3 : ((t : Int) < (p.thr.length : Int)) = True := by have := hs.ths; rw [int_lt]; simp; omega
    have hc4 : ((k : Int) < (l.length : Int)) = True := by rw [int_lt]; simp [hkl]
    have hst2 : ∀ (z : Thd) X, ((thdsO (s.ths.set t z)).set t X)[t]? = some X := fun z => set_get (by rw [thdsO_length, List.length_set]; exact ht)
    have hx2 : ∀ z : Thd, (s.ths.set t z)[t]? = some z := fun z => by simp [ht]
    have hj2 : x.op = 2 → (thStep x s.mem y).1 = s.mem ∧ (thStep x s.mem y).2.regs = setI y.regs x.reg (getI s.mem x.loc) := fun h => by simp [thStep, h]
    generalize thStep x s.mem y = z at hm' hbz hrz hj2 ⊢
    obtain ⟨m', z⟩ := z
    simp only at hm' hbz hrz hj2 ⊢
    have r1 : (0 ≤ x.reg) = True := by simp only [eq_iff_iff, iff_true]; exact hR.reg.1
    have r2 : (x.reg < (z.regs.length : Int)) = True := by have := hR.reg.2.1; have := hT.regs; simp only [eq_iff_iff, iff_true]; omega
    have r2y : (x.reg < (y.regs.length : Int)) = True := by have := hR.reg.2.1; have := hT.regs; simp only [eq_iff_iff, iff_true]; omega
    have r3 : y.regs[x.reg.toNat]? = some (getI y.regs x.reg) := by
      have : x.reg.toNat < y.regs.length := by have := hR.reg; have := hT.regs; omega
      unfold getI; rw [List.getElem?_eq_getElem this]; rfl
    have r4 : z.regs[x.reg.toNat]? = some (z.regs[x.reg.toNat]'(by have := hR.reg; have := hT.regs; omega)) := List.getElem?_eq_getElem _
    have hop : x.op = 1 ∨ x.op = 2 ∨ x.op = 3 ∨ x.op = 4 ∨ x.op = 5 ∨ x.op = 6 ∨ x.op = 7 ∨ x.op = 8 ∨ x.op = 9 ∨ x.op = 10 := by have := hR.op; omega
    by_cases hbe : y.buf = []
    · have b0 : ((0 : Int) < (y.buf.length : Int)) = False := by rw [hbe]; simp
      rw [if_neg (fun h => h.1 hbe)]
      rcases hop with h | h | h | h | h | h | h | h | h | h
      · rw [if_neg (by omega), if_neg (by omega), if_neg (by omega)]
        simp (config := { decide := true }) only [go_sem, Int.reduceToNat, Nat.reduceAdd, Nat.reduceSub, Nat.reduceMul, Nat.reduceBEq, reduceIte, reduceCtorEq, hx, hc2, hm', hlv, hx2, hst2, List.length_set, hpt, hc3, hk, hc4, hz, h, List.map_set, List.set_set, b0]
        refine HW.mixed 100 10 (6, 0) [9] follows (by kernel_rfl) (by decide) ?_
        simp (config := { decide := true }) only [go_sem, Int.reduceToNat, Nat.reduceAdd, Nat.reduceSub, Nat.reduceMul, Nat.reduceBEq, reduceIte, reduceCtorEq, hx, hc2, hm', hlv, hx2, hst2, List.length_set, hpt, hc3, hk, hc4, hz, h, List.map_set, List.set_set, b0]
        refine GQ.done ?_
        simp (config := { decide := true }) only [go_sem, Int.reduceToNat, Nat.reduceAdd, Nat.reduceSub, Nat.reduceMul, Nat.reduceBEq, reduceIte, reduceCtorEq, hx, hc2, hm', hlv, hx2, hst2, List.length_set, hpt, hc3, hk, hc4, hz, h, List.map_set, List.set_set, b0]
      · rw [if_pos h]
        obtain ⟨e1, e2⟩ := hj2 h
        simp (config := { decide := true }) only [go_sem, Int.reduceToNat, Nat.reduceAdd, Nat.reduceSub, Nat.reduceMul, Nat.reduceBEq, reduceIte, reduceCtorEq, hx, hc2, hm', hlv, hx2, hst2, List.length_set, hpt, hc3, hk, hc4, hz, h, List.map_set, List.set_set, b0]
        refine HW.mixed 100 10 (6, 0) [9] follows (by kernel_rfl) (by decide) ?_
        simp (config := { decide := true }) only [go_sem, Int.reduceToNat, Nat.reduceAdd, Nat.reduceSub, Nat.reduceMul, Nat.reduceBEq, reduceIte, reduceCtorEq, hx, hc2, hm', hlv, hx2, hst2, List.length_set, hpt, hc3, hk, hc4, hz, h, List.map_set, List.set_set, b0]
        refine HW.ghost (Ghost.open 5 t 1) ?_
        simp (config := { decide := true }) only [go_sem, Int.reduceToNat, Nat.reduceAdd, Nat.reduceSub, Nat.reduceMul, Nat.reduceBEq, reduceIte, reduceCtorEq, hx, hc2, hm', hlv, hx2, hst2, List.length_set, hpt, hc3, hk, hc4, hz, h, List.map_set, List.set_set, b0]
        refine HW.mixed 120 18 (4, 10) [17, 2017, 1000, 1001, 1002, 1003, 1004, 1005, 1006, 1007, 1008, 1009, 1010, 1011, 1016] follows (by kernel_rfl) (by decide) ?_
        simp (config := { decide := true }) only [go_sem, Int.reduceToNat, Nat.reduceAdd, Nat.reduceSub, Nat.reduceMul, Nat.reduceBEq, reduceIte, reduceCtorEq, hx, hc2, hm', hlv, hx2, hst2, List.length_set, hpt, hc3, hk, hc4, hz, h, List.map_set, List.set_set, b0, r1, r2, r4]
        refine callN_nm (bufView y.buf s.mem x.loc (by omega)) rfl rfl ?_
        simp (config := { decide := true }) only [go_sem, Int.reduceToNat, Nat.reduceAdd, Nat.reduceSub, Nat.reduceMul, Nat.reduceBEq, reduceIte, reduceCtorEq, hx, hc2, hm', hlv, hx2, hst2, List.length_set, hpt, hc3, hk, hc4, hz, h, List.map_set, List.set_set, b0, r1, r2, r4]
        refine GQ.step (Ghost.absorb 5 t 1) ?_
        simp (config := { decide := true }) only [go_sem, Int.reduceToNat, Nat.reduceAdd, Nat.reduceSub, Nat.reduceMul, Nat.reduceBEq, reduceIte, reduceCtorEq, hx, hc2, hm', hlv, hx2, hst2, List.length_set, hpt, hc3, hk, hc4, hz, h, List.map_set, List.set_set, b0, r1, r2, r4]
        refine GQ.done ?_
        simp (config := { decide := true }) only [go_sem, Int.reduceToNat, Nat.reduceAdd, Nat.reduceSub, Nat.reduceMul, Nat.reduceBEq, reduceIte, reduceCtorEq, hx, hc2, hm', hlv, hx2, hst2, List.length_set, hpt, hc3, hk, hc4, hz, h, List.map_set, List.set_set, b0, r1, r2, r4]
        rw [e1, e2]
        simp only [setI, List.set_set]
      · rw [if_neg (by omega), if_pos h]
        simp (config := { decide := true }) only [go_sem, Int.reduceToNat, Nat.reduceAdd, Nat.reduceSub, Nat.reduceMul, Nat.reduceBEq, reduceIte, reduceCtorEq, hx, hc2, hm', hlv, hx2, hst2, List.length_set, hpt, hc3, hk, hc4, hz, h, List.map_set, List.set_set, b0]
        refine HW.mixed 100 10 (6, 0) [9] follows (by kernel_rfl) (by decide) ?_
        simp (config := { decide := true }) only [go_sem, Int.reduceToNat, Nat.reduceAdd, Nat.reduceSub, Nat.reduceMul, Nat.reduceBEq, reduceIte, reduceCtorEq, hx, hc2, hm', hlv, hx2, hst2, List.length_set, hpt, hc3, hk, hc4, hz, h, List.map_set, List.set_set, b0]
        refine HW.mixed 120 9 (9, 0) [] follows (by kernel_rfl) (by decide) ?_
        simp (config := { decide := true }) only [go_sem, Int.reduceToNat, Nat.reduceAdd, Nat.reduceSub, Nat.reduceMul, Nat.reduceBEq, reduceIte, reduceCtorEq, hx, hc2, hm', hlv, hx2, hst2, List.length_set, hpt, hc3, hk, hc4, hz, h, List.map_set, List.set_set, b0, r1, r2y, r3]
        refine ⟨_, pushC p s ⟨k, y.regs, y.eq, y.buf⟩ z ⟨3, x.reg, x.loc, x.n, x.to⟩ m' t x.loc (getI y.regs x.reg) ht hml hyb hm', ?_⟩
        rintro r H' ⟨rfl, rfl⟩ -
        simp (config := { decide := true }) only [go_sem, Int.reduceToNat, Nat.reduceAdd, Nat.reduceSub, Nat.reduceMul, Nat.reduceBEq, reduceIte, reduceCtorEq, hx, hc2, hm', hlv, hx2, hst2, List.length_set, hpt, hc3, hk, hc4, hz, h, List.map_set, List.set_set, b0, r1, r2y, r3]
        refine GQ.done ?_
        simp (config := { decide := true }) only [go_sem, Int.reduceToNat, Nat.reduceAdd, Nat.reduceSub, Nat.reduceMul, Nat.reduceBEq, reduceIte, reduceCtorEq, hx, hc2, hm', hlv, hx2, hst2, List.length_set, hpt, hc3, hk, hc4, hz, h, List.map_set, List.set_set, b0, r1, r2y, r3]
      · rw [if_neg (by omega), if_neg (by omega), if_pos h]
        simp (config := { decide := true }) only [go_sem, Int.reduceToNat, Nat.reduceAdd, Nat.reduceSub, Nat.reduceMul, Nat.reduceBEq, reduceIte, reduceCtorEq, hx, hc2, hm', hlv, hx2, hst2, List.length_set, hpt, hc3, hk, hc4, hz, h, List.map_set, List.set_set, b0]
        refine HW.mixed 100 10 (6, 0) [9] follows (by kernel_rfl) (by decide) ?_
        simp (config := { decide := true }) only [go_sem, Int.reduceToNat, Nat.reduceAdd, Nat.reduceSub, Nat.reduceMul, Nat.reduceBEq, reduceIte, reduceCtorEq, hx, hc2, hm', hlv, hx2, hst2, List.length_set, hpt, hc3, hk, hc4, hz, h, List.map_set, List.set_set, b0]
        refine ⟨_, pushC p s ⟨k, y.regs, y.eq, y.buf⟩ z ⟨4, x.reg, x.loc, x.n, x.to⟩ m' t x.loc x.n ht hml hyb hm', ?_⟩
        rintro r H' ⟨rfl, rfl⟩ -
        simp (config := { decide := true }) only [go_sem, Int.reduceToNat, Nat.reduceAdd, Nat.reduceSub, Nat.reduceMul, Nat.reduceBEq, reduceIte, reduceCtorEq, hx, hc2, hm', hlv, hx2, hst2, List.length_set, hpt, hc3, hk, hc4, hz, h, List.map_set, List.set_set, b0, r1, r2y, r3]
        refine GQ.done ?_
        simp (config := { decide := true }) only [go_sem, Int.reduceToNat, Nat.reduceAdd, Nat.reduceSub, Nat.reduceMul, Nat.reduceBEq, reduceIte, reduceCtorEq, hx, hc2, hm', hlv, hx2, hst2, List.length_set, hpt, hc3, hk, hc4, hz, h, List.map_set, List.set_set, b0, r1, r2y, r3]
      · rw [if_neg (by omega), if_neg (by omega), if_neg (by omega)]
        simp (config := { decide := true }) only [go_sem, Int.reduceToNat, Nat.reduceAdd, Nat.reduceSub, Nat.reduceMul, Nat.reduceBEq, reduceIte, reduceCtorEq, hx, hc2, hm', hlv, hx2, hst2, List.length_set, hpt, hc3, hk, hc4, hz, h, List.map_set, List.set_set, b0]
        refine HW.mixed 100 10 (6, 0) [9] follows (by kernel_rfl) (by decide) ?_
        simp (config := { decide := true }) only [go_sem, Int.reduceToNat, Nat.reduceAdd, Nat.reduceSub, Nat.reduceMul, Nat.reduceBEq, reduceIte, reduceCtorEq, hx, hc2, hm', hlv, hx2, hst2, List.length_set, hpt, hc3, hk, hc4, hz, h, List.map_set, List.set_set, b0]
        refine GQ.done ?_
        simp (config := { decide := true }) only [go_sem, Int.reduceToNat, Nat.reduceAdd, Nat.reduceSub, Nat.reduceMul, Nat.reduceBEq, reduceIte, reduceCtorEq, hx, hc2, hm', hlv, hx2, hst2, List.length_set, hpt, hc3, hk, hc4, hz, h, List.map_set, List.set_set, b0]
      · rw [if_neg (by omega), if_neg (by omega), if_neg (by omega)]
        simp (config := { decide := true }) only [go_sem, Int.reduceToNat, Nat.reduceAdd, Nat.reduceSub, Nat.reduceMul, Nat.reduceBEq, reduceIte, reduceCtorEq, hx, hc2, hm', hlv, hx2, hst2, List.length_set, hpt, hc3, hk, hc4, hz, h, List.map_set, List.set_set, b0]
        refine HW.mixed 100 10 (6, 0) [9] follows (by kernel_rfl) (by decide) ?_
        simp (config := { decide := true }) only [go_sem, Int.reduceToNat, Nat.reduceAdd, Nat.reduceSub, Nat.reduceMul, Nat.reduceBEq, reduceIte, reduceCtorEq, hx, hc2, hm', hlv, hx2, hst2, List.length_set, hpt, hc3, hk, hc4, hz, h, List.map_set, List.set_set, b0]
        refine GQ.done ?_
        simp (config := { decide := true }) only [go_sem, Int.reduceToNat, Nat.reduceAdd, Nat.reduceSub, Nat.reduceMul, Nat.reduceBEq, reduceIte, reduceCtorEq, hx, hc2, hm', hlv, hx2, hst2, List.length_set, hpt, hc3, hk, hc4, hz, h, List.map_set, List.set_set, b0]
      · rw [if_neg (by omega), if_neg (by omega), if_neg (by omega)]
        simp (config := { decide := true }) only [go_sem, Int.reduceToNat, Nat.reduceAdd, Nat.reduceSub, Nat.reduceMul, Nat.reduceBEq, reduceIte, reduceCtorEq, hx, hc2, hm', hlv, hx2, hst2, List.length_set, hpt, hc3, hk, hc4, hz, h, List.map_set, List.set_set, b0]
        refine HW.mixed 100 10 (6, 0) [9] follows (by kernel_rfl) (by decide) ?_
        simp (config := { decide := true }) only [go_sem, Int.reduceToNat, Nat.reduceAdd, Nat.reduceSub, Nat.reduceMul, Nat.reduceBEq, reduceIte, reduceCtorEq, hx, hc2, hm', hlv, hx2, hst2, List.length_set, hpt, hc3, hk, hc4, hz, h, List.map_set, List.set_set, b0]
        refine GQ.done ?_
        simp (config := { decide := true }) only [go_sem, Int.reduceToNat, Nat.reduceAdd, Nat.reduceSub, Nat.reduceMul, Nat.reduceBEq, reduceIte, reduceCtorEq, hx, hc2, hm', hlv, hx2, hst2, List.length_set, hpt, hc3, hk, hc4, hz, h, List.map_set, List.set_set, b0]
      · rw [if_neg (by omega), if_neg (by omega), if_neg (by omega)]
        simp (config := { decide := true }) only [go_sem, Int.reduceToNat, Nat.reduceAdd, Nat.reduceSub, Nat.reduceMul, Nat.reduceBEq, reduceIte, reduceCtorEq, hx, hc2, hm', hlv, hx2, hst2, List.length_set, hpt, hc3, hk, hc4, hz, h, List.map_set, List.set_set, b0]
        refine HW.mixed 100 10 (6, 0) [9] follows (by kernel_rfl) (by decide) ?_
        simp (config := { decide := true }) only [go_sem, Int.reduceToNat, Nat.reduceAdd, Nat.reduceSub, Nat.reduceMul, Nat.reduceBEq, reduceIte, reduceCtorEq, hx, hc2, hm', hlv, hx2, hst2, List.length_set, hpt, hc3, hk, hc4, hz, h, List.map_set, List.set_set, b0]
        refine GQ.done ?_
        simp (config := { decide := true }) only [go_sem, Int.reduceToNat, Nat.reduceAdd, Nat.reduceSub, Nat.reduceMul, Nat.reduceBEq, reduceIte, reduceCtorEq, hx, hc2, hm', hlv, hx2, hst2, List.length_set, hpt, hc3, hk, hc4, hz, h, List.map_set, List.set_set, b0]
      · rw [if_neg (by omega), if_neg (by omega), if_neg (by omega)]
        simp (config := { decide := true }) only [go_sem, Int.reduceToNat, Nat.reduceAdd, Nat.reduceSub, Nat.reduceMul, Nat.reduceBEq, reduceIte, reduceCtorEq, hx, hc2, hm', hlv, hx2, hst2, List.length_set, hpt, hc3, hk, hc4, hz, h, List.map_set, List.set_set, b0]
        refine HW.mixed 100 10 (6, 0) [9] follows (by kernel_rfl) (by decide) ?_
        simp (config := { decide := true }) only [go_sem, Int.reduceToNat, Nat.reduceAdd, Nat.reduceSub, Nat.reduceMul, Nat.reduceBEq, reduceIte, reduceCtorEq, hx, hc2, hm', hlv, hx2, hst2, List.length_set, hpt, hc3, hk, hc4, hz, h, List.map_set, List.set_set, b0]
        refine GQ.done ?_
        simp (config := { decide := true }) only [go_sem, Int.reduceToNat, Nat.reduceAdd, Nat.reduceSub, Nat.reduceMul, Nat.reduceBEq, reduceIte, reduceCtorEq, hx, hc2, hm', hlv, hx2, hst2, List.length_set, hpt, hc3, hk, hc4, hz, h, List.map_set, List.set_set, b0]
      · rw [if_neg (by omega), if_neg (by omega), if_neg (by omega)]
        simp (config := { decide := true }) only [go_sem, Int.reduceToNat, Nat.reduceAdd, Nat.reduceSub, Nat.reduceMul, Nat.reduceBEq, reduceIte, reduceCtorEq, hx, hc2, hm', hlv, hx2, hst2, List.length_set, hpt, hc3, hk, hc4, hz, h, List.map_set, List.set_set, b0]
        refine HW.mixed 100 10 (6, 0) [9] follows (by kernel_rfl) (by decide) ?_
        simp (config := { decide := true }) only [go_sem, Int.reduceToNat, Nat.reduceAdd, Nat.reduceSub, Nat.reduceMul, Nat.reduceBEq, reduceIte, reduceCtorEq, hx, hc2, hm', hlv, hx2, hst2, List.length_set, hpt, hc3, hk, hc4, hz, h, List.map_set, List.set_set, b0]
        refine GQ.done ?_
        simp (config := { decide := true }) only [go_sem, Int.reduceToNat, Nat.reduceAdd, Nat.reduceSub, Nat.reduceMul, Nat.reduceBEq, reduceIte, reduceCtorEq, hx, hc2, hm', hlv, hx2, hst2, List.length_set, hpt, hc3, hk, hc4, hz, h, List.map_set, List.set_set, b0]
    · have b0 : ((0 : Int) < (y.buf.length : Int)) = True := by
        have := List.length_pos_iff.mpr hbe
        simp only [eq_iff_iff, iff_true]; omega
      rcases hop with h | h | h | h | h | h | h | h | h | h
      · rw [if_neg (fun h' => by have := h'.2; omega)]
        rw [if_neg (by omega), if_neg (by omega), if_neg (by omega)]
        simp (config := { decide := true }) only [go_sem, Int.reduceToNat, Nat.reduceAdd, Nat.reduceSub, Nat.reduceMul, Nat.reduceBEq, reduceIte, reduceCtorEq, hx, hc2, hm', hlv, hx2, hst2, List.length_set, hpt, hc3, hk, hc4, hz, h, List.map_set, List.set_set, b0]
        refine HW.mixed 100 10 (6, 0) [9] follows (by kernel_rfl) (by decide) ?_
        simp (config := { decide := true }) only [go_sem, Int.reduceToNat, Nat.reduceAdd, Nat.reduceSub, Nat.reduceMul, Nat.reduceBEq, reduceIte, reduceCtorEq, hx, hc2, hm', hlv, hx2, hst2, List.length_set, hpt, hc3, hk, hc4, hz, h, List.map_set, List.set_set, b0]
        refine GQ.done ?_
        simp (config := { decide := true }) only [go_sem, Int.reduceToNat, Nat.reduceAdd, Nat.reduceSub, Nat.reduceMul, Nat.reduceBEq, reduceIte, reduceCtorEq, hx, hc2, hm', hlv, hx2, hst2, List.length_set, hpt, hc3, hk, hc4, hz, h, List.map_set, List.set_set, b0]
      · rw [if_neg (fun h' => by have := h'.2; omega)]
        rw [if_pos h]
        obtain ⟨e1, e2⟩ := hj2 h
        simp (config := { decide := true }) only [go_sem, Int.reduceToNat, Nat.reduceAdd, Nat.reduceSub, Nat.reduceMul, Nat.reduceBEq, reduceIte, reduceCtorEq, hx, hc2, hm', hlv, hx2, hst2, List.length_set, hpt, hc3, hk, hc4, hz, h, List.map_set, List.set_set, b0]
        refine HW.mixed 100 10 (6, 0) [9] follows (by kernel_rfl) (by decide) ?_
        simp (config := { decide := true }) only [go_sem, Int.reduceToNat, Nat.reduceAdd, Nat.reduceSub, Nat.reduceMul, Nat.reduceBEq, reduceIte, reduceCtorEq, hx, hc2, hm', hlv, hx2, hst2, List.length_set, hpt, hc3, hk, hc4, hz, h, List.map_set, List.set_set, b0]
        refine HW.ghost (Ghost.open 5 t 1) ?_
        simp (config := { decide := true }) only [go_sem, Int.reduceToNat, Nat.reduceAdd, Nat.reduceSub, Nat.reduceMul, Nat.reduceBEq, reduceIte, reduceCtorEq, hx, hc2, hm', hlv, hx2, hst2, List.length_set, hpt, hc3, hk, hc4, hz, h, List.map_set, List.set_set, b0]
        refine HW.mixed 120 18 (4, 10) [17, 2017, 1000, 1001, 1002, 1003, 1004, 1005, 1006, 1007, 1008, 1009, 1010, 1011, 1016] follows (by kernel_rfl) (by decide) ?_
        simp (config := { decide := true }) only [go_sem, Int.reduceToNat, Nat.reduceAdd, Nat.reduceSub, Nat.reduceMul, Nat.reduceBEq, reduceIte, reduceCtorEq, hx, hc2, hm', hlv, hx2, hst2, List.length_set, hpt, hc3, hk, hc4, hz, h, List.map_set, List.set_set, b0, r1, r2, r4]
        refine callN_nm (bufView y.buf s.mem x.loc (by omega)) rfl rfl ?_
        simp (config := { decide := true }) only [go_sem, Int.reduceToNat, Nat.reduceAdd, Nat.reduceSub, Nat.reduceMul, Nat.reduceBEq, reduceIte, reduceCtorEq, hx, hc2, hm', hlv, hx2, hst2, List.length_set, hpt, hc3, hk, hc4, hz, h, List.map_set, List.set_set, b0, r1, r2, r4]
        refine GQ.step (Ghost.absorb 5 t 1) ?_
        simp (config := { decide := true }) only [go_sem, Int.reduceToNat, Nat.reduceAdd, Nat.reduceSub, Nat.reduceMul, Nat.reduceBEq, reduceIte, reduceCtorEq, hx, hc2, hm', hlv, hx2, hst2, List.length_set, hpt, hc3, hk, hc4, hz, h, List.map_set, List.set_set, b0, r1, r2, r4]
        refine GQ.done ?_
        simp (config := { decide := true }) only [go_sem, Int.reduceToNat, Nat.reduceAdd, Nat.reduceSub, Nat.reduceMul, Nat.reduceBEq, reduceIte, reduceCtorEq, hx, hc2, hm', hlv, hx2, hst2, List.length_set, hpt, hc3, hk, hc4, hz, h, List.map_set, List.set_set, b0, r1, r2, r4]
        rw [e1, e2]
        simp only [setI, List.set_set]
      · rw [if_neg (fun h' => by have := h'.2; omega)]
        rw [if_neg (by omega), if_pos h]
        simp (config := { decide := true }) only [go_sem, Int.reduceToNat, Nat.reduceAdd, Nat.reduceSub, Nat.reduceMul, Nat.reduceBEq, reduceIte, reduceCtorEq, hx, hc2, hm', hlv, hx2, hst2, List.length_set, hpt, hc3, hk, hc4, hz, h, List.map_set, List.set_set, b0]
        refine HW.mixed 100 10 (6, 0) [9] follows (by kernel_rfl) (by decide) ?_
        simp (config := { decide := true }) only [go_sem, Int.reduceToNat, Nat.reduceAdd, Nat.reduceSub, Nat.reduceMul, Nat.reduceBEq, reduceIte, reduceCtorEq, hx, hc2, hm', hlv, hx2, hst2, List.length_set, hpt, hc3, hk, hc4, hz, h, List.map_set, List.set_set, b0]
        refine HW.mixed 120 9 (9, 0) [] follows (by kernel_rfl) (by decide) ?_
        simp (config := { decide := true }) only [go_sem, Int.reduceToNat, Nat.reduceAdd, Nat.reduceSub, Nat.reduceMul, Nat.reduceBEq, reduceIte, reduceCtorEq, hx, hc2, hm', hlv, hx2, hst2, List.length_set, hpt, hc3, hk, hc4, hz, h, List.map_set, List.set_set, b0, r1, r2y, r3]
        refine ⟨_, pushC p s ⟨k, y.regs, y.eq, y.buf⟩ z ⟨3, x.reg, x.loc, x.n, x.to⟩ m' t x.loc (getI y.regs x.reg) ht hml hyb hm', ?_⟩
        rintro r H' ⟨rfl, rfl⟩ -
        simp (config := { decide := true }) only [go_sem, Int.reduceToNat, Nat.reduceAdd, Nat.reduceSub, Nat.reduceMul, Nat.reduceBEq, reduceIte, reduceCtorEq, hx, hc2, hm', hlv, hx2, hst2, List.length_set, hpt, hc3, hk, hc4, hz, h, List.map_set, List.set_set, b0, r1, r2y, r3]
        refine GQ.done ?_
        simp (config := { decide := true }) only [go_sem, Int.reduceToNat, Nat.reduceAdd, Nat.reduceSub, Nat.reduceMul, Nat.reduceBEq, reduceIte, reduceCtorEq, hx, hc2, hm', hlv, hx2, hst2, List.length_set, hpt, hc3, hk, hc4, hz, h, List.map_set, List.set_set, b0, r1, r2y, r3]
      · rw [if_neg (fun h' => by have := h'.2; omega)]
        rw [if_neg (by omega), if_neg (by omega), if_pos h]
        simp (config := { decide := true }) only [go_sem, Int.reduceToNat, Nat.reduceAdd, Nat.reduceSub, Nat.reduceMul, Nat.reduceBEq, reduceIte, reduceCtorEq, hx, hc2, hm', hlv, hx2, hst2, List.length_set, hpt, hc3, hk, hc4, hz, h, List.map_set, List.set_set, b0]
        refine HW.mixed 100 10 (6, 0) [9] follows (by kernel_rfl) (by decide) ?_
        simp (config := { decide := true }) only [go_sem, Int.reduceToNat, Nat.reduceAdd, Nat.reduceSub, Nat.reduceMul, Nat.reduceBEq, reduceIte, reduceCtorEq, hx, hc2, hm', hlv, hx2, hst2, List.length_set, hpt, hc3, hk, hc4, hz, h, List.map_set, List.set_set, b0]
        refine ⟨_, pushC p s ⟨k, y.regs, y.eq, y.buf⟩ z ⟨4, x.reg, x.loc, x.n, x.to⟩ m' t x.loc x.n ht hml hyb hm', ?_⟩
        rintro r H' ⟨rfl, rfl⟩ -
        simp (config := { decide := true }) only [go_sem, Int.reduceToNat, Nat.reduceAdd, Nat.reduceSub, Nat.reduceMul, Nat.reduceBEq, reduceIte, reduceCtorEq, hx, hc2, hm', hlv, hx2, hst2, List.length_set, hpt, hc3, hk, hc4, hz, h, List.map_set, List.set_set, b0, r1, r2y, r3]
        refine GQ.done ?_
        simp (config := { decide := true }) only [go_sem, Int.reduceToNat, Nat.reduceAdd, Nat.reduceSub, Nat.reduceMul, Nat.reduceBEq, reduceIte, reduceCtorEq, hx, hc2, hm', hlv, hx2, hst2, List.length_set, hpt, hc3, hk, hc4, hz, h, List.map_set, List.set_set, b0, r1, r2y, r3]
      · rw [if_pos ⟨hbe, by omega⟩]
        simp (config := { decide := true }) only [go_sem, Int.reduceToNat, Nat.reduceAdd, Nat.reduceSub, Nat.reduceMul, Nat.reduceBEq, reduceIte, reduceCtorEq, hx, hc2, hm', hlv, hx2, hst2, List.length_set, hpt, hc3, hk, hc4, hz, h, List.map_set, List.set_set, b0]
        refine HW.mixed 100 10 (6, 0) [9] follows (by kernel_rfl) (by decide) ?_
        simp (config := { decide := true }) only [go_sem, Int.reduceToNat, Nat.reduceAdd, Nat.reduceSub, Nat.reduceMul, Nat.reduceBEq, reduceIte, reduceCtorEq, hx, hc2, hm', hlv, hx2, hst2, List.length_set, hpt, hc3, hk, hc4, hz, h, List.map_set, List.set_set, b0]
        refine callX_fn 3 (tsoOwn s hml htl hrl) (by simp only [go_sem]) (by simp only [go_sem]) ?_
        simp (config := { decide := true }) only [go_sem, Int.reduceToNat, Nat.reduceAdd, Nat.reduceSub, Nat.reduceMul, Nat.reduceBEq, reduceIte, reduceCtorEq, hx, hc2, hm', hlv, hx2, hst2, List.length_set, hpt, hc3, hk, hc4, hz, h, List.map_set, List.set_set, b0]
        refine GQ.done ?_
        simp (config := { decide := true }) only [go_sem, Int.reduceToNat, Nat.reduceAdd, Nat.reduceSub, Nat.reduceMul, Nat.reduceBEq, reduceIte, reduceCtorEq, hx, hc2, hm', hlv, hx2, hst2, List.length_set, hpt, hc3, hk, hc4, hz, h, List.map_set, List.set_set, b0]
      · rw [if_pos ⟨hbe, by omega⟩]
        simp (config := { decide := true }) only [go_sem, Int.reduceToNat, Nat.reduceAdd, Nat.reduceSub, Nat.reduceMul, Nat.reduceBEq, reduceIte, reduceCtorEq, hx, hc2, hm', hlv, hx2, hst2, List.length_set, hpt, hc3, hk, hc4, hz, h, List.map_set, List.set_set, b0]
        refine HW.mixed 100 10 (6, 0) [9] follows (by kernel_rfl) (by decide) ?_
        simp (config := { decide := true }) only [go_sem, Int.reduceToNat, Nat.reduceAdd, Nat.reduceSub, Nat.reduceMul, Nat.reduceBEq, reduceIte, reduceCtorEq, hx, hc2, hm', hlv, hx2, hst2, List.length_set, hpt, hc3, hk, hc4, hz, h, List.map_set, List.set_set, b0]
        refine callX_fn 3 (tsoOwn s hml htl hrl) (by simp only [go_sem]) (by simp only [go_sem]) ?_
        simp (config := { decide := true }) only [go_sem, Int.reduceToNat, Nat.reduceAdd, Nat.reduceSub, Nat.reduceMul, Nat.reduceBEq, reduceIte, reduceCtorEq, hx, hc2, hm', hlv, hx2, hst2, List.length_set, hpt, hc3, hk, hc4, hz, h, List.map_set, List.set_set, b0]
        refine GQ.done ?_
        simp (config := { decide := true }) only [go_sem, Int.reduceToNat, Nat.reduceAdd, Nat.reduceSub, Nat.reduceMul, Nat.reduceBEq, reduceIte, reduceCtorEq, hx, hc2, hm', hlv, hx2, hst2, List.length_set, hpt, hc3, hk, hc4, hz, h, List.map_set, List.set_set, b0]
      · rw [if_neg (fun h' => by have := h'.2; omega)]
        rw [if_neg (by omega), if_neg (by omega), if_neg (by omega)]
        simp (config := { decide := true }) only [go_sem, Int.reduceToNat, Nat.reduceAdd, Nat.reduceSub, Nat.reduceMul, Nat.reduceBEq, reduceIte, reduceCtorEq, hx, hc2, hm', hlv, hx2, hst2, List.length_set, hpt, hc3, hk, hc4, hz, h, List.map_set, List.set_set, b0]
        refine HW.mixed 100 10 (6, 0) [9] follows (by kernel_rfl) (by decide) ?_
        simp (config := { decide := true }) only [go_sem, Int.reduceToNat, Nat.reduceAdd, Nat.reduceSub, Nat.reduceMul, Nat.reduceBEq, reduceIte, reduceCtorEq, hx, hc2, hm', hlv, hx2, hst2, List.length_set, hpt, hc3, hk, hc4, hz, h, List.map_set, List.set_set, b0]
        refine GQ.done ?_
        simp (config := { decide := true }) only [go_sem, Int.reduceToNat, Nat.reduceAdd, Nat.reduceSub, Nat.reduceMul, Nat.reduceBEq, reduceIte, reduceCtorEq, hx, hc2, hm', hlv, hx2, hst2, List.length_set, hpt, hc3, hk, hc4, hz, h, List.map_set, List.set_set, b0]
      · rw [if_neg (fun h' => by have := h'.2; omega)]
        rw [if_neg (by omega), if_neg (by omega), if_neg (by omega)]
        simp (config := { decide := true }) only [go_sem, Int.reduceToNat, Nat.reduceAdd, Nat.reduceSub, Nat.reduceMul, Nat.reduceBEq, reduceIte, reduceCtorEq, hx, hc2, hm', hlv, hx2, hst2, List.length_set, hpt, hc3, hk, hc4, hz, h, List.map_set, List.set_set, b0]
        refine HW.mixed 100 10 (6, 0) [9] follows (by kernel_rfl) (by decide) ?_
        simp (config := { decide := true }) only [go_sem, Int.reduceToNat, Nat.reduceAdd, Nat.reduceSub, Nat.reduceMul, Nat.reduceBEq, reduceIte, reduceCtorEq, hx, hc2, hm', hlv, hx2, hst2, List.length_set, hpt, hc3, hk, hc4, hz, h, List.map_set, List.set_set, b0]
        refine GQ.done ?_
        simp (config := { decide := true }) only [go_sem, Int.reduceToNat, Nat.reduceAdd, Nat.reduceSub, Nat.reduceMul, Nat.reduceBEq, reduceIte, reduceCtorEq, hx, hc2, hm', hlv, hx2, hst2, List.length_set, hpt, hc3, hk, hc4, hz, h, List.map_set, List.set_set, b0]
      · rw [if_neg (fun h' => by have := h'.2; omega)]
        rw [if_neg (by omega), if_neg (by omega), if_neg (by omega)]
        simp (config := { decide := true }) only [go_sem, Int.reduceToNat, Nat.reduceAdd, Nat.reduceSub, Nat.reduceMul, Nat.reduceBEq, reduceIte, reduceCtorEq, hx, hc2, hm', hlv, hx2, hst2, List.length_set, hpt, hc3, hk, hc4, hz, h, List.map_set, List.set_set, b0]
        refine HW.mixed 100 10 (6, 0) [9] follows (by kernel_rfl) (by decide) ?_
        simp (config := { decide := true }) only [go_sem, Int.reduceToNat, Nat.reduceAdd, Nat.reduceSub, Nat.reduceMul, Nat.reduceBEq, reduceIte, reduceCtorEq, hx, hc2, hm', hlv, hx2, hst2, List.length_set, hpt, hc3, hk, hc4, hz, h, List.map_set, List.set_set, b0]
        refine GQ.done ?_
        simp (config := { decide := true }) only [go_sem, Int.reduceToNat, Nat.reduceAdd, Nat.reduceSub, Nat.reduceMul, Nat.reduceBEq, reduceIte, reduceCtorEq, hx, hc2, hm', hlv, hx2, hst2, List.length_set, hpt, hc3, hk, hc4, hz, h, List.map_set, List.set_set, b0]
      · rw [if_neg (fun h' => by have := h'.2; omega)]
        rw [if_neg (by omega), if_neg (by omega), if_neg (by omega)]
        simp (config := { decide := true }) only [go_sem, Int.reduceToNat, Nat.reduceAdd, Nat.reduceSub, Nat.reduceMul, Nat.reduceBEq, reduceIte, reduceCtorEq, hx, hc2, hm', hlv, hx2, hst2, List.length_set, hpt, hc3, hk, hc4, hz, h, List.map_set, List.set_set, b0]
        refine HW.mixed 100 10 (6, 0) [9] follows (by kernel_rfl) (by decide) ?_
        simp (config := { decide := true }) only [go_sem, Int.reduceToNat, Nat.reduceAdd, Nat.reduceSub, Nat.reduceMul, Nat.reduceBEq, reduceIte, reduceCtorEq, hx, hc2, hm', hlv, hx2, hst2, List.length_set, hpt, hc3, hk, hc4, hz, h, List.map_set, List.set_set, b0]
        refine GQ.done ?_
        simp (config := { decide := true }) only [go_sem, Int.reduceToNat, Nat.reduceAdd, Nat.reduceSub, Nat.reduceMul, Nat.reduceBEq, reduceIte, reduceCtorEq, hx, hc2, hm', hlv, hx2, hst2, List.length_set, hpt, hc3, hk, hc4, hz, h, List.map_set, List.set_set, b0]
end Go.Proofs.Yteieinhgdjjdoaa
namespace Go.Proofs.Yteieinhgdjjdoaa
open Go.RowKit
set_option maxRecDepth 8000
set_option maxHeartbeats 4000000 in
theorem tsoStep (p : Prg) (s : Sta) (k : Pck) (hp : RightP p) (hs : RightS p s) (hb : ∀ t ∈ s.ths, t.buf.length ≤ 100000) : HFn Try.prog 52 [prgH p, staH s, pckH k] (.tu [staO (stepW p s k).1, .v (.bool (stepW p s k).2)]) := by
  refine HCalls_bodyC (fn := Try.f52) 38 [.cell 6 38, .tmp 7] (by kernel_rfl) rfl rfl (by kernel_rfl) (HW.weaken (Q' := fun e => GQ _ _ (endC _ _ _ _ e)) (HW.run 400 (by kernel_rfl) ?_) (fun _ _ _ h => h))
  obtain ⟨th, dr⟩ := k
  have hml : s.mem.length ≤ 100000 := by have := hs.mem; have := hp.init; omega
  have htl : s.ths.length ≤ 1000 := by have := hs.ths; have := hp.thr; omega
  have hrl : ∀ t ∈ s.ths, t.regs.length ≤ 100000 ∧ t.buf.length ≤ 100000 := fun t ht => by
    obtain ⟨i, hi⟩ := List.getElem?_of_mem ht
    have hlt := (List.getElem?_eq_some_iff.1 hi).1
    have := (hs.t i _ t (List.getElem?_eq_getElem (show i < p.thr.length by rw [← hs.ths]; exact hlt)) hi).regs
    exact ⟨by omega, hb t ht⟩
  by_cases c1 : 0 ≤ th
  case neg =>
    have c1' : (th < 0) = True := by simp only [eq_iff_iff, iff_true]; omega
    have e : stepW p s ⟨th, dr⟩ = (s, false) := if_pos (fun h => c1 h.1)
    rw [e]
    simp (config := { decide := true }) only [go_sem, Int.reduceToNat, Nat.reduceAdd, Nat.reduceSub, Nat.reduceMul, Nat.reduceBEq, reduceIte, reduceCtorEq, c1']
    refine callX_fn 3 (tsoOwn s hml htl hrl) (by simp only [go_sem]) (by simp only [go_sem]) ?_
    simp (config := { decide := true }) only [go_sem, Int.reduceToNat, Nat.reduceAdd, Nat.reduceSub, Nat.reduceMul, Nat.reduceBEq, reduceIte, reduceCtorEq, c1']
    refine GQ.done ?_
    simp (config := { decide := true }) only [go_sem, Int.reduceToNat, Nat.reduceAdd, Nat.reduceSub, Nat.reduceMul, Nat.reduceBEq, reduceIte, reduceCtorEq]
  have c1' : (th < 0) = False := by simp only [eq_iff_iff, iff_false]; omega
  by_cases c2 : th < s.ths.length
  case neg =>
    have c2' : ((s.ths.length : Int) ≤ th) = True := by simp only [eq_iff_iff, iff_true]; omega
    have e : stepW p s ⟨th, dr⟩ = (s, false) := if_pos (fun h => c2 h.2)
    rw [e]
    simp (config := { decide := true }) only [go_sem, Int.reduceToNat, Nat.reduceAdd, Nat.reduceSub, Nat.reduceMul, Nat.reduceBEq, reduceIte, reduceCtorEq, c1', c2']
    refine callX_fn 3 (tsoOwn s hml htl hrl) (by simp only [go_sem]) (by simp only [go_sem]) ?_
    simp (config := { decide := true }) only [go_sem, Int.reduceToNat, Nat.reduceAdd, Nat.reduceSub, Nat.reduceMul, Nat.reduceBEq, reduceIte, reduceCtorEq, c1', c2']
    refine GQ.done ?_
    simp (config := { decide := true }) only [go_sem, Int.reduceToNat, Nat.reduceAdd, Nat.reduceSub, Nat.reduceMul, Nat.reduceBEq, reduceIte, reduceCtorEq]
  have c2' : ((s.ths.length : Int) ≤ th) = False := by simp only [eq_iff_iff, iff_false]; omega
  obtain ⟨t, rfl⟩ : ∃ t : Nat, th = t := ⟨th.toNat, by omega⟩
  have ht : t < s.ths.length := by omega
  have hx : s.ths[t]? = some s.ths[t] := List.getElem?_eq_getElem ht
  have htA : thAt s (t : Int) = s.ths[t] := by unfold thAt; rw [Int.toNat_natCast, hx]; rfl
  cases dr with
  | true =>
    have e : stepW p s ⟨t, true⟩ = if (drainB (s.ths[t]).buf s.mem).2.2 = true then (setTh s t (drainB (s.ths[t]).buf s.mem).2.1 { s.ths[t] with buf := (drainB (s.ths[t]).buf s.mem).1 }, true) else (s, false) := by
      unfold stepW
      rw [if_neg (fun h => h ⟨c1, c2⟩), if_pos rfl, htA]
    rw [e]
    have hD := tsoDrain s t _ hx hml htl hrl
    generalize s.ths[t] = y at hx hD ⊢
    simp (config := { decide := true }) only [go_sem, Int.reduceToNat, Nat.reduceAdd, Nat.reduceSub, Nat.reduceMul, Nat.reduceBEq, reduceIte, reduceCtorEq, c1', c2']
    cases hd : (drainB y.buf s.mem).2.2 with
    | true =>
      rw [hd, if_pos rfl] at hD
      refine callX_fn 3 (hD) (by simp only [go_sem]) (by simp only [go_sem]) ?_
      rw [if_pos rfl]
      simp (config := { decide := true }) only [go_sem, Int.reduceToNat, Nat.reduceAdd, Nat.reduceSub, Nat.reduceMul, Nat.reduceBEq, reduceIte, reduceCtorEq, c1', c2']
      refine GQ.done ?_
      simp (config := { decide := true }) only [go_sem, Int.reduceToNat, Nat.reduceAdd, Nat.reduceSub, Nat.reduceMul, Nat.reduceBEq, reduceIte, reduceCtorEq]
    | false =>
      rw [hd, if_neg (by simp)] at hD
      refine callX_fn 3 (hD) (by simp only [go_sem]) (by simp only [go_sem]) ?_
      rw [if_neg (by simp)]
      simp (config := { decide := true }) only [go_sem, Int.reduceToNat, Nat.reduceAdd, Nat.reduceSub, Nat.reduceMul, Nat.reduceBEq, reduceIte, reduceCtorEq, c1', c2']
      refine GQ.done ?_
      simp (config := { decide := true }) only [go_sem, Int.reduceToNat, Nat.reduceAdd, Nat.reduceSub, Nat.reduceMul, Nat.reduceBEq, reduceIte, reduceCtorEq]
  | false =>
    simp (config := { decide := true }) only [go_sem, Int.reduceToNat, Nat.reduceAdd, Nat.reduceSub, Nat.reduceMul, Nat.reduceBEq, reduceIte, reduceCtorEq, c1', c2']
    refine callX_fn 3 (tsoTake p s t _ hx hp hs hb) (by simp only [go_sem]) (by simp only [go_sem]) ?_
    simp (config := { decide := true }) only [go_sem, Int.reduceToNat, Nat.reduceAdd, Nat.reduceSub, Nat.reduceMul, Nat.reduceBEq, reduceIte, reduceCtorEq, c1', c2']
    refine GQ.done ?_
    simp (config := { decide := true }) only [go_sem, Int.reduceToNat, Nat.reduceAdd, Nat.reduceSub, Nat.reduceMul, Nat.reduceBEq, reduceIte, reduceCtorEq]
end Go.Proofs.Yteieinhgdjjdoaa
namespace Go.Proofs.Yteieinhgdjjdoaa
open Go.RowKit
set_option maxRecDepth 8000
abbrev doneH (k : Pck) (t : Thd) : HV := .ag [.v (.int .i64 k.th), .v (.bool k.dr), .v (.int .i64 t.pc), .v (.bool (decide ((0 : Int) < (t.buf.length : Int))))]
abbrev badH : HV := .ag [.v (.int .i64 (-1)), .v (.bool false), .v (.int .i64 0), .v (.bool false)]
def alongX (p : Prg) : Sta → List Pck → List (List HV)
  | _, [] => []
  | s, k :: l => if (stepW p s k).2 = true then [doneH k (thAt s k.th)] :: alongX p (stepW p s k).1 l else [[badH]]
theorem alongX_cons (p : Prg) (s : Sta) (k : Pck) (l : List Pck) : alongX p s (k :: l) = if (stepW p s k).2 = true then [doneH k (thAt s k.th)] :: alongX p (stepW p s k).1 l else [[badH]] := rfl
theorem tsoStepH (p : Prg) (s : Sta) (k : Pck) (hp : RightP p) (hs : RightS p s) (hb : ∀ t ∈ s.ths, t.buf.length ≤ 100000) : HFn Try.prog 52 [prgH p, staH s, pckH k] (.tu [staH (stepW p s k).1, .v (.bool (stepW p s k).2)]) :=
  (tsoStep p s k hp hs hb).shut (by simp only [fzo, fzoL, ints_fzoR, thdsO_fzoR])
theorem stepW_th {p : Prg} {s : Sta} {k : Pck} (h : (stepW p s k).2 = true) : 0 ≤ k.th ∧ k.th < s.ths.length := by
  unfold stepW at h
  split at h
  · cases h
  · rename_i hc; exact Decidable.not_not.1 hc
theorem crossAlong (p : Prg) (l : List Pck) : HFn Try.prog 31 [prgH p, .sl (pcks l)] (.fn 50 [.bx 25 2 [.sl (ints p.init), .sl (thrs p.thr)], .bx 26 1 [.sl (pcks l)]]) := by
  refine HCalls_body (fn := Try.f31) 6 [4] (by kernel_rfl) rfl (by kernel_rfl) (HW.run 400 (by kernel_rfl) ?_)
  simp (config := { decide := true }) only [go_sem, Int.reduceToNat, Nat.reduceAdd, Nat.reduceSub, Nat.reduceMul, Nat.reduceBEq, reduceIte, reduceCtorEq]
def AlongI (p : Prg) (l : List Pck) (m id : Nat) (J : Nat → Heap → Prop) (k : Nat) (T : Nat → HV) (H : Heap) : Prop := ∃ i Hq pre s, k = l.length - i ∧ i ≤ l.length ∧ J i Hq ∧ Hq.length = m ∧
  alongX p (beginS p) l = pre ++ alongX p s (l.drop i) ∧ pre.length = i ∧ RightS p s ∧ Few s i ∧
  T 0 = .yl id ∧ T 1 = .pt m 1 0 0 ∧ T 2 = .pt (m + 1) 1 0 0 ∧ T 4 = .pt (m + 2) 1 0 0 ∧ T 12 = .sl (pcks l) ∧ T 13 = .v (.int .i64 l.length) ∧ T 14 = .v (.int .i64 i) ∧
  H = Hq ++ [some ⟨25, 2, [[.sl (ints p.init), .sl (thrs p.thr)]]⟩, some ⟨26, 1, [[.sl (pcks l)]]⟩, some ⟨38, 2, [[.sl (ints s.mem), .sl (thds s.ths)]]⟩]
set_option maxHeartbeats 8000000 in
theorem along1 (p : Prg) (l : List Pck) (hp : RightP p) (hl : l.length ≤ 10000) (Hc : Heap) (n n' : Nat) (hne : n ≠ n') (hn : Hc[n]? = some (some ⟨25, 2, [[.sl (ints p.init), .sl (thrs p.thr)]]⟩)) (hn' : Hc[n']? = some (some ⟨26, 1, [[.sl (pcks l)]]⟩)) :
    HSeq Try.prog 50 Hc [.pt n 1 0 0, .pt n' 1 0 0] ((Hc.set n none).set n' none) (alongX p (beginS p) l) := by
  intro id J K hid hJ hK hY h0
  have hsm := hp.small
  have hlt' : n' < Hc.length := (List.getElem?_eq_some_iff.1 hn').1
  refine HCalls_body (fn := Try.f50) 50 [] rfl rfl (by kernel_rfl) (HW.ghost ((Ghost.move 1 n 1 0 0 _ rfl hn).trans (Ghost.move 2 n' 1 0 0 ⟨26, 1, [[.sl (pcks l)]]⟩ rfl (by
    rw [List.getElem?_append_left (by rw [List.length_set]; exact hlt'), List.getElem?_set_ne hne]; exact hn'))) (HW.run 60 (by kernel_rfl) ?_))
  have hset : ∀ B : Heap, (Hc.set n none ++ B).set n' none = (Hc.set n none).set n' none ++ B := fun B => by
    rw [List.set_append_left _ _ (by rw [List.length_set]; exact hlt')]
  rw [hset]
  have hl0 : ((Hc.set n none).set n' none).length = Hc.length := by simp
  generalize (Hc.set n none).set n' none = A at h0 hl0 ⊢
  have hlA : (Hc.set n none ++ [some (⟨25, 2, [[.sl (ints p.init), .sl (thrs p.thr)]]⟩ : HObj)]).length = Hc.length + 1 := by simp
  have g0 : ∀ B : Heap, getO (A ++ B) Hc.length = getO B 0 := fun B => getO_behind0 hl0
  have g1 : ∀ (j : Nat) (B : Heap), getO (A ++ B) (Hc.length + j) = getO B j := fun j B => getO_behind hl0
  have g2 : ∀ (j : Nat) (B : Heap) x, (A ++ B).set (Hc.length + j) x = A ++ B.set j x := fun j B x => set_behind hl0
  simp (config := { decide := true }) only [go_sem, Int.reduceToNat, Nat.reduceAdd, Nat.reduceSub, Nat.reduceMul, Nat.reduceBEq, reduceIte, reduceCtorEq, g0, g1, g2, hl0, List.append_assoc, hlA, List.length_set, List.length_append]
  refine callX_nm (scBegin p (by have := hsm.thr; omega) (by have := hp.init; omega)) rfl rfl ?_
  simp (config := { decide := true }) only [go_sem, Int.reduceToNat, Nat.reduceAdd, Nat.reduceSub, Nat.reduceMul, Nat.reduceBEq, reduceIte, reduceCtorEq, g0, g1, g2, hl0, List.append_assoc, hlA, List.length_set, List.length_append]
  refine HW.loopG (AlongI p l Hc.length id J) l.length ⟨_, _, Ghost.refl, 0, A, [], beginS p, rfl, by omega, h0, hl0, rfl, rfl, begin_right, ?_, ?_, ?_, ?_, ?_, ?_, ?_, ?_, rfl⟩ ?_
  · intro t ht
    simp only [beginS, List.mem_map] at ht
    obtain ⟨_, _, rfl⟩ := ht
    simp
  iterate 6 simp (config := { decide := true }) only [go_sem, Nat.reduceBEq, reduceIte, hl0]
  · simp (config := { decide := true }) only [go_sem, Nat.reduceBEq, reduceIte]; rfl
  rintro k T H ⟨i, Hq, pre, s, rfl, hi, hJi, hlen, hX, hpre, hs, hf, h0, h1, h2, h4, h12, h13, h14, rfl⟩
  refine HW.run 200 (by kernel_rfl) ?_
  have g0 : ∀ B : Heap, getO (Hq ++ B) Hc.length = getO B 0 := fun B => getO_behind0 hlen
  have g1 : ∀ (j : Nat) (B : Heap), getO (Hq ++ B) (Hc.length + j) = getO B j := fun j B => getO_behind hlen
  have g2 : ∀ (j : Nat) (B : Heap) x, (Hq ++ B).set (Hc.length + j) x = Hq ++ B.set j x := fun j B x => set_behind hlen
  by_cases hlt : i < l.length
  · have hlt' : ((i : Int) < (l.length : Int)) = True := by rw [int_lt]; simp [hlt]
    have hx : l[i]? = some l[i] := List.getElem?_eq_getElem hlt
    have hd : l.drop i = l[i] :: l.drop (i + 1) := List.drop_eq_getElem_cons hlt
    generalize l[i] = q at hx hd
    simp (config := { decide := true }) only [go_sem, Int.reduceToNat, Nat.reduceAdd, Nat.reduceSub, Nat.reduceMul, Nat.reduceBEq, reduceIte, reduceCtorEq, h0, h1, h2, h4, h12, h13, h14, g0, g1, g2, hlen, hlt', hx, List.append_assoc, List.length_append]
    refine callX_nm (tsoStepH p s q hp hs (fun t ht => by have := hf t ht; omega)) rfl rfl ?_
    rw [hd, alongX_cons] at hX
    cases hw : (stepW p s q).2 with
    | false =>
      rw [hw, if_neg (by simp)] at hX
      have hXi : (alongX p (beginS p) l)[i]? = some [badH] := by rw [hX, List.getElem?_append_right (by omega), hpre, Nat.sub_self]; rfl
      have hXl : (alongX p (beginS p) l).length = i + 1 := by rw [hX, List.length_append, hpre]; rfl
      simp (config := { decide := true }) only [go_sem, Int.reduceToNat, Nat.reduceAdd, Nat.reduceSub, Nat.reduceMul, Nat.reduceBEq, reduceIte, reduceCtorEq, h0, h1, h2, h4, h12, h13, h14, g0, g1, g2, hlen, hw, List.append_assoc, List.length_append]
      refine yieldX_at hlen hid (hJ _ _ hJi).2 rfl (hY _ _ Hq hXi hJi) ?_
      intro c Hq' hc' hlen'
      simp (config := { decide := true }) only [go_sem, Int.reduceToNat, Nat.reduceAdd, Nat.reduceSub, Nat.reduceMul, Nat.reduceBEq, reduceIte, reduceCtorEq]
      refine endP_behind hlen' ?_ ?_
      · cases c with
        | true => exact (hJ _ _ hc').2
        | false => exact hK _ _ hc'
      · cases c with
        | true => rw [hXl]; exact .inl hc'
        | false => exact .inr ⟨_, hc'⟩
    | true =>
      rw [hw, if_pos rfl] at hX
      obtain ⟨c1, c2⟩ := stepW_th hw
      have hXi : (alongX p (beginS p) l)[i]? = some [doneH q (thAt s q.th)] := by rw [hX, List.getElem?_append_right (by omega), hpre, Nat.sub_self]; rfl
      have hT : s.ths[q.th.toNat]? = some (thAt s q.th) := thAt_get ⟨c1, c2⟩
      have c1' : (0 ≤ q.th) = True := by simp [c1]
      have c2' : (q.th < (s.ths.length : Int)) = True := by simp [c2]
      generalize thAt s q.th = y at hXi hT hX
      simp (config := { decide := true }) only [go_sem, Int.reduceToNat, Nat.reduceAdd, Nat.reduceSub, Nat.reduceMul, Nat.reduceBEq, reduceIte, reduceCtorEq, h0, h1, h2, h4, h12, h13, h14, g0, g1, g2, hlen, hw, List.append_assoc, List.length_append, hT, c1', c2']
      refine yieldX_at hlen hid (hJ _ _ hJi).2 rfl (hY _ _ Hq hXi hJi) ?_
      intro c Hq' hc' hlen'
      have g0 : ∀ B : Heap, getO (Hq' ++ B) Hc.length = getO B 0 := fun B => getO_behind0 hlen'
      have g1 : ∀ (j : Nat) (B : Heap), getO (Hq' ++ B) (Hc.length + j) = getO B j := fun j B => getO_behind hlen'
      have g2 : ∀ (j : Nat) (B : Heap) x, (Hq' ++ B).set (Hc.length + j) x = Hq' ++ B.set j x := fun j B x => set_behind hlen'
      cases c with
      | true =>
        simp only [if_true] at hc'
        simp (config := { decide := true }) only [go_sem, Int.reduceToNat, Nat.reduceAdd, Nat.reduceSub, Nat.reduceMul, Nat.reduceBEq, reduceIte, reduceCtorEq, h0, h1, h2, h4, h12, h13, h14, g0, g1, g2, hlen', List.append_assoc, List.length_append]
        have t1 : ∀ B : Heap, (Hq' ++ B).take (Hc.length + 3) = Hq' ++ B.take 3 := fun B => take_behind3 hlen'
        refine ⟨_, _, Ghost.trunc [0, 1, 2, 4, 12, 13, 14] (Hc.length + 3) (by omega) ?_ (nmH_behind hlen' (hJ _ _ hc').2 ?_), l.length - (i + 1), by omega, i + 1, Hq', pre ++ [[doneH q y]], (stepW p s q).1, rfl, by omega, hc', hlen', ?_, ?_, stepW_right hp hs, stepW_few hf, ?_, ?_, ?_, ?_, ?_, ?_, ?_, ?_⟩
        · simp (config := { decide := true }) only [go_sem, Nat.reduceBEq, reduceIte, h0, h1, h2, h4, h12, h13, List.all_cons, List.all_nil]
          simp [nm]; omega
        · simp (config := { decide := true }) only [go_sem, Nat.reduceBEq, reduceIte, List.set_cons_succ, List.set_cons_zero, List.take_succ_cons, List.take_zero, List.all_cons, List.all_nil]
        · rw [hX, List.append_assoc]; rfl
        · simp [hpre]
        iterate 6 simp (config := { decide := true }) only [go_sem, Nat.reduceBEq, reduceIte, h0, h1, h2, h4, h12, h13]
        · simp (config := { decide := true }) only [go_sem, Nat.reduceBEq, reduceIte]; rw [w64 (by omega) (by omega)]; rfl
        · rw [t1]; rfl
      | false =>
        simp only [Bool.false_eq_true, if_false] at hc'
        simp (config := { decide := true }) only [go_sem, Int.reduceToNat, Nat.reduceAdd, Nat.reduceSub, Nat.reduceMul, Nat.reduceBEq, reduceIte, reduceCtorEq, h0, h1, h2, h4, h12, h13, h14, g0, g1, g2, hlen']
        exact endP_behind hlen' (hK _ _ hc') (.inr ⟨_, hc'⟩)
  · have hlt' : ((i : Int) < (l.length : Int)) = False := by rw [int_lt]; simp [hlt]
    have e : i = (alongX p (beginS p) l).length := by
      rw [hX, List.drop_eq_nil_of_le (by omega), List.length_append, hpre]; rfl
    simp (config := { decide := true }) only [go_sem, Int.reduceToNat, Nat.reduceAdd, Nat.reduceSub, Nat.reduceMul, Nat.reduceBEq, reduceIte, reduceCtorEq, h0, h1, h2, h4, h12, h13, h14, g0, hlt']
    exact endP_behind hlen (hJ _ _ hJi).2 (.inl (e ▸ hJi))
end Go.Proofs.Yteieinhgdjjdoaa
namespace Go.Proofs.Yteieinhgdjjdoaa
open Go.RowKit
set_option maxRecDepth 8000
theorem slotsF_at : ∀ (thr : List (List Stp)) (t0 k : Nat) (w : Nat × Nat), (slotsF t0 thr)[k]? = some w → ∃ t l, thr[t]? = some l ∧ w.1 = t0 + t ∧ w.2 < l.length ∧ k = startB thr t + w.2
  | [], _, k, w, h => by simp [slotsF] at h
  | x :: r, t0, k, w, h => by
    unfold slotsF at h
    rcases Nat.lt_or_ge k x.length with hk | hk
    · rw [List.getElem?_append_left (by simpa using hk), List.getElem?_map, List.getElem?_range hk] at h
      simp only [Option.map_some, Option.some.injEq] at h
      subst h
      exact ⟨0, x, rfl, rfl, hk, by simp [startB]⟩
    · rw [List.getElem?_append_right (by simpa using hk), List.length_map, List.length_range] at h
      obtain ⟨t, l, h1, h2, h3, h4⟩ := slotsF_at r (t0 + 1) (k - x.length) w h
      exact ⟨t + 1, l, by simpa using h1, by omega, h3, by rw [startB_cons]; omega⟩
theorem slotX_at {thr : List (List Stp)} {j : Nat} {x : List HV} (h : (slotX thr)[j]? = some x) : ∃ t a l, thr[t]? = some l ∧ a < l.length ∧ j = startB thr t + a ∧ (slotsF 0 thr)[j]? = some (t, a) ∧ x = [.v (.int .i64 (j : Int)), .ag [.v (.int .i64 (t : Int)), .v (.int .i64 (a : Int))]] := by
  unfold slotX at h
  rw [List.getElem?_map, List.getElem?_zipIdx] at h
  cases hw : (slotsF 0 thr)[j]? with
  | none => rw [hw] at h; cases h
  | some w =>
    rw [hw] at h
    simp only [Option.map_some, Option.some.injEq, Nat.zero_add] at h
    obtain ⟨t, l, h1, h2, h3, h4⟩ := slotsF_at thr 0 j w hw
    obtain ⟨w1, w2⟩ := w
    simp only [Nat.zero_add] at h2 h3 h4 h
    subst h2
    exact ⟨w1, w2, l, h1, h3, h4, rfl, h.symm⟩
set_option maxHeartbeats 8000000 in
theorem slotsNum (p : Prg) (th at_ : Int) (hp : SmallP p) : HFn Try.prog 32 [prgH p, .v (.int .i64 th), .v (.int .i64 at_)] (.v (.int .i64 (numS p th at_))) := by
  refine HCalls_bodyC (fn := Try.f32) 19 [.cell 6 3] (by kernel_rfl) rfl rfl (by kernel_rfl) (HW.run 400 (by kernel_rfl) ?_)
  simp (config := { decide := true }) only [go_sem, Int.reduceToNat, Nat.reduceAdd, Nat.reduceSub, Nat.reduceMul, Nat.reduceBEq, reduceIte, reduceCtorEq]
  refine callX_nm (slotsAll p) rfl rfl ?_
  simp (config := { decide := true }) only [go_sem, Int.reduceToNat, Nat.reduceAdd, Nat.reduceSub, Nat.reduceMul, Nat.reduceBEq, reduceIte, reduceCtorEq]
  refine HW.rangeFunc rfl (by decide) rfl (slotX p.thr) [some ⟨25, 2, [[.sl (ints p.init), .sl (thrs p.thr)]]⟩, some ⟨3, 1, [[.v (.int .i64 th)]]⟩, some ⟨3, 1, [[.v (.int .i64 at_)]]⟩, some ⟨3, 1, [[.v (.int .i64 0)]]⟩, none]
    (fun j Hi => Hi = [some ⟨25, 2, [[.sl (ints p.init), .sl (thrs p.thr)]]⟩, some ⟨3, 1, [[.v (.int .i64 th)]]⟩, some ⟨3, 1, [[.v (.int .i64 at_)]]⟩, some ⟨3, 1, [[.v (.int .i64 0)]]⟩, none] ∧ ∀ k, k < j → ∀ w, (slotsF 0 p.thr)[k]? = some w → ¬ ((w.1 : Int) = th ∧ (w.2 : Int) = at_))
    (fun c Hi => c = .ret ∧ Hi = [some ⟨25, 2, [[.sl (ints p.init), .sl (thrs p.thr)]]⟩, some ⟨3, 1, [[.v (.int .i64 th)]]⟩, some ⟨3, 1, [[.v (.int .i64 at_)]]⟩, some ⟨3, 1, [[.v (.int .i64 (numS p th at_))]]⟩, none])
    (SubH.spec (And.intro rfl (And.intro rfl (And.intro rfl (And.intro rfl trivial))))) ?_ (fun o => slotsAll1 p hp _ 4 rfl) ⟨rfl, by simp⟩ ?_ ?_ ?_
  · intro x hx
    obtain ⟨j, hj⟩ := List.mem_iff_getElem?.1 hx
    obtain ⟨t, a, l, _, _, _, _, rfl⟩ := slotX_at hj
    exact ⟨rfl, rfl⟩
  · rintro j x Hi hx - ⟨rfl, hno⟩
    obtain ⟨t, a, l, e1, e2, e3, e4, rfl⟩ := slotX_at hx
    refine HW.run 60 (by kernel_rfl) ?_
    simp (config := { decide := true }) only [go_sem, Int.reduceToNat, Nat.reduceAdd, Nat.reduceSub, Nat.reduceMul, Nat.reduceBEq, reduceIte, reduceCtorEq]
    refine HW.run 60 (by kernel_rfl) ?_
    by_cases hc : (t : Int) = th ∧ (a : Int) = at_
    · obtain ⟨rfl, rfl⟩ := hc
      have hl : numS p t a = (j : Int) := by
        unfold numS
        rw [Int.toNat_natCast, e1, Option.getD_some, if_pos ⟨by omega, by have := (List.getElem?_eq_some_iff.1 e1).1; omega, by omega, by omega⟩, e3]
        omega
      simp (config := { decide := true }) only [go_sem, Int.reduceToNat, Nat.reduceAdd, Nat.reduceSub, Nat.reduceMul, Nat.reduceBEq, reduceIte, reduceCtorEq]
      exact ⟨_, _, Ghost.trunc [] 5 (by omega) rfl rfl, rfl, by rw [hl]; rfl⟩
    · have hc' : ((t : Int) = th → (a : Int) = at_ → False) = True := by simp only [eq_iff_iff, iff_true]; exact fun h1 h2 => hc ⟨h1, h2⟩
      simp (config := { decide := true }) only [go_sem, Int.reduceToNat, Nat.reduceAdd, Nat.reduceSub, Nat.reduceMul, Nat.reduceBEq, reduceIte, reduceCtorEq]
      refine ⟨fun hh => ?_, fun _ => ⟨_, _, Ghost.trunc [] 5 (by omega) rfl rfl, rfl, rfl, fun k hk w hw => ?_⟩⟩
      · rw [Bool.and_eq_true, decide_eq_true_eq, decide_eq_true_eq] at hh
        exact absurd hh hc
      · rcases Nat.lt_or_ge k j with h | h
        · exact hno k h w hw
        · obtain rfl : k = j := by omega
          rw [e4] at hw; cases hw; exact hc
  · rintro Hf - ⟨rfl, hno⟩
    have hl : numS p th at_ = -1 := by
      unfold numS
      rw [if_neg]
      rintro ⟨h1, h2, h3, h4⟩
      have e1 : p.thr[th.toNat]? = some (p.thr[th.toNat]'(by omega)) := List.getElem?_eq_getElem (by omega)
      rw [e1, Option.getD_some] at h4
      have e2 := slotsF_get p.thr 0 th.toNat at_.toNat _ e1 (by omega)
      have hlt := (List.getElem?_eq_some_iff.1 e2).1
      rw [slotsF_length, ← slotX_length] at hlt
      refine hno _ hlt _ e2 ⟨?_, ?_⟩
      · simp only [Nat.zero_add]; omega
      · show ((at_.toNat : Nat) : Int) = at_; omega
    simp (config := { decide := true }) only [go_sem, Int.reduceToNat, Nat.reduceAdd, Nat.reduceSub, Nat.reduceMul, Nat.reduceBEq, reduceIte, reduceCtorEq, hl]
  · rintro c Hf - ⟨rfl, rfl⟩
    unfold XQ
    simp (config := { decide := true }) only [go_sem, Int.reduceToNat, Nat.reduceAdd, Nat.reduceSub, Nat.reduceMul, Nat.reduceBEq, reduceIte, reduceCtorEq]
end Go.Proofs.Yteieinhgdjjdoaa
namespace Go.Proofs.Yteieinhgdjjdoaa
open Go.RowKit
set_option maxRecDepth 8000
theorem alongX_at {p : Prg} {s0 s : Sta} {l r : List Pck} {pre : List (List HV)} {j : Nat} {x : List HV} (h : alongX p s0 l = pre ++ alongX p s r) (hj : pre.length = j) (hx : (alongX p s0 l)[j]? = some x) :
    ∃ k r', r = k :: r' ∧ (((stepW p s k).2 = true ∧ x = [doneH k (thAt s k.th)] ∧ alongX p s0 l = (pre ++ [x]) ++ alongX p (stepW p s k).1 r') ∨ ((stepW p s k).2 = false ∧ x = [badH])) := by
  rw [h, List.getElem?_append_right (by omega), hj, Nat.sub_self] at hx
  cases r with
  | nil => simp [alongX] at hx
  | cons k r' =>
    refine ⟨k, r', rfl, ?_⟩
    rw [alongX_cons] at hx h
    cases hw : (stepW p s k).2 with
    | true =>
      rw [hw, if_pos rfl] at hx h
      simp only [List.getElem?_cons_zero, Option.some.injEq] at hx
      subst hx
      exact .inl ⟨rfl, rfl, by rw [h, List.append_assoc]; rfl⟩
    | false =>
      rw [hw, if_neg (by simp)] at hx
      simp only [List.getElem?_cons_zero, Option.some.injEq] at hx
      exact .inr ⟨rfl, hx.symm⟩
theorem alongX_end {p : Prg} {s0 s : Sta} {l r : List Pck} {pre : List (List HV)} (h : alongX p s0 l = pre ++ alongX p s r) (hj : pre.length = (alongX p s0 l).length) : r = [] := by
  rw [h, List.length_append] at hj
  cases r with
  | nil => rfl
  | cons k r' =>
    rw [alongX_cons] at hj
    split at hj <;> simp at hj
theorem along_rows {p : Prg} : ∀ {l : List Pck} {s : Sta} {x : List HV}, x ∈ alongX p s l → (∃ k t, x = [doneH k t]) ∨ x = [badH]
  | [], s, x, h => by simp [alongX] at h
  | k :: l, s, x, h => by
    rw [alongX_cons] at h
    split at h
    · rcases List.mem_cons.1 h with rfl | h
      · exact .inl ⟨_, _, rfl⟩
      · exact along_rows h
    · simp at h; exact .inr h
theorem along_len {p : Prg} : ∀ (l : List Pck) (s : Sta), (alongX p s l).length ≤ l.length
  | [], s => by simp [alongX]
  | k :: l, s => by
    have := along_len (p := p) l (stepW p s k).1
    rw [alongX_cons]
    split <;> simp <;> omega
abbrev raiH (p : Prg) (g : List Int) (a : List HV) (b : Bool) (n : Nat) (out : List Pck) : Heap :=
  [some ⟨25, 2, [[.sl (ints p.init), .sl (thrs p.thr)]]⟩, some ⟨26, 1, [a]⟩, some ⟨4, 1, [[.v (.bool b)]]⟩, some (mapI (keysB g)), some ⟨64, 1, [[.mp 3]]⟩,
   some ⟨26, 1, [[.hd 8 0 n]]⟩, none, none, some ⟨62, 2, pcks out⟩]
set_option maxHeartbeats 8000000 in
theorem crossRaise (p : Prg) (g : List Int) (l : List Pck) (hp : RightP p) (hg : g.length ≤ 10000) (hl : l.length ≤ 10000) : HFn Try.prog 15 [prgH p, .sl (ints g), .sl (pcks l)]
    (.tu [owPcks ((raiseF p g (beginS p) [] l).getD []), .v (.bool (raiseF p g (beginS p) [] l).isSome)]) := by
  refine HCalls.conv (Q := fun x _ => x = .tu [owPcks ((raiseF p g (beginS p) [] l).getD []), .v (.bool (raiseF p g (beginS p) [] l).isSome)] ∨ (raiseF p g (beginS p) [] l = none ∧ x = .tu [.v (.slice none 0 0), .v (.bool false)])) ?_ ?_
  rotate_left
  · rintro x H' (rfl | ⟨h, rfl⟩)
    · exact ⟨_, rfl, .inl rfl⟩
    · rw [h]; exact ⟨_, rfl, .inr ⟨rfl, Conv.nilTuOw _ _ _⟩⟩
  have hsm := hp.small
  refine HCalls_bodyC (fn := Try.f15) 52 [.cell 6 26, .cell 7 4] (by kernel_rfl) rfl rfl (by kernel_rfl) (HW.run 400 (by kernel_rfl) ?_)
  simp (config := { decide := true }) only [go_sem, Int.reduceToNat, Nat.reduceAdd, Nat.reduceSub, Nat.reduceMul, Nat.reduceBEq, reduceIte, reduceCtorEq]
  refine callX_nm (crossKeys g (by omega)) rfl rfl ?_
  simp (config := { decide := true }) only [go_sem, Int.reduceToNat, Nat.reduceAdd, Nat.reduceSub, Nat.reduceMul, Nat.reduceBEq, reduceIte, reduceCtorEq]
  refine callX_nm (crossAlong p l) rfl rfl ?_
  simp (config := { decide := true }) only [go_sem, Int.reduceToNat, Nat.reduceAdd, Nat.reduceSub, Nat.reduceMul, Nat.reduceBEq, reduceIte, reduceCtorEq]
  refine HW.ghost ((Ghost.cell 5 0 0 (.ow 62 2 []) rfl rfl rfl rfl (Conv.nilOw _ _) (by simp)).trans (Ghost.open 5 0 0)) ?_
  simp (config := { decide := true }) only [go_sem, Int.reduceToNat, Nat.reduceAdd, Nat.reduceSub, Nat.reduceMul, Nat.reduceBEq, reduceIte, reduceCtorEq]
  refine HW.rangeFunc rfl (by decide) rfl (alongX p (beginS p) l) (raiH p g [.v (.slice none 0 0)] false 0 [])
    (fun j Hi => ∃ pre s out r, alongX p (beginS p) l = pre ++ alongX p s r ∧ pre.length = j ∧ out.length ≤ 2 * j ∧ j ≤ l.length ∧ raiseF p g (beginS p) [] l = raiseF p g s out r ∧ Hi = raiH p g [.v (.slice none 0 0)] false out.length out)
    (fun c Hi => c = .ret ∧ raiseF p g (beginS p) [] l = none ∧ ∃ n out, Hi = raiH p g [.v (.slice none 0 0)] false n out)
    ?_ ?_ (fun o => along1 p l hp hl _ 6 7 (by omega) rfl rfl) ⟨[], beginS p, [], l, rfl, rfl, by simp, by simp, rfl, rfl⟩ ?_ ?_ ?_
  · refine ⟨rfl, fun j o hj => ?_⟩
    rcases j with _ | _ | _ | _ | _ | _ | _ | _ | _ | j <;> simp at hj ⊢ <;> exact hj
  · intro x hx
    rcases along_rows hx with ⟨k, t, rfl⟩ | rfl <;> exact ⟨rfl, rfl⟩
  · rintro j x Hi hx - ⟨pre, s, out, r, hX, hpre, hout, hjl, hR, rfl⟩
    obtain ⟨k, r', rfl, hcase⟩ := alongX_at hX hpre hx
    have hlen := along_len (p := p) l (beginS p)
    have hj1 : j + 1 ≤ l.length := by
      have := (List.getElem?_eq_some_iff.1 hx).1
      omega
    refine HW.run 60 (by kernel_rfl) ?_
    rcases hcase with ⟨hw, rfl, hX'⟩ | ⟨hw, rfl⟩
    · have hthr := (stepW_th hw).1
      have c0 : (k.th < 0) = False := by simp only [eq_iff_iff, iff_false]; omega
      have hR' : raiseF p g s out (k :: r') = (if k.dr = false ∧ hasB g (numS p k.th (thAt s k.th).pc) = true then (if (thAt s k.th).buf ≠ [] then none else raiseF p g (stepW p s k).1 (out ++ [⟨k.th, false⟩] ++ [k]) r') else raiseF p g (stepW p s k).1 (out ++ [k]) r') := by
        rw [raiseF, if_pos hw]
      rw [hR'] at hR
      generalize (stepW p s k).1 = s' at hR hX'
      generalize thAt s k.th = y at hR hX' hx
      have hbuf : (0 < (y.buf.length : Int)) = (y.buf ≠ []) := by
        cases y.buf with
        | nil => simp
        | cons a b => simp only [List.length_cons, eq_iff_iff]; constructor <;> intro <;> first | simp | omega
      simp (config := { decide := true }) only [go_sem, Int.reduceToNat, Nat.reduceAdd, Nat.reduceSub, Nat.reduceMul, Nat.reduceBEq, reduceIte, reduceCtorEq, c0]
      refine HW.run 100 (by kernel_rfl) ?_
      simp (config := { decide := true }) only [go_sem, Int.reduceToNat, Nat.reduceAdd, Nat.reduceSub, Nat.reduceMul, Nat.reduceBEq, reduceIte, reduceCtorEq, c0]
      cases hdr : k.dr with
      | true =>
        rw [if_neg (by simp [hdr])] at hR
        refine HW.tree 1 (.light 0 (.light 1 (.light 2 (.light 3 (.light 4 (.light 5 (.light 6 (.light 7 (.light 8 (.light 9 (.light 10 (.light 11 (.heavy 12 [5] (.heavy 13 [] (.light 14 (.light 15 .leaf)) .stop) .stop))))))))))))) follows (by kernel_rfl) (by kernel_rfl) ?_
        simp (config := { decide := true }) only [go_sem, Int.reduceToNat, Nat.reduceAdd, Nat.reduceSub, Nat.reduceMul, Nat.reduceBEq, reduceIte, reduceCtorEq, hdr]
        repeat (with_reducible refine And.intro ?_ ?_; · (with_reducible and_intros) <;> omega)
        refine ⟨_, _, Ghost.trunc [] 9 (by omega) rfl ?_, rfl, pre ++ [[doneH k y]], s', out ++ [k], r', hX', by simp [hpre], by simp; omega, hj1, hR, ?_⟩
        · simp (config := { decide := true }) only [go_sem, Nat.reduceBEq, reduceIte]
        · simp [← pcks_snoc, prow, hdr]
      | false =>
        refine HW.tree 1 (.light 0 (.light 1 (.light 2 (.light 3 (.light 4 (.light 5 (.light 6 (.light 7 (.light 8 (.light 9 (.light 10 (.light 11 (.heavy 12 [5] (.heavy 13 [] (.light 14 (.light 15 .leaf)) .stop) .stop))))))))))))) follows (by kernel_rfl) (by kernel_rfl) ?_
        simp (config := { decide := true }) only [go_sem, Int.reduceToNat, Nat.reduceAdd, Nat.reduceSub, Nat.reduceMul, Nat.reduceBEq, reduceIte, reduceCtorEq, hdr]
        refine callX_nm (slotsNum p k.th y.pc hsm) rfl rfl ?_
        have hpos := getM_keysB_pos g (numS p k.th y.pc)
        by_cases hin : hasB g (numS p k.th y.pc) = true
        · have hpos' : ((0 : Int) < getM (keysB g) (numS p k.th y.pc)) = True := by rw [hpos]; simpa [hasB] using hin
          rw [if_pos ⟨hdr, hin⟩] at hR
          by_cases hb : y.buf = []
          · rw [if_neg (by simp [hb])] at hR
            have hbuf' : ((0 : Int) < (y.buf.length : Int)) = False := by rw [hbuf]; simp [hb]
            simp (config := { decide := true }) only [go_sem, Int.reduceToNat, Nat.reduceAdd, Nat.reduceSub, Nat.reduceMul, Nat.reduceBEq, reduceIte, reduceCtorEq, hdr, hpos', hbuf']
            repeat (with_reducible refine And.intro ?_ ?_; · (with_reducible and_intros) <;> omega)
            refine ⟨_, _, Ghost.trunc [] 9 (by omega) rfl ?_, rfl, pre ++ [[doneH k y]], s', out ++ [⟨k.th, false⟩] ++ [k], r', hX', by simp [hpre], by simp; omega, hj1, hR, ?_⟩
            · simp (config := { decide := true }) only [go_sem, Nat.reduceBEq, reduceIte]
            · simp [pcks, prow, hdr]
          · rw [if_pos hb] at hR
            have hbuf' : ((0 : Int) < (y.buf.length : Int)) = True := by rw [hbuf]; simp [hb]
            simp (config := { decide := true }) only [go_sem, Int.reduceToNat, Nat.reduceAdd, Nat.reduceSub, Nat.reduceMul, Nat.reduceBEq, reduceIte, reduceCtorEq, hdr, hpos', hbuf']
            refine ⟨_, _, Ghost.trunc [] 9 (by omega) rfl ?_, rfl, hR, out.length, out, rfl⟩
            simp (config := { decide := true }) only [go_sem, Nat.reduceBEq, reduceIte]
        · have hpos' : ((0 : Int) < getM (keysB g) (numS p k.th y.pc)) = False := by rw [hpos]; simpa [hasB] using hin
          rw [if_neg (fun h => hin h.2)] at hR
          simp (config := { decide := true }) only [go_sem, Int.reduceToNat, Nat.reduceAdd, Nat.reduceSub, Nat.reduceMul, Nat.reduceBEq, reduceIte, reduceCtorEq, hdr, hpos']
          repeat (with_reducible refine And.intro ?_ ?_; · (with_reducible and_intros) <;> omega)
          refine ⟨_, _, Ghost.trunc [] 9 (by omega) rfl ?_, rfl, pre ++ [[doneH k y]], s', out ++ [k], r', hX', by simp [hpre], by simp; omega, hj1, hR, ?_⟩
          · simp (config := { decide := true }) only [go_sem, Nat.reduceBEq, reduceIte]
          · simp [← pcks_snoc, prow, hdr]
    · simp (config := { decide := true }) only [go_sem, Int.reduceToNat, Nat.reduceAdd, Nat.reduceSub, Nat.reduceMul, Nat.reduceBEq, reduceIte, reduceCtorEq]
      refine HW.run 100 (by kernel_rfl) ?_
      simp (config := { decide := true }) only [go_sem, Int.reduceToNat, Nat.reduceAdd, Nat.reduceSub, Nat.reduceMul, Nat.reduceBEq, reduceIte, reduceCtorEq]
      have hR' : raiseF p g (beginS p) [] l = none := by rw [hR, raiseF, if_neg (by simp [hw])]
      refine ⟨_, _, Ghost.trunc [] 9 (by omega) rfl ?_, rfl, hR', out.length, out, rfl⟩
      simp (config := { decide := true }) only [go_sem, Nat.reduceBEq, reduceIte]
  · rintro Hf - ⟨pre, s, out, r, hX, hpre, hout, hjl, hR, rfl⟩
    obtain rfl := alongX_end hX hpre
    simp (config := { decide := true }) only [go_sem, Int.reduceToNat, Nat.reduceAdd, Nat.reduceSub, Nat.reduceMul, Nat.reduceBEq, reduceIte, reduceCtorEq]
    rw [hR]
    exact .inl rfl
  · rintro c Hf - ⟨rfl, hn, n, out, rfl⟩
    unfold XQ
    simp (config := { decide := true }) only [go_sem, Int.reduceToNat, Nat.reduceAdd, Nat.reduceSub, Nat.reduceMul, Nat.reduceBEq, reduceIte, reduceCtorEq]
    exact .inr hn
end Go.Proofs.Yteieinhgdjjdoaa
