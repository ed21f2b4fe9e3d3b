/- Merged: Ou, Ov, Ow, Ox. -/
import Derived.Test.YtcpefnjofekibaaDoorMb
import Derived.Test.YtcpefnjofekibaaDoorHiCs
/- Ops: the line of words. -/
namespace Go.Proofs.YtcpefnjofekibaaDoor
open Go.RowKit
set_option linter.unusedVariables false
set_option linter.unusedSimpArgs false
set_option maxRecDepth 8000

/-- A line's parts. -/
structure LT where
  op : Int
  rg : List UInt8
  loc : List UInt8
  lab : List UInt8
  n : Int
  deriving DecidableEq

abbrev lineT (l : LT) : HV := lineV l.op l.rg l.loc l.lab l.n
def LT.right (l : LT) : Bool := rightB l.op l.rg l.loc l.lab l.n
def zeroL : LT := ⟨0, [], [], [], 0⟩

def moveB (a b : List UInt8) : LT :=
  if insB a ≠ [] then (if (numB b).2 = true then ⟨4, [], insB a, [], (numB b).1⟩ else ⟨3, b, insB a, [], 0⟩)
  else if (numB b).2 = true then ⟨1, a, [], [], (numB b).1⟩ else ⟨2, a, insB b, [], 0⟩

def guessB : List (List UInt8) → LT
  | [k] => if sufB k [58] = true then ⟨11, [], [], k.take (k.length - 1), 0⟩ else if k = mfenceB then ⟨6, [], [], [], 0⟩ else zeroL
  | [k, l] => if k = jmpB then ⟨8, [], [], l, 0⟩ else if k = jeB then ⟨9, [], [], l, 0⟩ else if k = jneB then ⟨10, [], [], l, 0⟩ else zeroL
  | [k, a, b] => if k = movB then moveB a b else if k = xchgB then ⟨5, b, insB a, [], 0⟩ else if k = cmpB then (if (numB b).2 = true then ⟨7, a, [], [], (numB b).1⟩ else zeroL) else zeroL
  | _ => zeroL

def getB (w : List (List UInt8)) : LT × Bool := if w ≠ [] ∧ (guessB w).right = true then (guessB w, true) else (zeroL, false)

set_option maxHeartbeats 2000000 in
theorem movePr (a b : List UInt8) (ha : a.length ≤ 1000000) (hb : b.length ≤ 1000000) : HFn Tryd.prog 41 [.v (str a), .v (str b)] (lineT (moveB a b)) := by
  refine HCalls_bodyC (fn := Tryd.f41) 41 [.cell 4 23] (by kernel_rfl) rfl rfl (by kernel_rfl) (HW.run 400 (by kernel_rfl) ?_)
  simp (config := { decide := true }) only [go_sem, Int.reduceToNat, Nat.reduceAdd, Nat.reduceSub, Nat.reduceMul, Nat.reduceBEq, reduceIte, reduceCtorEq]
  refine callX_fn 3 (numGet b hb) (by simp only [go_sem]) rfl ?_
  simp (config := { decide := true }) only [go_sem, Int.reduceToNat, Nat.reduceAdd, Nat.reduceSub, Nat.reduceMul, Nat.reduceBEq, reduceIte, reduceCtorEq]
  refine callX_fn 3 (within a ha) (by simp only [go_sem]) rfl ?_
  simp (config := { decide := true }) only [go_sem, Int.reduceToNat, Nat.reduceAdd, Nat.reduceSub, Nat.reduceMul, Nat.reduceBEq, reduceIte, reduceCtorEq]
  refine callX_fn 3 (within b hb) (by simp only [go_sem]) rfl ?_
  unfold moveB
  cases hn : (numB b).2 with
  | true =>
    by_cases hi : insB a = []
    · simp (config := { decide := true }) only [go_sem, Int.reduceToNat, Nat.reduceAdd, Nat.reduceSub, Nat.reduceMul, Nat.reduceBEq, reduceIte, reduceCtorEq, hi]
    · simp (config := { decide := true }) only [go_sem, Int.reduceToNat, Nat.reduceAdd, Nat.reduceSub, Nat.reduceMul, Nat.reduceBEq, reduceIte, reduceCtorEq, hi]
      simp [hi]
  | false =>
    by_cases hi : insB a = []
    · simp (config := { decide := true }) only [go_sem, Int.reduceToNat, Nat.reduceAdd, Nat.reduceSub, Nat.reduceMul, Nat.reduceBEq, reduceIte, reduceCtorEq, hi]
    · simp (config := { decide := true }) only [go_sem, Int.reduceToNat, Nat.reduceAdd, Nat.reduceSub, Nat.reduceMul, Nat.reduceBEq, reduceIte, reduceCtorEq, hi]
      simp [hi]

theorem strs1 {a : List UInt8} : strs [a] = [[.v (str a)]] := rfl
theorem strs2 {a b : List UInt8} : strs [a, b] = [[.v (str a)], [.v (str b)]] := rfl
theorem strs3 {a b c : List UInt8} : strs [a, b, c] = [[.v (str a)], [.v (str b)], [.v (str c)]] := rfl

set_option maxHeartbeats 4000000 in
theorem guessPr (w : List (List UInt8)) (hw : w ≠ []) (hl : ∀ s ∈ w, s.length ≤ 1000000) (hn : w.length ≤ 1000000) : HFn Tryd.prog 26 [.sl (strs w)] (lineT (guessB w)) := by
  match w, hw with
  | [k], _ =>
    rw [strs1]
    refine HCalls_bodyC (fn := Tryd.f26) 85 [.cell 2 23] (by kernel_rfl) rfl rfl (by kernel_rfl) (HW.run 400 (by kernel_rfl) ?_)
    simp (config := { decide := true }) only [go_sem, Int.reduceToNat, Nat.reduceAdd, Nat.reduceSub, Nat.reduceMul, Nat.reduceBEq, reduceIte, reduceCtorEq]
    refine callX_fn 3 (cutSuffix k [58] (hl k (by simp))) (by simp only [go_sem]) rfl ?_
    simp only [guessB]
    cases hs : sufB k [58] with
    | true =>
      simp (config := { decide := true }) only [go_sem, Int.reduceToNat, Nat.reduceAdd, Nat.reduceSub, Nat.reduceMul, Nat.reduceBEq, reduceIte, reduceCtorEq]
    | false =>
      by_cases hm : k = mfenceB
      · have hm' : (k = [109, 102, 101, 110, 99, 101]) = True := by simp only [eq_iff_iff, iff_true]; exact hm
        simp (config := { decide := true }) only [go_sem, Int.reduceToNat, Nat.reduceAdd, Nat.reduceSub, Nat.reduceMul, Nat.reduceBEq, reduceIte, reduceCtorEq, hm']
        simp [hm]
      · have hm' : (k = [109, 102, 101, 110, 99, 101]) = False := by simp only [eq_iff_iff, iff_false]; exact hm
        simp (config := { decide := true }) only [go_sem, Int.reduceToNat, Nat.reduceAdd, Nat.reduceSub, Nat.reduceMul, Nat.reduceBEq, reduceIte, reduceCtorEq, hm']
        simp [hm, zeroL]
  | [k, l], _ =>
    rw [strs2]
    refine HCalls_bodyC (fn := Tryd.f26) 85 [.cell 2 23] (by kernel_rfl) rfl rfl (by kernel_rfl) (HW.run 400 (by kernel_rfl) ?_)
    simp only [guessB]
    by_cases h1 : k = jmpB
    · subst h1
      simp (config := { decide := true }) only [go_sem, Int.reduceToNat, Nat.reduceAdd, Nat.reduceSub, Nat.reduceMul, Nat.reduceBEq, reduceIte, reduceCtorEq, jmpB]
    have e1 : (k = [106, 109, 112]) = False := by simp only [eq_iff_iff, iff_false]; exact h1
    by_cases h2 : k = jeB
    · subst h2
      simp (config := { decide := true }) only [go_sem, Int.reduceToNat, Nat.reduceAdd, Nat.reduceSub, Nat.reduceMul, Nat.reduceBEq, reduceIte, reduceCtorEq, jeB]
    have e2 : (k = [106, 101]) = False := by simp only [eq_iff_iff, iff_false]; exact h2
    by_cases h3 : k = jneB
    · subst h3
      simp (config := { decide := true }) only [go_sem, Int.reduceToNat, Nat.reduceAdd, Nat.reduceSub, Nat.reduceMul, Nat.reduceBEq, reduceIte, reduceCtorEq, jneB]
    have e3 : (k = [106, 110, 101]) = False := by simp only [eq_iff_iff, iff_false]; exact h3
    simp (config := { decide := true }) only [go_sem, Int.reduceToNat, Nat.reduceAdd, Nat.reduceSub, Nat.reduceMul, Nat.reduceBEq, reduceIte, reduceCtorEq, e1, e2, e3]
    simp [h1, h2, h3, zeroL]
  | [k, a, b], _ =>
    have ha := hl a (by simp)
    have hb := hl b (by simp)
    rw [strs3]
    refine HCalls_bodyC (fn := Tryd.f26) 85 [.cell 2 23] (by kernel_rfl) rfl rfl (by kernel_rfl) (HW.run 400 (by kernel_rfl) ?_)
    simp only [guessB]
    by_cases h1 : k = movB
    · subst h1
      simp (config := { decide := true }) only [go_sem, Int.reduceToNat, Nat.reduceAdd, Nat.reduceSub, Nat.reduceMul, Nat.reduceBEq, reduceIte, reduceCtorEq, movB]
      refine HW.anyOrder 80 7 follows (by kernel_rfl) ?_
      simp (config := { decide := true }) only [go_sem, Int.reduceToNat, Nat.reduceAdd, Nat.reduceSub, Nat.reduceMul, Nat.reduceBEq, reduceIte, reduceCtorEq]
      refine callQ_fn 3 (movePr a b ha hb) (by simp only [go_sem]) rfl rfl ?_
      simp (config := { decide := true }) only [go_sem, Int.reduceToNat, Nat.reduceAdd, Nat.reduceSub, Nat.reduceMul, Nat.reduceBEq, reduceIte, reduceCtorEq]
    have e1 : (k = [109, 111, 118]) = False := by simp only [eq_iff_iff, iff_false]; exact h1
    by_cases h2 : k = xchgB
    · subst h2
      simp (config := { decide := true }) only [go_sem, Int.reduceToNat, Nat.reduceAdd, Nat.reduceSub, Nat.reduceMul, Nat.reduceBEq, reduceIte, reduceCtorEq, xchgB]
      refine HW.anyOrder 80 8 follows (by kernel_rfl) ?_
      simp (config := { decide := true }) only [go_sem, Int.reduceToNat, Nat.reduceAdd, Nat.reduceSub, Nat.reduceMul, Nat.reduceBEq, reduceIte, reduceCtorEq]
      refine callQ_fn 3 (within a ha) (by simp only [go_sem]) rfl rfl ?_
      simp (config := { decide := true }) only [go_sem, Int.reduceToNat, Nat.reduceAdd, Nat.reduceSub, Nat.reduceMul, Nat.reduceBEq, reduceIte, reduceCtorEq]
    have e2 : (k = [120, 99, 104, 103]) = False := by simp only [eq_iff_iff, iff_false]; exact h2
    by_cases h3 : k = cmpB
    · have e3 : (k = [99, 109, 112]) = True := by simp only [eq_iff_iff, iff_true]; exact h3
      simp (config := { decide := true }) only [go_sem, Int.reduceToNat, Nat.reduceAdd, Nat.reduceSub, Nat.reduceMul, Nat.reduceBEq, reduceIte, reduceCtorEq, e1, e2, e3]
      refine callX_fn 3 (numGet b hb) (by simp only [go_sem]) rfl ?_
      cases hn : (numB b).2 with
      | true => simp (config := { decide := true }) only [go_sem, Int.reduceToNat, Nat.reduceAdd, Nat.reduceSub, Nat.reduceMul, Nat.reduceBEq, reduceIte, reduceCtorEq]; rw [if_neg h1, if_neg h2, if_pos h3]
      | false => simp (config := { decide := true }) only [go_sem, Int.reduceToNat, Nat.reduceAdd, Nat.reduceSub, Nat.reduceMul, Nat.reduceBEq, reduceIte, reduceCtorEq]; rw [if_neg h1, if_neg h2, if_pos h3]; rfl
    have e3 : (k = [99, 109, 112]) = False := by simp only [eq_iff_iff, iff_false]; exact h3
    simp (config := { decide := true }) only [go_sem, Int.reduceToNat, Nat.reduceAdd, Nat.reduceSub, Nat.reduceMul, Nat.reduceBEq, reduceIte, reduceCtorEq, e1, e2, e3]
    simp [h1, h2, h3, zeroL]
  | k :: a :: b :: c :: r, _ =>
    have hz : guessB (k :: a :: b :: c :: r) = zeroL := rfl
    rw [hz]
    have l1 : ((strs (k :: a :: b :: c :: r)).length : Int) = (r.length : Int) + 4 := by simp [strs]; omega
    have l1' : (strs (k :: a :: b :: c :: r)).length = r.length + 4 := by simp [strs]
    have g0 : (strs (k :: a :: b :: c :: r))[0]? = some [.v (str k)] := rfl
    have hu : RowsLen (strs (k :: a :: b :: c :: r)) 1 = True := by simp only [eq_iff_iff, iff_true]; exact of_eq_true strs_rowsLen
    refine HCalls_bodyC (fn := Tryd.f26) 85 [.cell 2 23] (by kernel_rfl) rfl rfl (by kernel_rfl) (HW.run 400 (by kernel_rfl) ?_)
    generalize strs (k :: a :: b :: c :: r) = rows at l1 l1' g0 hu ⊢
    have c1 : ((rows.length : Int) = 1) = False := by simp only [eq_iff_iff, iff_false]; omega
    have c2 : ((rows.length : Int) = 2) = False := by simp only [eq_iff_iff, iff_false]; omega
    have c3 : ((rows.length : Int) = 3) = False := by simp only [eq_iff_iff, iff_false]; omega
    have c4 : ((0 : Int) < (rows.length : Int)) = True := by simp only [eq_iff_iff, iff_true]; omega
    simp (config := { decide := true }) only [go_sem, Int.reduceToNat, Nat.reduceAdd, Nat.reduceSub, Nat.reduceMul, Nat.reduceBEq, reduceIte, reduceCtorEq, c1, c2, c3, c4, g0, hu]
    rfl

set_option maxHeartbeats 2000000 in
theorem opsGet (w : List (List UInt8)) (hl : ∀ s ∈ w, s.length ≤ 1000000) (hn : w.length ≤ 1000000) : HFn Tryd.prog 12 [.sl (strs w)] (.tu [lineT (getB w).1, .v (.bool (getB w).2)]) := by
  refine HCalls_bodyC (fn := Tryd.f12) 15 [.cell 2 23, .tmp 3] (by kernel_rfl) rfl rfl (by kernel_rfl) (HW.run 400 (by kernel_rfl) ?_)
  by_cases hw : w = []
  · subst hw
    have e0 : strs [] = [] := rfl
    simp (config := { decide := true }) only [go_sem, Int.reduceToNat, Nat.reduceAdd, Nat.reduceSub, Nat.reduceMul, Nat.reduceBEq, reduceIte, reduceCtorEq, e0]
    rfl
  · have hlen : ((w.length : Nat) : Int) ≠ 0 := by
      cases w with
      | nil => exact absurd rfl hw
      | cons x r => simp; omega
    have hlen' : (((w.length : Nat) : Int) = 0) = False := by simp only [eq_iff_iff, iff_false]; exact hlen
    simp (config := { decide := true }) only [go_sem, Int.reduceToNat, Nat.reduceAdd, Nat.reduceSub, Nat.reduceMul, Nat.reduceBEq, reduceIte, reduceCtorEq, hlen']
    refine callX_fn 3 (guessPr w hw hl hn) (by simp only [go_sem]) rfl ?_
    simp (config := { decide := true }) only [go_sem, Int.reduceToNat, Nat.reduceAdd, Nat.reduceSub, Nat.reduceMul, Nat.reduceBEq, reduceIte, reduceCtorEq]
    refine callX_fn 3 (opsRight (guessB w).op (guessB w).rg (guessB w).loc (guessB w).lab (guessB w).n) (by simp only [go_sem]) rfl ?_
    unfold getB
    have hr : (guessB w).right = rightB (guessB w).op (guessB w).rg (guessB w).loc (guessB w).lab (guessB w).n := rfl
    cases hc : rightB (guessB w).op (guessB w).rg (guessB w).loc (guessB w).lab (guessB w).n with
    | true =>
      simp (config := { decide := true }) only [go_sem, Int.reduceToNat, Nat.reduceAdd, Nat.reduceSub, Nat.reduceMul, Nat.reduceBEq, reduceIte, reduceCtorEq]
      rw [if_pos ⟨hw, hr.trans hc⟩]
    | false =>
      simp (config := { decide := true }) only [go_sem, Int.reduceToNat, Nat.reduceAdd, Nat.reduceSub, Nat.reduceMul, Nat.reduceBEq, reduceIte, reduceCtorEq]
      rw [if_neg (fun h => by rw [hr, hc] at h; simp at h)]
      rfl
end Go.Proofs.YtcpefnjofekibaaDoor

/- Ops: atoms. -/
namespace Go.Proofs.YtcpefnjofekibaaDoor
open Go.RowKit
set_option linter.unusedVariables false
set_option linter.unusedSimpArgs false
set_option maxRecDepth 8000

def askedB (th : Int) (nm : List UInt8) : Bool := if th = -1 then nameB nm else decide (0 ≤ th) && decide (th < 3) && decide (0 ≤ regB nm)

theorem opsAsked (th : Int) (nm : List UInt8) (n : Int) : HFn Tryd.prog 21 [atomV th nm n] (.v (.bool (askedB th nm))) := by
  unfold askedB
  refine HCalls_body (fn := Tryd.f21) 23 [2] (by kernel_rfl) rfl (by kernel_rfl) (HW.run 400 (by kernel_rfl) ?_)
  by_cases h1 : th = -1
  · simp (config := { decide := true }) only [go_sem, Int.reduceToNat, Nat.reduceAdd, Nat.reduceSub, Nat.reduceMul, Nat.reduceBEq, reduceIte, reduceCtorEq, h1]
    refine callX_fn 3 (namePr nm) (by simp only [go_sem]) rfl ?_
    simp (config := { decide := true }) only [go_sem, Int.reduceToNat, Nat.reduceAdd, Nat.reduceSub, Nat.reduceMul, Nat.reduceBEq, reduceIte, reduceCtorEq]
  · by_cases h2 : 0 ≤ th
    · by_cases h3 : th < 3
      · simp (config := { decide := true }) only [go_sem, Int.reduceToNat, Nat.reduceAdd, Nat.reduceSub, Nat.reduceMul, Nat.reduceBEq, reduceIte, reduceCtorEq, h1, h2, h3]
        refine callX_fn 3 (reg nm) (by simp only [go_sem]) rfl ?_
        simp (config := { decide := true }) only [go_sem, Int.reduceToNat, Nat.reduceAdd, Nat.reduceSub, Nat.reduceMul, Nat.reduceBEq, reduceIte, reduceCtorEq]
      · simp (config := { decide := true }) only [go_sem, Int.reduceToNat, Nat.reduceAdd, Nat.reduceSub, Nat.reduceMul, Nat.reduceBEq, reduceIte, reduceCtorEq, h1, h2, h3]
        simp [h1, h3]
    · simp (config := { decide := true }) only [go_sem, Int.reduceToNat, Nat.reduceAdd, Nat.reduceSub, Nat.reduceMul, Nat.reduceBEq, reduceIte, reduceCtorEq, h1, h2]
      simp [h1, h2]

/-- An atom's word. -/
def wordA (th : Int) (nm : List UInt8) (n : Int) : List UInt8 :=
  if askedB th nm = true then (if 0 ≤ th then textB th ++ [58] ++ (nm ++ [61] ++ textB n) else nm ++ [61] ++ textB n) else []

theorem opsWord (th : Int) (nm : List UInt8) (n : Int) (h1 : inI th) (h2 : inI n) (h3 : nm.length ≤ 1000000) : HFn Tryd.prog 23 [atomV th nm n] (.v (str (wordA th nm n))) := by
  unfold wordA
  refine HCalls_body (fn := Tryd.f23) 24 [2] (by kernel_rfl) rfl (by kernel_rfl) (HW.run 400 (by kernel_rfl) ?_)
  simp (config := { decide := true }) only [go_sem, Int.reduceToNat, Nat.reduceAdd, Nat.reduceSub, Nat.reduceMul, Nat.reduceBEq, reduceIte, reduceCtorEq]
  refine callX_fn 3 (opsAsked th nm n) (by simp only [go_sem]) rfl ?_
  cases ha : askedB th nm with
  | false =>
    simp (config := { decide := true }) only [go_sem, Int.reduceToNat, Nat.reduceAdd, Nat.reduceSub, Nat.reduceMul, Nat.reduceBEq, reduceIte, reduceCtorEq]
  | true =>
    have l1 := textB_length h1
    have l2 := textB_length h2
    simp (config := { decide := true }) only [go_sem, Int.reduceToNat, Nat.reduceAdd, Nat.reduceSub, Nat.reduceMul, Nat.reduceBEq, reduceIte, reduceCtorEq]
    refine HW.quiet 80 follows (by kernel_rfl) ?_
    simp (config := { decide := true }) only [go_sem, Int.reduceToNat, Nat.reduceAdd, Nat.reduceSub, Nat.reduceMul, Nat.reduceBEq, reduceIte, reduceCtorEq, List.length_append]
    refine ⟨by omega, ?_⟩
    refine callQ_fn 3 (numText n h2) (by simp only [go_sem]) rfl rfl ?_
    by_cases ht : 0 ≤ th
    · simp (config := { decide := true }) only [go_sem, Int.reduceToNat, Nat.reduceAdd, Nat.reduceSub, Nat.reduceMul, Nat.reduceBEq, reduceIte, reduceCtorEq, ht, List.length_append]
      refine ⟨by omega, ?_⟩
      refine callX_fn 3 (numText th h1) (by simp only [go_sem]) rfl ?_
      simp (config := { decide := true }) only [go_sem, Int.reduceToNat, Nat.reduceAdd, Nat.reduceSub, Nat.reduceMul, Nat.reduceBEq, reduceIte, reduceCtorEq, List.length_append]
      omega
    · simp (config := { decide := true }) only [go_sem, Int.reduceToNat, Nat.reduceAdd, Nat.reduceSub, Nat.reduceMul, Nat.reduceBEq, reduceIte, reduceCtorEq, ht, List.length_append]
      omega

/-- An atom's parts. -/
structure AT where
  th : Int
  nm : List UInt8
  n : Int
  deriving DecidableEq

abbrev atomT (a : AT) : HV := atomV a.th a.nm a.n
def zeroA : AT := ⟨0, [], 0⟩

/-- The atom ahead of the number. -/
def headA (left : List UInt8) : Option (Int × List UInt8) :=
  if (Lib.cut left [58]).2.2 = true then
    (if (numB (Lib.cut left [58]).1).2 = true ∧ 0 ≤ (numB (Lib.cut left [58]).1).1 then some ((numB (Lib.cut left [58]).1).1, (Lib.cut left [58]).2.1) else none)
  else some (-1, left)

def atomB (s : List UInt8) : AT × Bool :=
  match headA (Lib.cut s [61]).1 with
  | none => (zeroA, false)
  | some (th, nm) => if (numB (Lib.cut s [61]).2.1).2 = true ∧ askedB th nm = true then (⟨th, nm, (numB (Lib.cut s [61]).2.1).1⟩, true) else (zeroA, false)

theorem cut_len (c : UInt8) (s : List UInt8) : (Lib.cut s [c]).1.length ≤ s.length ∧ (Lib.cut s [c]).2.1.length ≤ s.length := by
  rcases cut1 c s with ⟨p, r, rfl, _, h⟩ | ⟨_, h⟩
  · rw [h]; simp; omega
  · rw [h]; simp

set_option maxHeartbeats 4000000 in
theorem opsAtom (s : List UInt8) (hs : s.length ≤ 1000000) : HFn Tryd.prog 14 [.v (str s)] (.tu [atomT (atomB s).1, .v (.bool (atomB s).2)]) := by
  obtain ⟨l1, l2⟩ := cut_len 61 s
  obtain ⟨l3, l4⟩ := cut_len 58 (Lib.cut s [61]).1
  refine HCalls_bodyC (fn := Tryd.f14) 62 [.cell 2 26, .tmp 3] (by kernel_rfl) rfl rfl (by kernel_rfl) (HW.run 400 (by kernel_rfl) ?_)
  simp (config := { decide := true }) only [go_sem, Int.reduceToNat, Nat.reduceAdd, Nat.reduceSub, Nat.reduceMul, Nat.reduceBEq, reduceIte, reduceCtorEq]
  refine callX_fn 3 (stringsCut s [61] (by omega)) (by simp only [go_sem]) rfl ?_
  simp (config := { decide := true }) only [go_sem, Int.reduceToNat, Nat.reduceAdd, Nat.reduceSub, Nat.reduceMul, Nat.reduceBEq, reduceIte, reduceCtorEq]
  refine callX_fn 3 (stringsCut (Lib.cut s [61]).1 [58] (by omega)) (by simp only [go_sem]) rfl ?_
  unfold atomB headA
  generalize Lib.cut s [61] = c1 at *
  obtain ⟨left, right, is0⟩ := c1
  generalize Lib.cut left [58] = c2 at *
  obtain ⟨thr, name, is1⟩ := c2
  simp only at l1 l2 l3 l4
  cases is1 with
  | true =>
    simp (config := { decide := true }) only [go_sem, Int.reduceToNat, Nat.reduceAdd, Nat.reduceSub, Nat.reduceMul, Nat.reduceBEq, reduceIte, reduceCtorEq]
    refine callX_fn 3 (numGet thr (by omega)) (by simp only [go_sem]) rfl ?_
    cases hn : (numB thr).2 with
    | false =>
      simp (config := { decide := true }) only [go_sem, Int.reduceToNat, Nat.reduceAdd, Nat.reduceSub, Nat.reduceMul, Nat.reduceBEq, reduceIte, reduceCtorEq]
      rfl
    | true =>
      by_cases hneg : (numB thr).1 < 0
      · simp (config := { decide := true }) only [go_sem, Int.reduceToNat, Nat.reduceAdd, Nat.reduceSub, Nat.reduceMul, Nat.reduceBEq, reduceIte, reduceCtorEq, hneg]
        rw [if_neg (by omega : ¬ 0 ≤ (numB thr).1)]
        rfl
      · simp (config := { decide := true }) only [go_sem, Int.reduceToNat, Nat.reduceAdd, Nat.reduceSub, Nat.reduceMul, Nat.reduceBEq, reduceIte, reduceCtorEq, hneg]
        refine callX_fn 3 (numGet right (by omega)) (by simp only [go_sem]) rfl ?_
        cases hr : (numB right).2 with
        | false =>
          simp (config := { decide := true }) only [go_sem, Int.reduceToNat, Nat.reduceAdd, Nat.reduceSub, Nat.reduceMul, Nat.reduceBEq, reduceIte, reduceCtorEq]
          rw [if_pos (by omega : 0 ≤ (numB thr).1)]
          rfl
        | true =>
          simp (config := { decide := true }) only [go_sem, Int.reduceToNat, Nat.reduceAdd, Nat.reduceSub, Nat.reduceMul, Nat.reduceBEq, reduceIte, reduceCtorEq]
          refine callX_fn 3 (opsAsked (numB thr).1 name (numB right).1) (by simp only [go_sem]) rfl ?_
          cases hq : askedB (numB thr).1 name with
          | false =>
            simp (config := { decide := true }) only [go_sem, Int.reduceToNat, Nat.reduceAdd, Nat.reduceSub, Nat.reduceMul, Nat.reduceBEq, reduceIte, reduceCtorEq]
            rw [if_pos (by omega : 0 ≤ (numB thr).1)]
            simp [hq, zeroA]
          | true =>
            simp (config := { decide := true }) only [go_sem, Int.reduceToNat, Nat.reduceAdd, Nat.reduceSub, Nat.reduceMul, Nat.reduceBEq, reduceIte, reduceCtorEq]
            rw [if_pos (by omega : 0 ≤ (numB thr).1)]
            simp [hq]
  | false =>
    simp (config := { decide := true }) only [go_sem, Int.reduceToNat, Nat.reduceAdd, Nat.reduceSub, Nat.reduceMul, Nat.reduceBEq, reduceIte, reduceCtorEq]
    refine callX_fn 3 (numGet right (by omega)) (by simp only [go_sem]) rfl ?_
    cases hr : (numB right).2 with
    | false =>
      simp (config := { decide := true }) only [go_sem, Int.reduceToNat, Nat.reduceAdd, Nat.reduceSub, Nat.reduceMul, Nat.reduceBEq, reduceIte, reduceCtorEq]
      rfl
    | true =>
      simp (config := { decide := true }) only [go_sem, Int.reduceToNat, Nat.reduceAdd, Nat.reduceSub, Nat.reduceMul, Nat.reduceBEq, reduceIte, reduceCtorEq]
      refine callX_fn 3 (opsAsked (-1) left (numB right).1) (by simp only [go_sem]) rfl ?_
      cases hq : askedB (-1) left with
      | false => simp (config := { decide := true }) only [go_sem, Int.reduceToNat, Nat.reduceAdd, Nat.reduceSub, Nat.reduceMul, Nat.reduceBEq, reduceIte, reduceCtorEq]; rfl
      | true => simp (config := { decide := true }) only [go_sem, Int.reduceToNat, Nat.reduceAdd, Nat.reduceSub, Nat.reduceMul, Nat.reduceBEq, reduceIte, reduceCtorEq]
end Go.Proofs.YtcpefnjofekibaaDoor

/- Ops: the document's functions: what is right, words. -/
namespace Go.Proofs.YtcpefnjofekibaaDoor
open Go.RowKit
set_option linter.unusedVariables false
set_option linter.unusedSimpArgs false
set_option maxRecDepth 8000

theorem refHas (op : Int) : HFn Tryd.prog 34 [.v (.int .i64 op)] (.tu [.v (.bool (hasReg op)), .v (.bool (hasLoc op)), .v (.bool (hasLab op)), .v (.bool (hasN op))]) := by
  by_cases h1 : op = 1 ∨ op = 2 ∨ op = 3 ∨ op = 4 ∨ op = 5 ∨ op = 7
  · rcases h1 with rfl | rfl | rfl | rfl | rfl | rfl
    all_goals
      refine HCalls_body (fn := Tryd.f34) 60 [2, 3, 4, 5] (by kernel_rfl) rfl (by kernel_rfl) (HW.run 400 (by kernel_rfl) ?_)
      simp (config := { decide := true }) only [go_sem, Int.reduceToNat, Nat.reduceAdd, Nat.reduceSub, Nat.reduceMul, Nat.reduceBEq, reduceIte, reduceCtorEq]
      rfl
  · have e1 : ¬ op = 1 := fun h => h1 (by simp [h])
    have e2 : ¬ op = 2 := fun h => h1 (by simp [h])
    have e3 : ¬ op = 3 := fun h => h1 (by simp [h])
    have e4 : ¬ op = 4 := fun h => h1 (by simp [h])
    have e5 : ¬ op = 5 := fun h => h1 (by simp [h])
    have e7 : ¬ op = 7 := fun h => h1 (by simp [h])
    refine HCalls_body (fn := Tryd.f34) 60 [2, 3, 4, 5] (by kernel_rfl) rfl (by kernel_rfl) (HW.run 400 (by kernel_rfl) ?_)
    have f1 : hasReg op = false := by simp [hasReg, e1, e2, e3, e5, e7]
    have f2 : hasLoc op = false := by simp [hasLoc, e2, e3, e4, e5]
    have f4 : hasN op = false := by simp [hasN, e1, e4, e7]
    by_cases h8 : 8 ≤ op
    · by_cases h11 : op ≤ 11
      · simp (config := { decide := true }) only [go_sem, Int.reduceToNat, Nat.reduceAdd, Nat.reduceSub, Nat.reduceMul, Nat.reduceBEq, reduceIte, reduceCtorEq, e1, e2, e3, e4, e5, e7, h8, h11]
        simp [f1, f2, f4, hasLab, h8, h11]
      · simp (config := { decide := true }) only [go_sem, Int.reduceToNat, Nat.reduceAdd, Nat.reduceSub, Nat.reduceMul, Nat.reduceBEq, reduceIte, reduceCtorEq, e1, e2, e3, e4, e5, e7, h8, h11]
        simp [f1, f2, f4, hasLab, h8, h11]
    · simp (config := { decide := true }) only [go_sem, Int.reduceToNat, Nat.reduceAdd, Nat.reduceSub, Nat.reduceMul, Nat.reduceBEq, reduceIte, reduceCtorEq, e1, e2, e3, e4, e5, e7, h8]
      simp [f1, f2, f4, hasLab, h8]

set_option maxHeartbeats 4000000 in
theorem refRight (op : Int) (rg loc lab : List UInt8) (n : Int) (l1 : rg.length ≤ 1000000) (l2 : loc.length ≤ 1000000) (l3 : lab.length ≤ 1000000) : HFn Tryd.prog 17 [lineV op rg loc lab n] (.v (.bool (rightB op rg loc lab n))) := by
  refine HCalls_body (fn := Tryd.f17) 77 [2] (by kernel_rfl) rfl (by kernel_rfl) (HW.run 400 (by kernel_rfl) ?_)
  simp (config := { decide := true }) only [go_sem, Int.reduceToNat, Nat.reduceAdd, Nat.reduceSub, Nat.reduceMul, Nat.reduceBEq, reduceIte, reduceCtorEq]
  refine callX_fn 3 (refHas op) (by simp only [go_sem]) rfl ?_
  by_cases hlo : op < 1
  · simp (config := { decide := true }) only [go_sem, Int.reduceToNat, Nat.reduceAdd, Nat.reduceSub, Nat.reduceMul, Nat.reduceBEq, reduceIte, reduceCtorEq, hlo]
    have : rightB op rg loc lab n = false := by unfold rightB; simp [show ¬ 1 ≤ op by omega]
    rw [this]
  by_cases hhi : 11 < op
  · simp (config := { decide := true }) only [go_sem, Int.reduceToNat, Nat.reduceAdd, Nat.reduceSub, Nat.reduceMul, Nat.reduceBEq, reduceIte, reduceCtorEq, hlo, hhi]
    have : rightB op rg loc lab n = false := by unfold rightB; simp [show ¬ op ≤ 11 by omega]
    rw [this]
  have hr : rightB op rg loc lab n = rb (hasReg op) (hasLoc op) (hasLab op) (hasN op) (decide (0 ≤ regB rg)) (decide (rg = [])) (nameB loc) (decide (loc = [])) (nameB lab) (decide (lab = [])) (decide (n = 0)) := by
    unfold rightB
    simp [show 1 ≤ op by omega, show op ≤ 11 by omega]
  rw [hr]
  generalize hasReg op = fr
  generalize hasLoc op = fo
  generalize hasLab op = fa
  generalize hasN op = fn
  cases fr with
  | false =>
    by_cases hb : rg = []
    · simp (config := { decide := true }) only [go_sem, Int.reduceToNat, Nat.reduceAdd, Nat.reduceSub, Nat.reduceMul, Nat.reduceBEq, reduceIte, reduceCtorEq, hlo, hhi, hb]
      cases fo with
      | false =>
        by_cases hd : loc = []
        · simp (config := { decide := true }) only [go_sem, Int.reduceToNat, Nat.reduceAdd, Nat.reduceSub, Nat.reduceMul, Nat.reduceBEq, reduceIte, reduceCtorEq, hd]
          cases fa with
          | false =>
            by_cases hf : lab = []
            · simp (config := { decide := true }) only [go_sem, Int.reduceToNat, Nat.reduceAdd, Nat.reduceSub, Nat.reduceMul, Nat.reduceBEq, reduceIte, reduceCtorEq, hf]
              cases fn with
              | false =>
                by_cases hg : n = 0
                · simp (config := { decide := true }) only [go_sem, Int.reduceToNat, Nat.reduceAdd, Nat.reduceSub, Nat.reduceMul, Nat.reduceBEq, reduceIte, reduceCtorEq, hg]
                  simp [rb, hg, hb, hd, hf]
                · simp (config := { decide := true }) only [go_sem, Int.reduceToNat, Nat.reduceAdd, Nat.reduceSub, Nat.reduceMul, Nat.reduceBEq, reduceIte, reduceCtorEq, hg]
                  simp [rb, hg]
              | true =>
                simp (config := { decide := true }) only [go_sem, Int.reduceToNat, Nat.reduceAdd, Nat.reduceSub, Nat.reduceMul, Nat.reduceBEq, reduceIte, reduceCtorEq]
                simp [rb, hb, hd, hf]
            · simp (config := { decide := true }) only [go_sem, Int.reduceToNat, Nat.reduceAdd, Nat.reduceSub, Nat.reduceMul, Nat.reduceBEq, reduceIte, reduceCtorEq, hf]
              simp [rb, hf]
          | true =>
            simp (config := { decide := true }) only [go_sem, Int.reduceToNat, Nat.reduceAdd, Nat.reduceSub, Nat.reduceMul, Nat.reduceBEq, reduceIte, reduceCtorEq]
            refine callX_fn 3 (refName lab l3) (by simp only [go_sem]) rfl ?_
            cases he : nameB lab with
            | false =>
              simp (config := { decide := true }) only [go_sem, Int.reduceToNat, Nat.reduceAdd, Nat.reduceSub, Nat.reduceMul, Nat.reduceBEq, reduceIte, reduceCtorEq]
              simp [rb]
            | true =>
              simp (config := { decide := true }) only [go_sem, Int.reduceToNat, Nat.reduceAdd, Nat.reduceSub, Nat.reduceMul, Nat.reduceBEq, reduceIte, reduceCtorEq]
              cases fn with
              | false =>
                by_cases hg : n = 0
                · simp (config := { decide := true }) only [go_sem, Int.reduceToNat, Nat.reduceAdd, Nat.reduceSub, Nat.reduceMul, Nat.reduceBEq, reduceIte, reduceCtorEq, hg]
                  simp [rb, hg, hb, hd]
                · simp (config := { decide := true }) only [go_sem, Int.reduceToNat, Nat.reduceAdd, Nat.reduceSub, Nat.reduceMul, Nat.reduceBEq, reduceIte, reduceCtorEq, hg]
                  simp [rb, hg]
              | true =>
                simp (config := { decide := true }) only [go_sem, Int.reduceToNat, Nat.reduceAdd, Nat.reduceSub, Nat.reduceMul, Nat.reduceBEq, reduceIte, reduceCtorEq]
                simp [rb, hb, hd]
        · simp (config := { decide := true }) only [go_sem, Int.reduceToNat, Nat.reduceAdd, Nat.reduceSub, Nat.reduceMul, Nat.reduceBEq, reduceIte, reduceCtorEq, hd]
          simp [rb, hd]
      | true =>
        simp (config := { decide := true }) only [go_sem, Int.reduceToNat, Nat.reduceAdd, Nat.reduceSub, Nat.reduceMul, Nat.reduceBEq, reduceIte, reduceCtorEq]
        refine callX_fn 3 (refName loc l2) (by simp only [go_sem]) rfl ?_
        cases hc : nameB loc with
        | false =>
          simp (config := { decide := true }) only [go_sem, Int.reduceToNat, Nat.reduceAdd, Nat.reduceSub, Nat.reduceMul, Nat.reduceBEq, reduceIte, reduceCtorEq]
          simp [rb]
        | true =>
          simp (config := { decide := true }) only [go_sem, Int.reduceToNat, Nat.reduceAdd, Nat.reduceSub, Nat.reduceMul, Nat.reduceBEq, reduceIte, reduceCtorEq]
          cases fa with
          | false =>
            by_cases hf : lab = []
            · simp (config := { decide := true }) only [go_sem, Int.reduceToNat, Nat.reduceAdd, Nat.reduceSub, Nat.reduceMul, Nat.reduceBEq, reduceIte, reduceCtorEq, hf]
              cases fn with
              | false =>
                by_cases hg : n = 0
                · simp (config := { decide := true }) only [go_sem, Int.reduceToNat, Nat.reduceAdd, Nat.reduceSub, Nat.reduceMul, Nat.reduceBEq, reduceIte, reduceCtorEq, hg]
                  simp [rb, hg, hb, hf]
                · simp (config := { decide := true }) only [go_sem, Int.reduceToNat, Nat.reduceAdd, Nat.reduceSub, Nat.reduceMul, Nat.reduceBEq, reduceIte, reduceCtorEq, hg]
                  simp [rb, hg]
              | true =>
                simp (config := { decide := true }) only [go_sem, Int.reduceToNat, Nat.reduceAdd, Nat.reduceSub, Nat.reduceMul, Nat.reduceBEq, reduceIte, reduceCtorEq]
                simp [rb, hb, hf]
            · simp (config := { decide := true }) only [go_sem, Int.reduceToNat, Nat.reduceAdd, Nat.reduceSub, Nat.reduceMul, Nat.reduceBEq, reduceIte, reduceCtorEq, hf]
              simp [rb, hf]
          | true =>
            simp (config := { decide := true }) only [go_sem, Int.reduceToNat, Nat.reduceAdd, Nat.reduceSub, Nat.reduceMul, Nat.reduceBEq, reduceIte, reduceCtorEq]
            refine callX_fn 3 (refName lab l3) (by simp only [go_sem]) rfl ?_
            cases he : nameB lab with
            | false =>
              simp (config := { decide := true }) only [go_sem, Int.reduceToNat, Nat.reduceAdd, Nat.reduceSub, Nat.reduceMul, Nat.reduceBEq, reduceIte, reduceCtorEq]
              simp [rb]
            | true =>
              simp (config := { decide := true }) only [go_sem, Int.reduceToNat, Nat.reduceAdd, Nat.reduceSub, Nat.reduceMul, Nat.reduceBEq, reduceIte, reduceCtorEq]
              cases fn with
              | false =>
                by_cases hg : n = 0
                · simp (config := { decide := true }) only [go_sem, Int.reduceToNat, Nat.reduceAdd, Nat.reduceSub, Nat.reduceMul, Nat.reduceBEq, reduceIte, reduceCtorEq, hg]
                  simp [rb, hg, hb]
                · simp (config := { decide := true }) only [go_sem, Int.reduceToNat, Nat.reduceAdd, Nat.reduceSub, Nat.reduceMul, Nat.reduceBEq, reduceIte, reduceCtorEq, hg]
                  simp [rb, hg]
              | true =>
                simp (config := { decide := true }) only [go_sem, Int.reduceToNat, Nat.reduceAdd, Nat.reduceSub, Nat.reduceMul, Nat.reduceBEq, reduceIte, reduceCtorEq]
                simp [rb, hb]
    · simp (config := { decide := true }) only [go_sem, Int.reduceToNat, Nat.reduceAdd, Nat.reduceSub, Nat.reduceMul, Nat.reduceBEq, reduceIte, reduceCtorEq, hlo, hhi, hb]
      simp [rb, hb]
  | true =>
    simp (config := { decide := true }) only [go_sem, Int.reduceToNat, Nat.reduceAdd, Nat.reduceSub, Nat.reduceMul, Nat.reduceBEq, reduceIte, reduceCtorEq, hlo, hhi]
    refine callX_fn 3 (refReg rg) (by simp only [go_sem]) rfl ?_
    by_cases ha : regB rg < 0
    · have ha2 : ¬ 0 ≤ regB rg := by omega
      simp (config := { decide := true }) only [go_sem, Int.reduceToNat, Nat.reduceAdd, Nat.reduceSub, Nat.reduceMul, Nat.reduceBEq, reduceIte, reduceCtorEq, ha]
      simp [rb, ha2]
    · have ha2 : 0 ≤ regB rg := by omega
      simp (config := { decide := true }) only [go_sem, Int.reduceToNat, Nat.reduceAdd, Nat.reduceSub, Nat.reduceMul, Nat.reduceBEq, reduceIte, reduceCtorEq, ha]
      cases fo with
      | false =>
        by_cases hd : loc = []
        · simp (config := { decide := true }) only [go_sem, Int.reduceToNat, Nat.reduceAdd, Nat.reduceSub, Nat.reduceMul, Nat.reduceBEq, reduceIte, reduceCtorEq, hd]
          cases fa with
          | false =>
            by_cases hf : lab = []
            · simp (config := { decide := true }) only [go_sem, Int.reduceToNat, Nat.reduceAdd, Nat.reduceSub, Nat.reduceMul, Nat.reduceBEq, reduceIte, reduceCtorEq, hf]
              cases fn with
              | false =>
                by_cases hg : n = 0
                · simp (config := { decide := true }) only [go_sem, Int.reduceToNat, Nat.reduceAdd, Nat.reduceSub, Nat.reduceMul, Nat.reduceBEq, reduceIte, reduceCtorEq, hg]
                  simp [rb, hg, ha2, hd, hf]
                · simp (config := { decide := true }) only [go_sem, Int.reduceToNat, Nat.reduceAdd, Nat.reduceSub, Nat.reduceMul, Nat.reduceBEq, reduceIte, reduceCtorEq, hg]
                  simp [rb, hg]
              | true =>
                simp (config := { decide := true }) only [go_sem, Int.reduceToNat, Nat.reduceAdd, Nat.reduceSub, Nat.reduceMul, Nat.reduceBEq, reduceIte, reduceCtorEq]
                simp [rb, ha2, hd, hf]
            · simp (config := { decide := true }) only [go_sem, Int.reduceToNat, Nat.reduceAdd, Nat.reduceSub, Nat.reduceMul, Nat.reduceBEq, reduceIte, reduceCtorEq, hf]
              simp [rb, hf]
          | true =>
            simp (config := { decide := true }) only [go_sem, Int.reduceToNat, Nat.reduceAdd, Nat.reduceSub, Nat.reduceMul, Nat.reduceBEq, reduceIte, reduceCtorEq]
            refine callX_fn 3 (refName lab l3) (by simp only [go_sem]) rfl ?_
            cases he : nameB lab with
            | false =>
              simp (config := { decide := true }) only [go_sem, Int.reduceToNat, Nat.reduceAdd, Nat.reduceSub, Nat.reduceMul, Nat.reduceBEq, reduceIte, reduceCtorEq]
              simp [rb]
            | true =>
              simp (config := { decide := true }) only [go_sem, Int.reduceToNat, Nat.reduceAdd, Nat.reduceSub, Nat.reduceMul, Nat.reduceBEq, reduceIte, reduceCtorEq]
              cases fn with
              | false =>
                by_cases hg : n = 0
                · simp (config := { decide := true }) only [go_sem, Int.reduceToNat, Nat.reduceAdd, Nat.reduceSub, Nat.reduceMul, Nat.reduceBEq, reduceIte, reduceCtorEq, hg]
                  simp [rb, hg, ha2, hd]
                · simp (config := { decide := true }) only [go_sem, Int.reduceToNat, Nat.reduceAdd, Nat.reduceSub, Nat.reduceMul, Nat.reduceBEq, reduceIte, reduceCtorEq, hg]
                  simp [rb, hg]
              | true =>
                simp (config := { decide := true }) only [go_sem, Int.reduceToNat, Nat.reduceAdd, Nat.reduceSub, Nat.reduceMul, Nat.reduceBEq, reduceIte, reduceCtorEq]
                simp [rb, ha2, hd]
        · simp (config := { decide := true }) only [go_sem, Int.reduceToNat, Nat.reduceAdd, Nat.reduceSub, Nat.reduceMul, Nat.reduceBEq, reduceIte, reduceCtorEq, hd]
          simp [rb, hd]
      | true =>
        simp (config := { decide := true }) only [go_sem, Int.reduceToNat, Nat.reduceAdd, Nat.reduceSub, Nat.reduceMul, Nat.reduceBEq, reduceIte, reduceCtorEq]
        refine callX_fn 3 (refName loc l2) (by simp only [go_sem]) rfl ?_
        cases hc : nameB loc with
        | false =>
          simp (config := { decide := true }) only [go_sem, Int.reduceToNat, Nat.reduceAdd, Nat.reduceSub, Nat.reduceMul, Nat.reduceBEq, reduceIte, reduceCtorEq]
          simp [rb]
        | true =>
          simp (config := { decide := true }) only [go_sem, Int.reduceToNat, Nat.reduceAdd, Nat.reduceSub, Nat.reduceMul, Nat.reduceBEq, reduceIte, reduceCtorEq]
          cases fa with
          | false =>
            by_cases hf : lab = []
            · simp (config := { decide := true }) only [go_sem, Int.reduceToNat, Nat.reduceAdd, Nat.reduceSub, Nat.reduceMul, Nat.reduceBEq, reduceIte, reduceCtorEq, hf]
              cases fn with
              | false =>
                by_cases hg : n = 0
                · simp (config := { decide := true }) only [go_sem, Int.reduceToNat, Nat.reduceAdd, Nat.reduceSub, Nat.reduceMul, Nat.reduceBEq, reduceIte, reduceCtorEq, hg]
                  simp [rb, hg, ha2, hf]
                · simp (config := { decide := true }) only [go_sem, Int.reduceToNat, Nat.reduceAdd, Nat.reduceSub, Nat.reduceMul, Nat.reduceBEq, reduceIte, reduceCtorEq, hg]
                  simp [rb, hg]
              | true =>
                simp (config := { decide := true }) only [go_sem, Int.reduceToNat, Nat.reduceAdd, Nat.reduceSub, Nat.reduceMul, Nat.reduceBEq, reduceIte, reduceCtorEq]
                simp [rb, ha2, hf]
            · simp (config := { decide := true }) only [go_sem, Int.reduceToNat, Nat.reduceAdd, Nat.reduceSub, Nat.reduceMul, Nat.reduceBEq, reduceIte, reduceCtorEq, hf]
              simp [rb, hf]
          | true =>
            simp (config := { decide := true }) only [go_sem, Int.reduceToNat, Nat.reduceAdd, Nat.reduceSub, Nat.reduceMul, Nat.reduceBEq, reduceIte, reduceCtorEq]
            refine callX_fn 3 (refName lab l3) (by simp only [go_sem]) rfl ?_
            cases he : nameB lab with
            | false =>
              simp (config := { decide := true }) only [go_sem, Int.reduceToNat, Nat.reduceAdd, Nat.reduceSub, Nat.reduceMul, Nat.reduceBEq, reduceIte, reduceCtorEq]
              simp [rb]
            | true =>
              simp (config := { decide := true }) only [go_sem, Int.reduceToNat, Nat.reduceAdd, Nat.reduceSub, Nat.reduceMul, Nat.reduceBEq, reduceIte, reduceCtorEq]
              cases fn with
              | false =>
                by_cases hg : n = 0
                · simp (config := { decide := true }) only [go_sem, Int.reduceToNat, Nat.reduceAdd, Nat.reduceSub, Nat.reduceMul, Nat.reduceBEq, reduceIte, reduceCtorEq, hg]
                  simp [rb, hg, ha2]
                · simp (config := { decide := true }) only [go_sem, Int.reduceToNat, Nat.reduceAdd, Nat.reduceSub, Nat.reduceMul, Nat.reduceBEq, reduceIte, reduceCtorEq, hg]
                  simp [rb, hg]
              | true =>
                simp (config := { decide := true }) only [go_sem, Int.reduceToNat, Nat.reduceAdd, Nat.reduceSub, Nat.reduceMul, Nat.reduceBEq, reduceIte, reduceCtorEq]
                simp [rb, ha2]

theorem refAsked (th : Int) (nm : List UInt8) (n : Int) (hl : nm.length ≤ 1000000) : HFn Tryd.prog 22 [atomV th nm n] (.v (.bool (askedB th nm))) := by
  unfold askedB
  refine HCalls_body (fn := Tryd.f22) 23 [2] (by kernel_rfl) rfl (by kernel_rfl) (HW.run 400 (by kernel_rfl) ?_)
  by_cases h1 : th = -1
  · simp (config := { decide := true }) only [go_sem, Int.reduceToNat, Nat.reduceAdd, Nat.reduceSub, Nat.reduceMul, Nat.reduceBEq, reduceIte, reduceCtorEq, h1]
    refine callX_fn 3 (refName nm hl) (by simp only [go_sem]) rfl ?_
    simp (config := { decide := true }) only [go_sem, Int.reduceToNat, Nat.reduceAdd, Nat.reduceSub, Nat.reduceMul, Nat.reduceBEq, reduceIte, reduceCtorEq]
  · by_cases h2 : 0 ≤ th
    · by_cases h3 : th < 3
      · simp (config := { decide := true }) only [go_sem, Int.reduceToNat, Nat.reduceAdd, Nat.reduceSub, Nat.reduceMul, Nat.reduceBEq, reduceIte, reduceCtorEq, h1, h2, h3]
        refine callX_fn 3 (refReg nm) (by simp only [go_sem]) rfl ?_
        simp (config := { decide := true }) only [go_sem, Int.reduceToNat, Nat.reduceAdd, Nat.reduceSub, Nat.reduceMul, Nat.reduceBEq, reduceIte, reduceCtorEq]
      · simp (config := { decide := true }) only [go_sem, Int.reduceToNat, Nat.reduceAdd, Nat.reduceSub, Nat.reduceMul, Nat.reduceBEq, reduceIte, reduceCtorEq, h1, h2, h3]
        simp [h1, h3]
    · simp (config := { decide := true }) only [go_sem, Int.reduceToNat, Nat.reduceAdd, Nat.reduceSub, Nat.reduceMul, Nat.reduceBEq, reduceIte, reduceCtorEq, h1, h2]
      simp [h1, h2]

theorem asked_minus {th : Int} {nm : List UInt8} (h : askedB th nm = true) : th = -1 ∨ 0 ≤ th := by
  unfold askedB at h
  split at h
  · exact .inl (by assumption)
  · simp only [Bool.and_eq_true, decide_eq_true_eq] at h
    exact .inr h.1.1

theorem refWord (th : Int) (nm : List UInt8) (n : Int) (h1 : inI th) (h2 : inI n) (h3 : nm.length ≤ 1000000) : HFn Tryd.prog 24 [atomV th nm n] (.v (str (wordA th nm n))) := by
  unfold wordA
  refine HCalls_body (fn := Tryd.f24) 24 [2] (by kernel_rfl) rfl (by kernel_rfl) (HW.run 400 (by kernel_rfl) ?_)
  simp (config := { decide := true }) only [go_sem, Int.reduceToNat, Nat.reduceAdd, Nat.reduceSub, Nat.reduceMul, Nat.reduceBEq, reduceIte, reduceCtorEq]
  refine callX_fn 3 (refAsked th nm n h3) (by simp only [go_sem]) rfl ?_
  cases ha : askedB th nm with
  | false =>
    simp (config := { decide := true }) only [go_sem, Int.reduceToNat, Nat.reduceAdd, Nat.reduceSub, Nat.reduceMul, Nat.reduceBEq, reduceIte, reduceCtorEq]
  | true =>
    have l1 := textB_length h1
    have l2 := textB_length h2
    simp (config := { decide := true }) only [go_sem, Int.reduceToNat, Nat.reduceAdd, Nat.reduceSub, Nat.reduceMul, Nat.reduceBEq, reduceIte, reduceCtorEq]
    refine HW.quiet 80 follows (by kernel_rfl) ?_
    simp (config := { decide := true }) only [go_sem, Int.reduceToNat, Nat.reduceAdd, Nat.reduceSub, Nat.reduceMul, Nat.reduceBEq, reduceIte, reduceCtorEq, List.length_append]
    refine ⟨by omega, ?_⟩
    refine callQ_fn 3 (refText n h2) (by simp only [go_sem]) rfl rfl ?_
    by_cases ht : th = -1
    · subst ht
      simp (config := { decide := true }) only [go_sem, Int.reduceToNat, Nat.reduceAdd, Nat.reduceSub, Nat.reduceMul, Nat.reduceBEq, reduceIte, reduceCtorEq, List.length_append]
      omega
    · have ht' : 0 ≤ th := by rcases asked_minus ha with h | h; exact absurd h ht; exact h
      simp (config := { decide := true }) only [go_sem, Int.reduceToNat, Nat.reduceAdd, Nat.reduceSub, Nat.reduceMul, Nat.reduceBEq, reduceIte, reduceCtorEq, ht, ht', List.length_append]
      refine ⟨by omega, ?_⟩
      refine callX_fn 3 (refText th h1) (by simp only [go_sem]) rfl ?_
      simp (config := { decide := true }) only [go_sem, Int.reduceToNat, Nat.reduceAdd, Nat.reduceSub, Nat.reduceMul, Nat.reduceBEq, reduceIte, reduceCtorEq, List.length_append]
      omega
end Go.Proofs.YtcpefnjofekibaaDoor

/- Ops: the document's functions: words of a line, a text's inner part. -/
namespace Go.Proofs.YtcpefnjofekibaaDoor
open Go.RowKit
set_option linter.unusedVariables false
set_option linter.unusedSimpArgs false
set_option maxRecDepth 8000

theorem ops_all {op : Int} (h : 1 ≤ op ∧ op ≤ 11) : op = 1 ∨ op = 2 ∨ op = 3 ∨ op = 4 ∨ op = 5 ∨ op = 6 ∨ op = 7 ∨ op = 8 ∨ op = 9 ∨ op = 10 ∨ op = 11 := by omega

set_option maxHeartbeats 4000000 in
theorem refLineWords (op : Int) (rg loc lab : List UInt8) (n : Int) (l1 : rg.length ≤ 1000000) (l2 : loc.length ≤ 1000000) (l3 : lab.length ≤ 1000000) (hn : inI n) : HFn Tryd.prog 20 [lineV op rg loc lab n] (owStrs (lineW op rg loc lab n)) := by
  unfold lineW
  cases hr : rightB op rg loc lab n with
  | false =>
    rw [if_neg (by simp)]
    refine own_nil ?_
    refine HCalls_body (fn := Tryd.f20) 76 [2] (by kernel_rfl) rfl (by kernel_rfl) (HW.run 400 (by kernel_rfl) ?_)
    simp (config := { decide := true }) only [go_sem, Int.reduceToNat, Nat.reduceAdd, Nat.reduceSub, Nat.reduceMul, Nat.reduceBEq, reduceIte, reduceCtorEq]
    refine callX_fn 3 (refRight op rg loc lab n l1 l2 l3) (by simp only [go_sem]) rfl ?_
    simp (config := { decide := true }) only [go_sem, Int.reduceToNat, Nat.reduceAdd, Nat.reduceSub, Nat.reduceMul, Nat.reduceBEq, reduceIte, reduceCtorEq, hr]
  | true =>
    rw [if_pos rfl]
    rcases ops_all (rightB_op hr) with rfl | rfl | rfl | rfl | rfl | rfl | rfl | rfl | rfl | rfl | rfl
    · refine HCalls_body (fn := Tryd.f20) 76 [2] (by kernel_rfl) rfl (by kernel_rfl) (HW.run 400 (by kernel_rfl) ?_)
      simp (config := { decide := true }) only [go_sem, Int.reduceToNat, Nat.reduceAdd, Nat.reduceSub, Nat.reduceMul, Nat.reduceBEq, reduceIte, reduceCtorEq]
      refine callX_fn 3 (refRight 1 rg loc lab n l1 l2 l3) (by simp only [go_sem]) rfl ?_
      simp (config := { decide := true }) only [go_sem, Int.reduceToNat, Nat.reduceAdd, Nat.reduceSub, Nat.reduceMul, Nat.reduceBEq, reduceIte, reduceCtorEq, hr, List.length_append]
      refine ⟨by omega, by omega, ?_⟩
      refine HW.anyOrder 80 5 follows (by kernel_rfl) ?_
      simp (config := { decide := true }) only [go_sem, Int.reduceToNat, Nat.reduceAdd, Nat.reduceSub, Nat.reduceMul, Nat.reduceBEq, reduceIte, reduceCtorEq]
      refine callQ_fn 3 (refText n hn) (by simp only [go_sem]) rfl rfl ?_
      simp (config := { decide := true }) only [go_sem, Int.reduceToNat, Nat.reduceAdd, Nat.reduceSub, Nat.reduceMul, Nat.reduceBEq, reduceIte, reduceCtorEq]
      rfl
    · refine HCalls_body (fn := Tryd.f20) 76 [2] (by kernel_rfl) rfl (by kernel_rfl) (HW.run 400 (by kernel_rfl) ?_)
      simp (config := { decide := true }) only [go_sem, Int.reduceToNat, Nat.reduceAdd, Nat.reduceSub, Nat.reduceMul, Nat.reduceBEq, reduceIte, reduceCtorEq]
      refine callX_fn 3 (refRight 2 rg loc lab n l1 l2 l3) (by simp only [go_sem]) rfl ?_
      simp (config := { decide := true }) only [go_sem, Int.reduceToNat, Nat.reduceAdd, Nat.reduceSub, Nat.reduceMul, Nat.reduceBEq, reduceIte, reduceCtorEq, hr, List.length_append]
      refine ⟨by omega, by omega, ?_⟩
      rfl
    · refine HCalls_body (fn := Tryd.f20) 76 [2] (by kernel_rfl) rfl (by kernel_rfl) (HW.run 400 (by kernel_rfl) ?_)
      simp (config := { decide := true }) only [go_sem, Int.reduceToNat, Nat.reduceAdd, Nat.reduceSub, Nat.reduceMul, Nat.reduceBEq, reduceIte, reduceCtorEq]
      refine callX_fn 3 (refRight 3 rg loc lab n l1 l2 l3) (by simp only [go_sem]) rfl ?_
      simp (config := { decide := true }) only [go_sem, Int.reduceToNat, Nat.reduceAdd, Nat.reduceSub, Nat.reduceMul, Nat.reduceBEq, reduceIte, reduceCtorEq, hr, List.length_append]
      refine ⟨by omega, by omega, ?_⟩
      rfl
    · refine HCalls_body (fn := Tryd.f20) 76 [2] (by kernel_rfl) rfl (by kernel_rfl) (HW.run 400 (by kernel_rfl) ?_)
      simp (config := { decide := true }) only [go_sem, Int.reduceToNat, Nat.reduceAdd, Nat.reduceSub, Nat.reduceMul, Nat.reduceBEq, reduceIte, reduceCtorEq]
      refine callX_fn 3 (refRight 4 rg loc lab n l1 l2 l3) (by simp only [go_sem]) rfl ?_
      simp (config := { decide := true }) only [go_sem, Int.reduceToNat, Nat.reduceAdd, Nat.reduceSub, Nat.reduceMul, Nat.reduceBEq, reduceIte, reduceCtorEq, hr, List.length_append]
      refine ⟨by omega, by omega, ?_⟩
      refine callX_fn 3 (refText n hn) (by simp only [go_sem]) rfl ?_
      simp (config := { decide := true }) only [go_sem, Int.reduceToNat, Nat.reduceAdd, Nat.reduceSub, Nat.reduceMul, Nat.reduceBEq, reduceIte, reduceCtorEq]
      rfl
    · refine HCalls_body (fn := Tryd.f20) 76 [2] (by kernel_rfl) rfl (by kernel_rfl) (HW.run 400 (by kernel_rfl) ?_)
      simp (config := { decide := true }) only [go_sem, Int.reduceToNat, Nat.reduceAdd, Nat.reduceSub, Nat.reduceMul, Nat.reduceBEq, reduceIte, reduceCtorEq]
      refine callX_fn 3 (refRight 5 rg loc lab n l1 l2 l3) (by simp only [go_sem]) rfl ?_
      simp (config := { decide := true }) only [go_sem, Int.reduceToNat, Nat.reduceAdd, Nat.reduceSub, Nat.reduceMul, Nat.reduceBEq, reduceIte, reduceCtorEq, hr, List.length_append]
      refine ⟨by omega, by omega, ?_⟩
      rfl
    · refine HCalls_body (fn := Tryd.f20) 76 [2] (by kernel_rfl) rfl (by kernel_rfl) (HW.run 400 (by kernel_rfl) ?_)
      simp (config := { decide := true }) only [go_sem, Int.reduceToNat, Nat.reduceAdd, Nat.reduceSub, Nat.reduceMul, Nat.reduceBEq, reduceIte, reduceCtorEq]
      refine callX_fn 3 (refRight 6 rg loc lab n l1 l2 l3) (by simp only [go_sem]) rfl ?_
      simp (config := { decide := true }) only [go_sem, Int.reduceToNat, Nat.reduceAdd, Nat.reduceSub, Nat.reduceMul, Nat.reduceBEq, reduceIte, reduceCtorEq, hr, List.length_append]
      refine ⟨by omega, by omega, ?_⟩
      rfl
    · refine HCalls_body (fn := Tryd.f20) 76 [2] (by kernel_rfl) rfl (by kernel_rfl) (HW.run 400 (by kernel_rfl) ?_)
      simp (config := { decide := true }) only [go_sem, Int.reduceToNat, Nat.reduceAdd, Nat.reduceSub, Nat.reduceMul, Nat.reduceBEq, reduceIte, reduceCtorEq]
      refine callX_fn 3 (refRight 7 rg loc lab n l1 l2 l3) (by simp only [go_sem]) rfl ?_
      simp (config := { decide := true }) only [go_sem, Int.reduceToNat, Nat.reduceAdd, Nat.reduceSub, Nat.reduceMul, Nat.reduceBEq, reduceIte, reduceCtorEq, hr, List.length_append]
      refine ⟨by omega, by omega, ?_⟩
      refine HW.anyOrder 80 5 follows (by kernel_rfl) ?_
      simp (config := { decide := true }) only [go_sem, Int.reduceToNat, Nat.reduceAdd, Nat.reduceSub, Nat.reduceMul, Nat.reduceBEq, reduceIte, reduceCtorEq]
      refine callQ_fn 3 (refText n hn) (by simp only [go_sem]) rfl rfl ?_
      simp (config := { decide := true }) only [go_sem, Int.reduceToNat, Nat.reduceAdd, Nat.reduceSub, Nat.reduceMul, Nat.reduceBEq, reduceIte, reduceCtorEq]
      rfl
    · refine HCalls_body (fn := Tryd.f20) 76 [2] (by kernel_rfl) rfl (by kernel_rfl) (HW.run 400 (by kernel_rfl) ?_)
      simp (config := { decide := true }) only [go_sem, Int.reduceToNat, Nat.reduceAdd, Nat.reduceSub, Nat.reduceMul, Nat.reduceBEq, reduceIte, reduceCtorEq]
      refine callX_fn 3 (refRight 8 rg loc lab n l1 l2 l3) (by simp only [go_sem]) rfl ?_
      simp (config := { decide := true }) only [go_sem, Int.reduceToNat, Nat.reduceAdd, Nat.reduceSub, Nat.reduceMul, Nat.reduceBEq, reduceIte, reduceCtorEq, hr, List.length_append]
      refine ⟨by omega, by omega, ?_⟩
      rfl
    · refine HCalls_body (fn := Tryd.f20) 76 [2] (by kernel_rfl) rfl (by kernel_rfl) (HW.run 400 (by kernel_rfl) ?_)
      simp (config := { decide := true }) only [go_sem, Int.reduceToNat, Nat.reduceAdd, Nat.reduceSub, Nat.reduceMul, Nat.reduceBEq, reduceIte, reduceCtorEq]
      refine callX_fn 3 (refRight 9 rg loc lab n l1 l2 l3) (by simp only [go_sem]) rfl ?_
      simp (config := { decide := true }) only [go_sem, Int.reduceToNat, Nat.reduceAdd, Nat.reduceSub, Nat.reduceMul, Nat.reduceBEq, reduceIte, reduceCtorEq, hr, List.length_append]
      refine ⟨by omega, by omega, ?_⟩
      rfl
    · refine HCalls_body (fn := Tryd.f20) 76 [2] (by kernel_rfl) rfl (by kernel_rfl) (HW.run 400 (by kernel_rfl) ?_)
      simp (config := { decide := true }) only [go_sem, Int.reduceToNat, Nat.reduceAdd, Nat.reduceSub, Nat.reduceMul, Nat.reduceBEq, reduceIte, reduceCtorEq]
      refine callX_fn 3 (refRight 10 rg loc lab n l1 l2 l3) (by simp only [go_sem]) rfl ?_
      simp (config := { decide := true }) only [go_sem, Int.reduceToNat, Nat.reduceAdd, Nat.reduceSub, Nat.reduceMul, Nat.reduceBEq, reduceIte, reduceCtorEq, hr, List.length_append]
      refine ⟨by omega, by omega, ?_⟩
      rfl
    · refine HCalls_body (fn := Tryd.f20) 76 [2] (by kernel_rfl) rfl (by kernel_rfl) (HW.run 400 (by kernel_rfl) ?_)
      simp (config := { decide := true }) only [go_sem, Int.reduceToNat, Nat.reduceAdd, Nat.reduceSub, Nat.reduceMul, Nat.reduceBEq, reduceIte, reduceCtorEq]
      refine callX_fn 3 (refRight 11 rg loc lab n l1 l2 l3) (by simp only [go_sem]) rfl ?_
      simp (config := { decide := true }) only [go_sem, Int.reduceToNat, Nat.reduceAdd, Nat.reduceSub, Nat.reduceMul, Nat.reduceBEq, reduceIte, reduceCtorEq, hr, List.length_append]
      refine ⟨by omega, by omega, by omega, ?_⟩
      rfl

/-- What stands between two others. -/
def innerB (s a b : List UInt8) : List UInt8 :=
  if a.length + b.length < s.length ∧ s.take a.length = a ∧ s.drop (s.length - b.length) = b then (s.take (s.length - b.length)).drop a.length else []

set_option maxHeartbeats 2000000 in
theorem refInner (s a b : List UInt8) (hs : s.length ≤ 1000000) (ha : a.length ≤ 1000000) (hb : b.length ≤ 1000000) : HFn Tryd.prog 27 [.v (str s), .v (str a), .v (str b)] (.v (str (innerB s a b))) := by
  unfold innerB
  refine HCalls_body (fn := Tryd.f27) 43 [6] (by kernel_rfl) rfl (by kernel_rfl) (HW.run 400 (by kernel_rfl) ?_)
  have w1 : IntKind.i64.wrap ((a.length : Int) + (b.length : Int)) = (a.length : Int) + (b.length : Int) := w64 (by omega) (by omega)
  have w2 : IntKind.i64.wrap ((s.length : Int) - (b.length : Int)) = (s.length : Int) - (b.length : Int) := w64 (by omega) (by omega)
  by_cases h1 : a.length + b.length < s.length
  · have c1 : ((s.length : Int) ≤ (a.length : Int) + (b.length : Int)) = False := by simp only [eq_iff_iff, iff_false]; omega
    have t2 : ((s.length : Int) - (b.length : Int)).toNat = s.length - b.length := by omega
    by_cases h2 : s.take a.length = a
    · by_cases h3 : s.drop (s.length - b.length) = b
      · simp (config := { decide := true }) only [go_sem, Int.reduceToNat, Nat.reduceAdd, Nat.reduceSub, Nat.reduceMul, Nat.reduceBEq, reduceIte, reduceCtorEq, w1, w2, c1, t2, h2, h3]
        refine ⟨by omega, ⟨by omega, by omega⟩, ⟨by omega, by omega⟩, ?_⟩
        rw [if_pos h1]
      · simp (config := { decide := true }) only [go_sem, Int.reduceToNat, Nat.reduceAdd, Nat.reduceSub, Nat.reduceMul, Nat.reduceBEq, reduceIte, reduceCtorEq, w1, w2, c1, t2, h2, h3]
        omega
    · simp (config := { decide := true }) only [go_sem, Int.reduceToNat, Nat.reduceAdd, Nat.reduceSub, Nat.reduceMul, Nat.reduceBEq, reduceIte, reduceCtorEq, w1, w2, c1, t2, h2]
      omega
  · have c1 : ((s.length : Int) ≤ (a.length : Int) + (b.length : Int)) = True := by simp only [eq_iff_iff, iff_true]; omega
    simp (config := { decide := true }) only [go_sem, Int.reduceToNat, Nat.reduceAdd, Nat.reduceSub, Nat.reduceMul, Nat.reduceBEq, reduceIte, reduceCtorEq, w1, w2, c1]
    rw [if_neg (fun h => h1 h.1)]
end Go.Proofs.YtcpefnjofekibaaDoor

