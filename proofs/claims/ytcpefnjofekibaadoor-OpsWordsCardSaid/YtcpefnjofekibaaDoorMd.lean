/- Merged: Oy, Oz, Pa, Pb, Pc, Pd. -/
import Derived.Test.YtcpefnjofekibaaDoorMc
import Derived.Test.YtcpefnjofekibaaDoorHiZb
/- Ops: the document's functions: the line of words. -/
namespace Go.Proofs.YtcpefnjofekibaaDoor
open Go.RowKit
set_option linter.unusedVariables false
set_option linter.unusedSimpArgs false
set_option maxRecDepth 8000

/-- A line's cells. -/
def lrow (l : LT) : List HV := [.v (.int .i64 l.op), .v (str l.rg), .v (str l.loc), .v (str l.lab), .v (.int .i64 l.n)]

/-- The lines that words may be. -/
def candB : List (List UInt8) → List LT
  | [k] => [⟨6, [], [], [], 0⟩, ⟨11, [], [], innerB k [] [58], 0⟩]
  | [_, l] => [⟨8, [], [], l, 0⟩, ⟨9, [], [], l, 0⟩, ⟨10, [], [], l, 0⟩]
  | [_, a, b] => [⟨1, a, [], [], (numB b).1⟩, ⟨2, a, innerB b [91] [93], [], 0⟩, ⟨3, b, innerB a [91] [93], [], 0⟩, ⟨4, [], innerB a [91] [93], [], (numB b).1⟩, ⟨5, b, innerB a [91] [93], [], 0⟩, ⟨7, a, [], [], (numB b).1⟩]
  | _ => []

def LT.words (l : LT) : List (List UInt8) := lineW l.op l.rg l.loc l.lab l.n
def goodB (w : List (List UInt8)) (l : LT) : Bool := l.right && decide (l.words = w)
def refGetB (w : List (List UInt8)) : LT × Bool :=
  match (candB w).find? (goodB w) with
  | some l => (l, true)
  | none => (zeroL, false)

/-- Small enough. -/
structure LT.Ok (l : LT) : Prop where
  rg : l.rg.length ≤ 1000000
  loc : l.loc.length ≤ 1000000
  lab : l.lab.length ≤ 1000000
  n : inI l.n

theorem innerB_len (s a b : List UInt8) : (innerB s a b).length ≤ s.length := by
  unfold innerB; split
  · simp; omega
  · simp

theorem numB_inI (s : List UInt8) : inI (numB s).1 := by
  cases h : (numB s).2 with
  | true => exact (numB_true h).1
  | false => rw [numB_false h]; decide

theorem cand_ok {w : List (List UInt8)} (hl : ∀ s ∈ w, s.length ≤ 1000000) : ∀ l ∈ candB w, l.Ok := by
  have h0 : inI 0 := by decide
  match w with
  | [] => intro l h; simp [candB] at h
  | [k] =>
    have hk := hl k (by simp)
    have := innerB_len k [] [58]
    intro l h
    simp only [candB, List.mem_cons, List.not_mem_nil, or_false] at h
    rcases h with rfl | rfl <;> exact ⟨by simp, by simp, by simp only [List.length_nil]; omega, h0⟩
  | [k, l'] =>
    have hk := hl l' (by simp)
    intro l h
    simp only [candB, List.mem_cons, List.not_mem_nil, or_false] at h
    rcases h with rfl | rfl | rfl <;> exact ⟨by simp, by simp, hk, h0⟩
  | [k, a, b] =>
    have ha := hl a (by simp)
    have hb := hl b (by simp)
    have h1 := innerB_len a [91] [93]
    have h2 := innerB_len b [91] [93]
    have h3 := numB_inI b
    intro l h
    simp only [candB, List.mem_cons, List.not_mem_nil, or_false] at h
    rcases h with rfl | rfl | rfl | rfl | rfl | rfl <;> first | exact ⟨by simp only [List.length_nil]; omega, by simp only [List.length_nil]; omega, by simp, h3⟩ | exact ⟨by simp only [List.length_nil]; omega, by simp only [List.length_nil]; omega, by simp, h0⟩
  | _ :: _ :: _ :: _ :: _ => intro l h; simp [candB] at h

theorem find_at {α : Type} {p : α → Bool} {l : List α} {i : Nat} {x : α} (hx : l[i]? = some x) (hp : p x = true) (hn : ∀ (j : Nat) y, j < i → l[j]? = some y → p y = false) : l.find? p = some x := by
  induction l generalizing i with
  | nil => simp at hx
  | cons y t ih =>
    cases i with
    | zero => simp at hx; subst hx; simp [hp]
    | succ i =>
      have h0 := hn 0 y (by omega) rfl
      simp only [List.find?_cons, h0]
      exact ih (by simpa using hx) (fun j z hj hz => hn (j + 1) z (by omega) (by simpa using hz))

theorem find_none' {α : Type} {p : α → Bool} {l : List α} (hn : ∀ (j : Nat) y, l[j]? = some y → p y = false) : l.find? p = none := by
  rw [List.find?_eq_none]
  intro x hx
  obtain ⟨j, hj⟩ := List.mem_iff_getElem?.1 hx
  simp [hn j x hj]

theorem lrow_nm {m : Nat} {cs : List LT} : nmR m (cs.map lrow) = true := by
  induction cs with
  | nil => rfl
  | cons c cs ih => simp [nmR, nmL, nm, lrow, ih]

theorem lrow_rowsLen {cs : List LT} : RowsLen (cs.map lrow) 5 = True := by
  simp only [RowsLen, List.mem_map, eq_iff_iff, iff_true]
  rintro r ⟨c, _, rfl⟩; rfl

/-- What holds at the head of the loop. -/
def GetJ (w : List (List UInt8)) (cs : List LT) (μ : Nat) (T : Nat → HV) (H : Heap) : Prop := ∃ (i : Nat), μ = cs.length - i ∧ i ≤ cs.length ∧ (∀ (j : Nat) y, j < i → cs[j]? = some y → goodB w y = false) ∧ T 0 = .sl (strs w) ∧ T 2 = .pt 0 1 0 0 ∧ T 3 = .v (.bool false) ∧ T 4 = .hd 2 0 cs.length ∧ T 9 = .v (.int .i64 i) ∧
    H = [some ⟨23, 5, [lrow zeroL]⟩, some ⟨23, 5, cs.map lrow⟩, some ⟨23, 5, cs.map lrow⟩]

theorem lineW_len {op : Int} {rg loc lab : List UInt8} {n : Int} (l1 : rg.length ≤ 1000000) (l2 : loc.length ≤ 1000000) (l3 : lab.length ≤ 1000000) (hn : inI n) : (lineW op rg loc lab n).length ≤ 1000000 := by
  unfold lineW
  split
  · unfold wordsO
    repeat' split
    all_goals simp
  · simp

set_option maxHeartbeats 8000000 in
theorem refLineGet1 (k : List UInt8) (hk : k.length ≤ 1000000) : HFn Tryd.prog 13 [.sl (strs [k])] (.tu [lineT (refGetB [k]).1, .v (.bool (refGetB [k]).2)]) := by
  have hok := cand_ok (w := [k]) (by simpa using hk)
  have e : .sl [[.v (str k)]] = HV.sl (strs [k]) := rfl
  unfold refGetB
  rw [← e]
  refine HCalls_bodyC (fn := Tryd.f13) 114 [.cell 2 23, .tmp 3] (by kernel_rfl) rfl rfl (by kernel_rfl) (HW.run 400 (by kernel_rfl) ?_)
  simp (config := { decide := true }) only [go_sem, Int.reduceToNat, Nat.reduceAdd, Nat.reduceSub, Nat.reduceMul, Nat.reduceBEq, reduceIte, reduceCtorEq]
  refine callX_fn 3 (refInner k [] [58] hk (by simp) (by simp)) (by simp only [go_sem]) rfl ?_
  simp (config := { decide := true }) only [go_sem, Int.reduceToNat, Nat.reduceAdd, Nat.reduceSub, Nat.reduceMul, Nat.reduceBEq, reduceIte, reduceCtorEq]
  generalize hw : [k] = w at *
  have hcs : candB w = [⟨6, [], [], [], 0⟩, ⟨11, [], [], innerB k [] [58], 0⟩] := by rw [← hw]; rfl
  have hcl : (candB w).length ≤ 6 := by rw [hcs]; simp
  refine HW.loopG (GetJ w (candB w)) ((candB w).length) ⟨_, _, Ghost.refl, 0, rfl, by omega, by intro j y hj; omega, ?_, rfl, rfl, ?_, rfl, ?_⟩ ?_
  · rw [e]; rfl
  · rw [hcs]; rfl
  · rw [hcs]; rfl
  · generalize candB w = cs at *
    rintro μ T H ⟨i, rfl, hi, hno, h0, h2, h3, h4, h9, rfl⟩
    refine HW.run 400 (by kernel_rfl) ?_
    by_cases hlt : i < cs.length
    · have hlt' : ((i : Nat) : Int) < (cs.length : Int) := by omega
      have hx : cs[i]? = some cs[i] := List.getElem?_eq_getElem hlt
      have hxm : (cs.map lrow)[i]? = some [.v (.int .i64 cs[i].op), .v (str cs[i].rg), .v (str cs[i].loc), .v (str cs[i].lab), .v (.int .i64 cs[i].n)] := by rw [List.getElem?_map, hx]; rfl
      obtain ⟨k1, k2, k3, k4⟩ := hok cs[i] (List.getElem_mem hlt)
      generalize hci : cs[i] = c at *
      have next : goodB w c = false → ∀ (j : Nat) y, j < i + 1 → cs[j]? = some y → goodB w y = false := by
        intro hg j y hj hy
        rcases Nat.lt_or_ge j i with h | h
        · exact hno j y h hy
        · have : j = i := by omega
          subst this; rw [hx] at hy; cases hy
          exact hg
      simp (config := { decide := true }) only [go_sem, Int.reduceToNat, Nat.reduceAdd, Nat.reduceSub, Nat.reduceMul, Nat.reduceBEq, reduceIte, reduceCtorEq, h0, h2, h3, h4, h9, hlt', hxm, lrow_rowsLen, List.length_map]
      refine callX_fn 3 (refRight c.op c.rg c.loc c.lab c.n k1 k2 k3) (by simp only [go_sem]) rfl ?_
      cases hr : rightB c.op c.rg c.loc c.lab c.n with
      | false =>
        simp (config := { decide := true }) only [go_sem, Int.reduceToNat, Nat.reduceAdd, Nat.reduceSub, Nat.reduceMul, Nat.reduceBEq, reduceIte, reduceCtorEq, h0, h2, h3, h4, h9, List.length_map]
        refine ⟨_, _, Ghost.refl, cs.length - (i + 1), by omega, i + 1, rfl, by omega, next (by simp [goodB, LT.right, hr]), ?_, ?_, ?_, ?_, ?_, rfl⟩
        all_goals first | (simp (config := { decide := true }) only [go_sem, Nat.reduceBEq, reduceIte, h0, h2, h3, h4]; done) | (simp (config := { decide := true }) only [go_sem, Nat.reduceBEq, reduceIte]; rw [w64 (by omega) (by omega)]; rfl)
      | true =>
        simp (config := { decide := true }) only [go_sem, Int.reduceToNat, Nat.reduceAdd, Nat.reduceSub, Nat.reduceMul, Nat.reduceBEq, reduceIte, reduceCtorEq, h0, h2, h3, h4, h9, hlt', hxm, lrow_rowsLen, List.length_map]
        refine callX_fn 3 (refLineWords c.op c.rg c.loc c.lab c.n k1 k2 k3 k4) (by simp only [go_sem]) nz_owStrs ?_
        simp (config := { decide := true }) only [go_sem, Int.reduceToNat, Nat.reduceAdd, Nat.reduceSub, Nat.reduceMul, Nat.reduceBEq, reduceIte, reduceCtorEq, h0, h2, h3, h4, h9, owStrs]
        refine callX_fn 3 (refSame (lineW c.op c.rg c.loc c.lab c.n) w (lineW_len k1 k2 k3 k4)) (by simp only [go_sem]) rfl ?_
        by_cases hq : lineW c.op c.rg c.loc c.lab c.n = w
        · have hq' : decide (lineW c.op c.rg c.loc c.lab c.n = w) = true := by simp [hq]
          have hg : goodB w c = true := by simp [goodB, LT.right, LT.words, hr, hq]
          simp (config := { decide := true }) only [go_sem, Int.reduceToNat, Nat.reduceAdd, Nat.reduceSub, Nat.reduceMul, Nat.reduceBEq, reduceIte, reduceCtorEq, h0, h2, h3, h4, h9, hlt', hq', hxm, lrow_rowsLen, List.length_map, lrow]
          rw [find_at hx hg hno]
        · have hq' : decide (lineW c.op c.rg c.loc c.lab c.n = w) = false := by simp [hq]
          have hg : goodB w c = false := by simp [goodB, LT.right, LT.words, hr, hq]
          simp (config := { decide := true }) only [go_sem, Int.reduceToNat, Nat.reduceAdd, Nat.reduceSub, Nat.reduceMul, Nat.reduceBEq, reduceIte, reduceCtorEq, h0, h2, h3, h4, h9, hlt', hq', hxm, lrow_rowsLen, List.length_map]
          refine ⟨_, _, Ghost.trunc [0, 2, 3, 4, 9] 3 (by omega) ?_ ?_, cs.length - (i + 1), by omega, i + 1, rfl, by omega, next hg, ?_, ?_, ?_, ?_, ?_, rfl⟩
          · simp (config := { decide := true }) only [go_sem, Nat.reduceBEq, reduceIte, h0, h2, h3, h4]
          · simp (config := { decide := true }) only [go_sem, Nat.reduceBEq, reduceIte, lrow_nm, lrow]
          all_goals first | (simp (config := { decide := true }) only [go_sem, Nat.reduceBEq, reduceIte, h0, h2, h3, h4]; done) | (simp (config := { decide := true }) only [go_sem, Nat.reduceBEq, reduceIte]; rw [w64 (by omega) (by omega)]; rfl)
    · have hlt' : ¬ ((i : Nat) : Int) < (cs.length : Int) := by omega
      have hil : i = cs.length := by omega
      simp (config := { decide := true }) only [go_sem, Int.reduceToNat, Nat.reduceAdd, Nat.reduceSub, Nat.reduceMul, Nat.reduceBEq, reduceIte, reduceCtorEq, h0, h2, h3, h4, h9, hlt', lrow_rowsLen, List.length_map, lrow]
      rw [find_none' fun j y hy => hno j y (by have := (List.getElem?_eq_some_iff.1 hy).1; omega) hy]
      rfl

set_option maxHeartbeats 8000000 in
theorem refLineGet2 (k l : List UInt8) (hk : k.length ≤ 1000000) (hl : l.length ≤ 1000000) : HFn Tryd.prog 13 [.sl (strs [k, l])] (.tu [lineT (refGetB [k, l]).1, .v (.bool (refGetB [k, l]).2)]) := by
  have hok := cand_ok (w := [k, l]) (by intro s hs; simp at hs; rcases hs with rfl | rfl <;> assumption)
  have e : .sl [[.v (str k)], [.v (str l)]] = HV.sl (strs [k, l]) := rfl
  unfold refGetB
  rw [← e]
  refine HCalls_bodyC (fn := Tryd.f13) 114 [.cell 2 23, .tmp 3] (by kernel_rfl) rfl rfl (by kernel_rfl) (HW.run 400 (by kernel_rfl) ?_)
  simp (config := { decide := true }) only [go_sem, Int.reduceToNat, Nat.reduceAdd, Nat.reduceSub, Nat.reduceMul, Nat.reduceBEq, reduceIte, reduceCtorEq]
  refine HW.anyLate 80 13 follows (by kernel_rfl) (by decide) ?_
  simp (config := { decide := true }) only [go_sem, Int.reduceToNat, Nat.reduceAdd, Nat.reduceSub, Nat.reduceMul, Nat.reduceBEq, reduceIte, reduceCtorEq]
  generalize hw : [k, l] = w at *
  have hcs : candB w = [⟨8, [], [], l, 0⟩, ⟨9, [], [], l, 0⟩, ⟨10, [], [], l, 0⟩] := by rw [← hw]; rfl
  have hcl : (candB w).length ≤ 6 := by rw [hcs]; simp
  refine HW.loopG (GetJ w (candB w)) ((candB w).length) ⟨_, _, Ghost.refl, 0, rfl, by omega, by intro j y hj; omega, ?_, rfl, rfl, ?_, rfl, ?_⟩ ?_
  · rw [e]; rfl
  · rw [hcs]; rfl
  · rw [hcs]; rfl
  · generalize candB w = cs at *
    rintro μ T H ⟨i, rfl, hi, hno, h0, h2, h3, h4, h9, rfl⟩
    refine HW.run 400 (by kernel_rfl) ?_
    by_cases hlt : i < cs.length
    · have hlt' : ((i : Nat) : Int) < (cs.length : Int) := by omega
      have hx : cs[i]? = some cs[i] := List.getElem?_eq_getElem hlt
      have hxm : (cs.map lrow)[i]? = some [.v (.int .i64 cs[i].op), .v (str cs[i].rg), .v (str cs[i].loc), .v (str cs[i].lab), .v (.int .i64 cs[i].n)] := by rw [List.getElem?_map, hx]; rfl
      obtain ⟨k1, k2, k3, k4⟩ := hok cs[i] (List.getElem_mem hlt)
      generalize hci : cs[i] = c at *
      have next : goodB w c = false → ∀ (j : Nat) y, j < i + 1 → cs[j]? = some y → goodB w y = false := by
        intro hg j y hj hy
        rcases Nat.lt_or_ge j i with h | h
        · exact hno j y h hy
        · have : j = i := by omega
          subst this; rw [hx] at hy; cases hy
          exact hg
      simp (config := { decide := true }) only [go_sem, Int.reduceToNat, Nat.reduceAdd, Nat.reduceSub, Nat.reduceMul, Nat.reduceBEq, reduceIte, reduceCtorEq, h0, h2, h3, h4, h9, hlt', hxm, lrow_rowsLen, List.length_map]
      refine callX_fn 3 (refRight c.op c.rg c.loc c.lab c.n k1 k2 k3) (by simp only [go_sem]) rfl ?_
      cases hr : rightB c.op c.rg c.loc c.lab c.n with
      | false =>
        simp (config := { decide := true }) only [go_sem, Int.reduceToNat, Nat.reduceAdd, Nat.reduceSub, Nat.reduceMul, Nat.reduceBEq, reduceIte, reduceCtorEq, h0, h2, h3, h4, h9, List.length_map]
        refine ⟨_, _, Ghost.refl, cs.length - (i + 1), by omega, i + 1, rfl, by omega, next (by simp [goodB, LT.right, hr]), ?_, ?_, ?_, ?_, ?_, rfl⟩
        all_goals first | (simp (config := { decide := true }) only [go_sem, Nat.reduceBEq, reduceIte, h0, h2, h3, h4]; done) | (simp (config := { decide := true }) only [go_sem, Nat.reduceBEq, reduceIte]; rw [w64 (by omega) (by omega)]; rfl)
      | true =>
        simp (config := { decide := true }) only [go_sem, Int.reduceToNat, Nat.reduceAdd, Nat.reduceSub, Nat.reduceMul, Nat.reduceBEq, reduceIte, reduceCtorEq, h0, h2, h3, h4, h9, hlt', hxm, lrow_rowsLen, List.length_map]
        refine callX_fn 3 (refLineWords c.op c.rg c.loc c.lab c.n k1 k2 k3 k4) (by simp only [go_sem]) nz_owStrs ?_
        simp (config := { decide := true }) only [go_sem, Int.reduceToNat, Nat.reduceAdd, Nat.reduceSub, Nat.reduceMul, Nat.reduceBEq, reduceIte, reduceCtorEq, h0, h2, h3, h4, h9, owStrs]
        refine callX_fn 3 (refSame (lineW c.op c.rg c.loc c.lab c.n) w (lineW_len k1 k2 k3 k4)) (by simp only [go_sem]) rfl ?_
        by_cases hq : lineW c.op c.rg c.loc c.lab c.n = w
        · have hq' : decide (lineW c.op c.rg c.loc c.lab c.n = w) = true := by simp [hq]
          have hg : goodB w c = true := by simp [goodB, LT.right, LT.words, hr, hq]
          simp (config := { decide := true }) only [go_sem, Int.reduceToNat, Nat.reduceAdd, Nat.reduceSub, Nat.reduceMul, Nat.reduceBEq, reduceIte, reduceCtorEq, h0, h2, h3, h4, h9, hlt', hq', hxm, lrow_rowsLen, List.length_map, lrow]
          rw [find_at hx hg hno]
        · have hq' : decide (lineW c.op c.rg c.loc c.lab c.n = w) = false := by simp [hq]
          have hg : goodB w c = false := by simp [goodB, LT.right, LT.words, hr, hq]
          simp (config := { decide := true }) only [go_sem, Int.reduceToNat, Nat.reduceAdd, Nat.reduceSub, Nat.reduceMul, Nat.reduceBEq, reduceIte, reduceCtorEq, h0, h2, h3, h4, h9, hlt', hq', hxm, lrow_rowsLen, List.length_map]
          refine ⟨_, _, Ghost.trunc [0, 2, 3, 4, 9] 3 (by omega) ?_ ?_, cs.length - (i + 1), by omega, i + 1, rfl, by omega, next hg, ?_, ?_, ?_, ?_, ?_, rfl⟩
          · simp (config := { decide := true }) only [go_sem, Nat.reduceBEq, reduceIte, h0, h2, h3, h4]
          · simp (config := { decide := true }) only [go_sem, Nat.reduceBEq, reduceIte, lrow_nm, lrow]
          all_goals first | (simp (config := { decide := true }) only [go_sem, Nat.reduceBEq, reduceIte, h0, h2, h3, h4]; done) | (simp (config := { decide := true }) only [go_sem, Nat.reduceBEq, reduceIte]; rw [w64 (by omega) (by omega)]; rfl)
    · have hlt' : ¬ ((i : Nat) : Int) < (cs.length : Int) := by omega
      have hil : i = cs.length := by omega
      simp (config := { decide := true }) only [go_sem, Int.reduceToNat, Nat.reduceAdd, Nat.reduceSub, Nat.reduceMul, Nat.reduceBEq, reduceIte, reduceCtorEq, h0, h2, h3, h4, h9, hlt', lrow_rowsLen, List.length_map, lrow]
      rw [find_none' fun j y hy => hno j y (by have := (List.getElem?_eq_some_iff.1 hy).1; omega) hy]
      rfl

set_option maxHeartbeats 8000000 in
theorem refLineGet3 (k a b : List UInt8) (hk : k.length ≤ 1000000) (ha : a.length ≤ 1000000) (hb : b.length ≤ 1000000) : HFn Tryd.prog 13 [.sl (strs [k, a, b])] (.tu [lineT (refGetB [k, a, b]).1, .v (.bool (refGetB [k, a, b]).2)]) := by
  have hok := cand_ok (w := [k, a, b]) (by intro s hs; simp at hs; rcases hs with rfl | rfl | rfl <;> assumption)
  have e : .sl [[.v (str k)], [.v (str a)], [.v (str b)]] = HV.sl (strs [k, a, b]) := rfl
  unfold refGetB
  rw [← e]
  refine HCalls_bodyC (fn := Tryd.f13) 114 [.cell 2 23, .tmp 3] (by kernel_rfl) rfl rfl (by kernel_rfl) (HW.run 400 (by kernel_rfl) ?_)
  simp (config := { decide := true }) only [go_sem, Int.reduceToNat, Nat.reduceAdd, Nat.reduceSub, Nat.reduceMul, Nat.reduceBEq, reduceIte, reduceCtorEq]
  refine callX_fn 3 (refGet b hb) (by simp only [go_sem]) rfl ?_
  simp (config := { decide := true }) only [go_sem, Int.reduceToNat, Nat.reduceAdd, Nat.reduceSub, Nat.reduceMul, Nat.reduceBEq, reduceIte, reduceCtorEq]
  refine callX_fn 3 (refInner a [91] [93] ha (by simp) (by simp)) (by simp only [go_sem]) rfl ?_
  simp (config := { decide := true }) only [go_sem, Int.reduceToNat, Nat.reduceAdd, Nat.reduceSub, Nat.reduceMul, Nat.reduceBEq, reduceIte, reduceCtorEq]
  refine callX_fn 3 (refInner b [91] [93] hb (by simp) (by simp)) (by simp only [go_sem]) rfl ?_
  simp (config := { decide := true }) only [go_sem, Int.reduceToNat, Nat.reduceAdd, Nat.reduceSub, Nat.reduceMul, Nat.reduceBEq, reduceIte, reduceCtorEq]
  refine HW.anyLate 80 29 follows (by kernel_rfl) (by decide) ?_
  simp (config := { decide := true }) only [go_sem, Int.reduceToNat, Nat.reduceAdd, Nat.reduceSub, Nat.reduceMul, Nat.reduceBEq, reduceIte, reduceCtorEq]
  generalize hw : [k, a, b] = w at *
  have hcs : candB w = [⟨1, a, [], [], (numB b).1⟩, ⟨2, a, innerB b [91] [93], [], 0⟩, ⟨3, b, innerB a [91] [93], [], 0⟩, ⟨4, [], innerB a [91] [93], [], (numB b).1⟩, ⟨5, b, innerB a [91] [93], [], 0⟩, ⟨7, a, [], [], (numB b).1⟩] := by rw [← hw]; rfl
  have hcl : (candB w).length ≤ 6 := by rw [hcs]; simp
  refine HW.loopG (GetJ w (candB w)) ((candB w).length) ⟨_, _, Ghost.refl, 0, rfl, by omega, by intro j y hj; omega, ?_, rfl, rfl, ?_, rfl, ?_⟩ ?_
  · rw [e]; rfl
  · rw [hcs]; rfl
  · rw [hcs]; rfl
  · generalize candB w = cs at *
    rintro μ T H ⟨i, rfl, hi, hno, h0, h2, h3, h4, h9, rfl⟩
    refine HW.run 400 (by kernel_rfl) ?_
    by_cases hlt : i < cs.length
    · have hlt' : ((i : Nat) : Int) < (cs.length : Int) := by omega
      have hx : cs[i]? = some cs[i] := List.getElem?_eq_getElem hlt
      have hxm : (cs.map lrow)[i]? = some [.v (.int .i64 cs[i].op), .v (str cs[i].rg), .v (str cs[i].loc), .v (str cs[i].lab), .v (.int .i64 cs[i].n)] := by rw [List.getElem?_map, hx]; rfl
      obtain ⟨k1, k2, k3, k4⟩ := hok cs[i] (List.getElem_mem hlt)
      generalize hci : cs[i] = c at *
      have next : goodB w c = false → ∀ (j : Nat) y, j < i + 1 → cs[j]? = some y → goodB w y = false := by
        intro hg j y hj hy
        rcases Nat.lt_or_ge j i with h | h
        · exact hno j y h hy
        · have : j = i := by omega
          subst this; rw [hx] at hy; cases hy
          exact hg
      simp (config := { decide := true }) only [go_sem, Int.reduceToNat, Nat.reduceAdd, Nat.reduceSub, Nat.reduceMul, Nat.reduceBEq, reduceIte, reduceCtorEq, h0, h2, h3, h4, h9, hlt', hxm, lrow_rowsLen, List.length_map]
      refine callX_fn 3 (refRight c.op c.rg c.loc c.lab c.n k1 k2 k3) (by simp only [go_sem]) rfl ?_
      cases hr : rightB c.op c.rg c.loc c.lab c.n with
      | false =>
        simp (config := { decide := true }) only [go_sem, Int.reduceToNat, Nat.reduceAdd, Nat.reduceSub, Nat.reduceMul, Nat.reduceBEq, reduceIte, reduceCtorEq, h0, h2, h3, h4, h9, List.length_map]
        refine ⟨_, _, Ghost.refl, cs.length - (i + 1), by omega, i + 1, rfl, by omega, next (by simp [goodB, LT.right, hr]), ?_, ?_, ?_, ?_, ?_, rfl⟩
        all_goals first | (simp (config := { decide := true }) only [go_sem, Nat.reduceBEq, reduceIte, h0, h2, h3, h4]; done) | (simp (config := { decide := true }) only [go_sem, Nat.reduceBEq, reduceIte]; rw [w64 (by omega) (by omega)]; rfl)
      | true =>
        simp (config := { decide := true }) only [go_sem, Int.reduceToNat, Nat.reduceAdd, Nat.reduceSub, Nat.reduceMul, Nat.reduceBEq, reduceIte, reduceCtorEq, h0, h2, h3, h4, h9, hlt', hxm, lrow_rowsLen, List.length_map]
        refine callX_fn 3 (refLineWords c.op c.rg c.loc c.lab c.n k1 k2 k3 k4) (by simp only [go_sem]) nz_owStrs ?_
        simp (config := { decide := true }) only [go_sem, Int.reduceToNat, Nat.reduceAdd, Nat.reduceSub, Nat.reduceMul, Nat.reduceBEq, reduceIte, reduceCtorEq, h0, h2, h3, h4, h9, owStrs]
        refine callX_fn 3 (refSame (lineW c.op c.rg c.loc c.lab c.n) w (lineW_len k1 k2 k3 k4)) (by simp only [go_sem]) rfl ?_
        by_cases hq : lineW c.op c.rg c.loc c.lab c.n = w
        · have hq' : decide (lineW c.op c.rg c.loc c.lab c.n = w) = true := by simp [hq]
          have hg : goodB w c = true := by simp [goodB, LT.right, LT.words, hr, hq]
          simp (config := { decide := true }) only [go_sem, Int.reduceToNat, Nat.reduceAdd, Nat.reduceSub, Nat.reduceMul, Nat.reduceBEq, reduceIte, reduceCtorEq, h0, h2, h3, h4, h9, hlt', hq', hxm, lrow_rowsLen, List.length_map, lrow]
          rw [find_at hx hg hno]
        · have hq' : decide (lineW c.op c.rg c.loc c.lab c.n = w) = false := by simp [hq]
          have hg : goodB w c = false := by simp [goodB, LT.right, LT.words, hr, hq]
          simp (config := { decide := true }) only [go_sem, Int.reduceToNat, Nat.reduceAdd, Nat.reduceSub, Nat.reduceMul, Nat.reduceBEq, reduceIte, reduceCtorEq, h0, h2, h3, h4, h9, hlt', hq', hxm, lrow_rowsLen, List.length_map]
          refine ⟨_, _, Ghost.trunc [0, 2, 3, 4, 9] 3 (by omega) ?_ ?_, cs.length - (i + 1), by omega, i + 1, rfl, by omega, next hg, ?_, ?_, ?_, ?_, ?_, rfl⟩
          · simp (config := { decide := true }) only [go_sem, Nat.reduceBEq, reduceIte, h0, h2, h3, h4]
          · simp (config := { decide := true }) only [go_sem, Nat.reduceBEq, reduceIte, lrow_nm, lrow]
          all_goals first | (simp (config := { decide := true }) only [go_sem, Nat.reduceBEq, reduceIte, h0, h2, h3, h4]; done) | (simp (config := { decide := true }) only [go_sem, Nat.reduceBEq, reduceIte]; rw [w64 (by omega) (by omega)]; rfl)
    · have hlt' : ¬ ((i : Nat) : Int) < (cs.length : Int) := by omega
      have hil : i = cs.length := by omega
      simp (config := { decide := true }) only [go_sem, Int.reduceToNat, Nat.reduceAdd, Nat.reduceSub, Nat.reduceMul, Nat.reduceBEq, reduceIte, reduceCtorEq, h0, h2, h3, h4, h9, hlt', lrow_rowsLen, List.length_map, lrow]
      rw [find_none' fun j y hy => hno j y (by have := (List.getElem?_eq_some_iff.1 hy).1; omega) hy]
      rfl

set_option maxHeartbeats 4000000 in
theorem refLineGet0 (w : List (List UInt8)) (h1 : w.length ≠ 1) (h2 : w.length ≠ 2) (h3 : w.length ≠ 3) (hn : w.length ≤ 1000000) : HFn Tryd.prog 13 [.sl (strs w)] (.tu [lineT (refGetB w).1, .v (.bool (refGetB w).2)]) := by
  have hc : candB w = [] := by
    match w, h1, h2, h3 with
    | [], _, _, _ => rfl
    | [_], h, _, _ => simp at h
    | [_, _], _, h, _ => simp at h
    | [_, _, _], _, _, h => simp at h
    | _ :: _ :: _ :: _ :: _, _, _, _ => rfl
  have hr : refGetB w = (zeroL, false) := by unfold refGetB; rw [hc]; rfl
  rw [hr]
  have e1 : ((w.length : Nat) : Int) ≠ 1 := by omega
  have e2 : ((w.length : Nat) : Int) ≠ 2 := by omega
  have e3 : ((w.length : Nat) : Int) ≠ 3 := by omega
  refine HCalls_bodyC (fn := Tryd.f13) 114 [.cell 2 23, .tmp 3] (by kernel_rfl) rfl rfl (by kernel_rfl) (HW.run 400 (by kernel_rfl) ?_)
  simp (config := { decide := true }) only [go_sem, Int.reduceToNat, Nat.reduceAdd, Nat.reduceSub, Nat.reduceMul, Nat.reduceBEq, reduceIte, reduceCtorEq, e1, e2, e3]
  refine HW.loopG (fun μ T H => T 0 = .sl (strs w) ∧ T 2 = .pt 0 1 0 0 ∧ T 3 = .v (.bool false) ∧ T 4 = .v (.slice none 0 0) ∧ T 9 = .v (.int .i64 0) ∧ H = [some ⟨23, 5, [lrow zeroL]⟩]) 1 ⟨_, _, Ghost.refl, rfl, rfl, rfl, rfl, rfl, rfl⟩ ?_
  rintro μ T H ⟨h0, h2, h3, h4, h9, rfl⟩
  refine HW.run 400 (by kernel_rfl) ?_
  simp (config := { decide := true }) only [go_sem, Int.reduceToNat, Nat.reduceAdd, Nat.reduceSub, Nat.reduceMul, Nat.reduceBEq, reduceIte, reduceCtorEq, h0, h2, h3, h4, h9, lrow]
  rfl

theorem refLineGet (w : List (List UInt8)) (hl : ∀ s ∈ w, s.length ≤ 1000000) (hn : w.length ≤ 1000000) : HFn Tryd.prog 13 [.sl (strs w)] (.tu [lineT (refGetB w).1, .v (.bool (refGetB w).2)]) := by
  match w, hl, hn with
  | [k], hl, hn => exact refLineGet1 k (hl k (by simp))
  | [k, l], hl, hn => exact refLineGet2 k l (hl k (by simp)) (hl l (by simp))
  | [k, a, b], hl, hn => exact refLineGet3 k a b (hl k (by simp)) (hl a (by simp)) (hl b (by simp))
  | [], hl, hn => exact refLineGet0 [] (by simp) (by simp) (by simp) hn
  | k :: a :: b :: c :: r, hl, hn => exact refLineGet0 _ (by simp) (by simp) (by simp) hn
end Go.Proofs.YtcpefnjofekibaaDoor

/- Ops: the document's functions: the atom of a word. -/
namespace Go.Proofs.YtcpefnjofekibaaDoor
open Go.RowKit
set_option linter.unusedVariables false
set_option linter.unusedSimpArgs false
set_option maxRecDepth 8000

/-- The atom of what stands ahead of the number, as the document has it. -/
def headR (p : List UInt8) (n : Int) : AT :=
  if 2 < p.length ∧ p[1]? = some 58 then ⟨((p.headD 0).toNat : Int) - 48, p.drop 2, n⟩ else ⟨-1, p, n⟩

def refAtomB (s : List UInt8) : AT × Bool :=
  if (Lib.cut s [61]).2.2 = true ∧ (numB (Lib.cut s [61]).2.1).2 = true ∧ wordA (headR (Lib.cut s [61]).1 (numB (Lib.cut s [61]).2.1).1).th (headR (Lib.cut s [61]).1 (numB (Lib.cut s [61]).2.1).1).nm (numB (Lib.cut s [61]).2.1).1 = s
  then (headR (Lib.cut s [61]).1 (numB (Lib.cut s [61]).2.1).1, true) else (zeroA, false)

theorem cut_at {s : List UInt8} {c : UInt8} {i : Nat} (h : s[i]? = some c) (hn : ∀ j, j < i → s[j]? ≠ some c) : Lib.cut s [c] = (s.take i, s.drop (i + 1), true) := by
  rcases cut1 c s with ⟨p, r, rfl, hp, hc⟩ | ⟨hno, _⟩
  · have hl : p.length = i := by
      rcases Nat.lt_trichotomy p.length i with h' | h' | h'
      · exact absurd (by simp) (hn p.length h')
      · exact h'
      · rw [List.getElem?_append_left h'] at h
        exact absurd (List.mem_of_getElem? h) hp
    subst hl
    rw [hc]; simp
  · exact absurd (List.mem_of_getElem? h) hno

theorem cut_none {s : List UInt8} {c : UInt8} (hn : ∀ j, j < s.length → s[j]? ≠ some c) : (Lib.cut s [c]).2.2 = false := by
  rcases cut1 c s with ⟨p, r, rfl, hp, hc⟩ | ⟨hno, hc⟩
  · exact absurd (by simp) (hn p.length (by simp))
  · rw [hc]

theorem byte_61 {b : UInt8} : ((b.toNat : Int) = 61) = (b = 61) := by
  have : ((61 : UInt8).toNat : Int) = 61 := rfl
  rw [← this, byteEq]
theorem byte_58 {b : UInt8} : ((b.toNat : Int) = 58) = (b = 58) := by
  have : ((58 : UInt8).toNat : Int) = 58 := rfl
  rw [← this, byteEq]

set_option maxHeartbeats 8000000 in
theorem refAtom (s : List UInt8) (hs : s.length ≤ 1000000) : HFn Tryd.prog 15 [.v (str s)] (.tu [atomT (refAtomB s).1, .v (.bool (refAtomB s).2)]) := by
  refine HCalls_bodyC (fn := Tryd.f15) 59 [.cell 2 26, .tmp 3] (by kernel_rfl) rfl rfl (by kernel_rfl) (HW.run 400 (by kernel_rfl) ?_)
  simp (config := { decide := true }) only [go_sem, Int.reduceToNat, Nat.reduceAdd, Nat.reduceSub, Nat.reduceMul, Nat.reduceBEq, reduceIte, reduceCtorEq]
  refine HW.loopG (fun μ T H => ∃ (i : Nat), μ = s.length - i ∧ i ≤ s.length ∧ (∀ j, j < i → s[j]? ≠ some 61) ∧ T 0 = .v (str s) ∧ T 2 = .pt 0 1 0 0 ∧ T 3 = .v (.bool false) ∧ T 4 = .v (.int .i64 i) ∧
    H = [some ⟨26, 3, [[.v (.int .i64 0), .v (str []), .v (.int .i64 0)]]⟩]) s.length ⟨_, _, Ghost.refl, 0, rfl, by omega, by intro j hj; omega, rfl, rfl, rfl, rfl, rfl⟩ ?_
  rintro μ T H ⟨i, rfl, hi, hno, h0, h2, h3, h4, rfl⟩
  refine HW.run 400 (by kernel_rfl) ?_
  by_cases hlt : i < s.length
  · have hlt' : (i : Int) < (s.length : Int) := by omega
    have hx : s[i]? = some s[i] := List.getElem?_eq_getElem hlt
    by_cases hq : s[i] = 61
    · have hq' : ((s[i].toNat : Int) = 61) = True := by rw [byte_61]; simp [hq]
      have w1 : IntKind.i64.wrap ((i : Int) + 1) = (i : Int) + 1 := w64 (by omega) (by omega)
      have t1 : ((i : Int) + 1).toNat = i + 1 := by omega
      have hcut := cut_at (by rw [hx, hq]) hno
      have hrl : (s.drop (i + 1)).length ≤ 1000000 := by rw [List.length_drop]; omega
      simp (config := { decide := true }) only [go_sem, Int.reduceToNat, Nat.reduceAdd, Nat.reduceSub, Nat.reduceMul, Nat.reduceBEq, reduceIte, reduceCtorEq, h0, h2, h3, h4, hlt', hx, hq', w1, t1, List.take_length]
      refine ⟨by omega, ?_⟩
      refine callX_fn 3 (refGet (s.drop (i + 1)) hrl) (by simp only [go_sem]) rfl ?_
      have hpl : (s.take i).length = i := by rw [List.length_take]; omega
      have hnl : inI (numB (s.drop (i + 1))).1 := numB_inI _
      have key : ∀ (a : AT), headR (s.take i) (numB (s.drop (i + 1))).1 = a → refAtomB s = if (numB (s.drop (i + 1))).2 = true ∧ wordA a.th a.nm (numB (s.drop (i + 1))).1 = s then (a, true) else (zeroA, false) := by
        intro a ha
        unfold refAtomB
        rw [hcut]
        simp only [ha, true_and]
      by_cases hc : 2 < i ∧ (s.take i)[1]? = some 58
      · obtain ⟨hc1, hc2⟩ := hc
        have hc1' : ((2 : Int) < (i : Int)) = True := by simp only [eq_iff_iff, iff_true]; omega
        obtain ⟨x0, hx0⟩ : ∃ x0, (s.take i)[0]? = some x0 := ⟨_, List.getElem?_eq_getElem (by omega)⟩
        have hh : (s.take i).headD 0 = x0 := by rw [List.headD_eq_head?_getD, List.head?_eq_getElem?, hx0]; rfl
        have hx0l := x0.toNat_lt
        have w2 : IntKind.i64.wrap (IntKind.i64.wrap (x0.toNat : Int) - 48) = (x0.toNat : Int) - 48 := by
          rw [w64 (x := (x0.toNat : Int)) (by omega) (by omega), w64 (by omega) (by omega)]
        have e58 : ((58 : UInt8).toNat : Int) = 58 := rfl
        have hth : inI ((x0.toNat : Int) - 48) := by unfold inI; omega
        have htt : (s.take i).take i = s.take i := by rw [List.take_take, Nat.min_self]
        have hnm : ((s.take i).drop 2).length ≤ 1000000 := by rw [List.length_drop]; omega
        rw [key ⟨(x0.toNat : Int) - 48, (s.take i).drop 2, (numB (s.drop (i + 1))).1⟩ (by unfold headR; rw [hpl, if_pos ⟨hc1, hc2⟩, hh])]
        cases hn : (numB (s.drop (i + 1))).2 with
        | false =>
          rw [if_neg (by simp)]
          simp (config := { decide := true }) only [go_sem, Int.reduceToNat, Nat.reduceAdd, Nat.reduceSub, Nat.reduceMul, Nat.reduceBEq, reduceIte, reduceCtorEq, h0, h2, h3, h4, hlt', hx, hq', w1, t1, hpl, hc1', hc2, hx0, w2, e58, htt]
          exact ⟨by omega, by omega, rfl⟩
        | true =>
          simp (config := { decide := true }) only [go_sem, Int.reduceToNat, Nat.reduceAdd, Nat.reduceSub, Nat.reduceMul, Nat.reduceBEq, reduceIte, reduceCtorEq, h0, h2, h3, h4, hlt', hx, hq', w1, t1, hpl, hc1', hc2, hx0, w2, e58, List.take_length, htt]
          refine ⟨by omega, by omega, ?_⟩
          refine callX_fn 3 (refWord ((x0.toNat : Int) - 48) ((s.take i).drop 2) (numB (s.drop (i + 1))).1 hth hnl hnm) (by simp only [go_sem]) rfl ?_
          by_cases hw : wordA ((x0.toNat : Int) - 48) ((s.take i).drop 2) (numB (s.drop (i + 1))).1 = s
          · rw [if_pos hw]
            simp (config := { decide := true }) only [go_sem, Int.reduceToNat, Nat.reduceAdd, Nat.reduceSub, Nat.reduceMul, Nat.reduceBEq, reduceIte, reduceCtorEq, h0, h2, h3, h4, hw]
            all_goals rfl
          · rw [if_neg hw]
            simp (config := { decide := true }) only [go_sem, Int.reduceToNat, Nat.reduceAdd, Nat.reduceSub, Nat.reduceMul, Nat.reduceBEq, reduceIte, reduceCtorEq, h0, h2, h3, h4, hw]
            all_goals rfl
      · have hth : inI (-1) := by decide
        have hnm : (s.take i).length ≤ 1000000 := by omega
        rw [key ⟨-1, s.take i, (numB (s.drop (i + 1))).1⟩ (by unfold headR; rw [hpl, if_neg hc])]
        by_cases hc1 : 2 < i
        · have hc1' : ((2 : Int) < (i : Int)) = True := by simp only [eq_iff_iff, iff_true]; omega
          obtain ⟨x1, hx1⟩ : ∃ x1, (s.take i)[1]? = some x1 := ⟨_, List.getElem?_eq_getElem (by omega)⟩
          have hx1' : ((x1.toNat : Int) = 58) = False := by rw [byte_58]; simp only [eq_iff_iff, iff_false]; intro h; exact hc ⟨hc1, by rw [hx1, h]⟩
          cases hn : (numB (s.drop (i + 1))).2 with
          | false =>
            rw [if_neg (by simp)]
            simp (config := { decide := true }) only [go_sem, Int.reduceToNat, Nat.reduceAdd, Nat.reduceSub, Nat.reduceMul, Nat.reduceBEq, reduceIte, reduceCtorEq, h0, h2, h3, h4, hlt', hx, hq', w1, t1, hpl, hc1', hx1, hx1']
            exact ⟨by omega, rfl⟩
          | true =>
            simp (config := { decide := true }) only [go_sem, Int.reduceToNat, Nat.reduceAdd, Nat.reduceSub, Nat.reduceMul, Nat.reduceBEq, reduceIte, reduceCtorEq, h0, h2, h3, h4, hlt', hx, hq', w1, t1, hpl, hc1', hx1, hx1']
            refine ⟨by omega, ?_⟩
            refine callX_fn 3 (refWord (-1) (s.take i) (numB (s.drop (i + 1))).1 hth hnl hnm) (by simp only [go_sem]) rfl ?_
            by_cases hw : wordA (-1) (s.take i) (numB (s.drop (i + 1))).1 = s
            · rw [if_pos hw]
              simp (config := { decide := true }) only [go_sem, Int.reduceToNat, Nat.reduceAdd, Nat.reduceSub, Nat.reduceMul, Nat.reduceBEq, reduceIte, reduceCtorEq, h0, h2, h3, h4, hw]
              all_goals rfl
            · rw [if_neg hw]
              simp (config := { decide := true }) only [go_sem, Int.reduceToNat, Nat.reduceAdd, Nat.reduceSub, Nat.reduceMul, Nat.reduceBEq, reduceIte, reduceCtorEq, h0, h2, h3, h4, hw]
              all_goals rfl
        · have hc1' : ((2 : Int) < (i : Int)) = False := by simp only [eq_iff_iff, iff_false]; omega
          cases hn : (numB (s.drop (i + 1))).2 with
          | false =>
            rw [if_neg (by simp)]
            simp (config := { decide := true }) only [go_sem, Int.reduceToNat, Nat.reduceAdd, Nat.reduceSub, Nat.reduceMul, Nat.reduceBEq, reduceIte, reduceCtorEq, h0, h2, h3, h4, hlt', hx, hq', w1, t1, hpl, hc1']
            exact ⟨by omega, rfl⟩
          | true =>
            simp (config := { decide := true }) only [go_sem, Int.reduceToNat, Nat.reduceAdd, Nat.reduceSub, Nat.reduceMul, Nat.reduceBEq, reduceIte, reduceCtorEq, h0, h2, h3, h4, hlt', hx, hq', w1, t1, hpl, hc1']
            refine ⟨by omega, ?_⟩
            refine callX_fn 3 (refWord (-1) (s.take i) (numB (s.drop (i + 1))).1 hth hnl hnm) (by simp only [go_sem]) rfl ?_
            by_cases hw : wordA (-1) (s.take i) (numB (s.drop (i + 1))).1 = s
            · rw [if_pos hw]
              simp (config := { decide := true }) only [go_sem, Int.reduceToNat, Nat.reduceAdd, Nat.reduceSub, Nat.reduceMul, Nat.reduceBEq, reduceIte, reduceCtorEq, h0, h2, h3, h4, hw]
              all_goals rfl
            · rw [if_neg hw]
              simp (config := { decide := true }) only [go_sem, Int.reduceToNat, Nat.reduceAdd, Nat.reduceSub, Nat.reduceMul, Nat.reduceBEq, reduceIte, reduceCtorEq, h0, h2, h3, h4, hw]
              all_goals rfl
    · have hq' : ((s[i].toNat : Int) = 61) = False := by rw [byte_61]; simp [hq]
      simp (config := { decide := true }) only [go_sem, Int.reduceToNat, Nat.reduceAdd, Nat.reduceSub, Nat.reduceMul, Nat.reduceBEq, reduceIte, reduceCtorEq, h0, h2, h3, h4, hlt', hx, hq']
      refine ⟨_, _, Ghost.refl, s.length - (i + 1), by omega, i + 1, rfl, by omega, ?_, ?_, ?_, ?_, ?_, rfl⟩
      · intro j hj hjs
        rcases Nat.lt_or_ge j i with h | h
        · exact hno j h hjs
        · have : j = i := by omega
          subst this; rw [hx] at hjs; exact hq (Option.some.inj hjs)
      all_goals first | (simp (config := { decide := true }) only [go_sem, Nat.reduceBEq, reduceIte, h0, h2, h3]; done) | (simp (config := { decide := true }) only [go_sem, Nat.reduceBEq, reduceIte]; rw [w64 (by omega) (by omega)]; rfl)
  · have hlt' : ¬ (i : Int) < (s.length : Int) := by omega
    have hil : i = s.length := by omega
    simp (config := { decide := true }) only [go_sem, Int.reduceToNat, Nat.reduceAdd, Nat.reduceSub, Nat.reduceMul, Nat.reduceBEq, reduceIte, reduceCtorEq, h0, h2, h3, h4, hlt']
    have hcf := cut_none (s := s) (c := 61) (by rw [← hil]; exact hno)
    unfold refAtomB
    rw [if_neg (fun h => by rw [hcf] at h; simp at h)]
    rfl
end Go.Proofs.YtcpefnjofekibaaDoor

/- Ops: plain laws of lines: words and what is got from them. -/
namespace Go.Proofs.YtcpefnjofekibaaDoor
open Go.RowKit
set_option linter.unusedVariables false
set_option linter.unusedSimpArgs false
set_option maxRecDepth 8000

theorem let_head {b : UInt8} (h : letB b = true) : 97 ≤ b.toNat ∧ b.toNat ≤ 122 := by
  simpa [letB] using h

theorem regB_head {s : List UInt8} (h : 0 ≤ regB s) : ∃ b r, s = b :: r ∧ 97 ≤ b.toNat ∧ b.toNat ≤ 122 := by
  unfold regB at h
  split at h
  · rename_i e; subst e; exact ⟨_, _, rfl, by decide, by decide⟩
  · split at h
    · rename_i e; subst e; exact ⟨_, _, rfl, by decide, by decide⟩
    · split at h
      · rename_i e; subst e; exact ⟨_, _, rfl, by decide, by decide⟩
      · split at h
        · rename_i e; subst e; exact ⟨_, _, rfl, by decide, by decide⟩
        · omega

theorem nameB_hd {s : List UInt8} (h : nameB s = true) : ∃ b r, s = b :: r ∧ 97 ≤ b.toNat ∧ b.toNat ≤ 122 := by
  cases s with
  | nil => simp [nameB, headB] at h
  | cons b r =>
    refine ⟨b, r, rfl, ?_⟩
    simp only [nameB, headB, Bool.and_eq_true] at h
    exact let_head h.1.1.1.1

theorem isDig_iff {b : UInt8} : isDig b = true ↔ 48 ≤ b.toNat ∧ b.toNat ≤ 57 := by simp [isDig]

theorem numB_high {b : UInt8} {r : List UInt8} (h : 58 ≤ b.toNat) : numB (b :: r) = (0, false) := by
  have h45 : b ≠ 45 := by rintro rfl; revert h; decide
  rw [numB_pos (by simp only [List.head?_cons, ne_eq, Option.some.injEq]; exact h45), if_neg]
  rintro ⟨hc, -⟩
  have hd := (canonB_digs hc).1
  simp only [List.all_cons, Bool.and_eq_true] at hd
  have := isDig_iff.mp hd.1
  omega

theorem insB_at (l : List UInt8) : insB (atB l) = l := by
  have h1 : (atB l).getLast? = some 93 := by
    show ([91] ++ l ++ [93] : List UInt8).getLast? = some 93
    rw [List.getLast?_append]; rfl
  have h2 : (atB l).length = l.length + 2 := by simp [atB]
  have h3 : (atB l).head? = some 91 := rfl
  unfold insB
  rw [if_pos ⟨by omega, h3, h1⟩, h2]
  show ((l ++ [93]) : List UInt8).take (l.length + 2 - 2) = l
  rw [Nat.add_sub_cancel, List.take_left]

theorem insB_low {b : UInt8} {r : List UInt8} (h : b ≠ 91) : insB (b :: r) = [] := by
  unfold insB
  rw [if_neg]
  rintro ⟨_, h1, _⟩
  exact h (by simpa using h1)

theorem at_insB {s : List UInt8} (h : insB s ≠ []) : atB (insB s) = s := by
  unfold insB at h ⊢
  by_cases hc : 2 ≤ s.length ∧ s.head? = some 91 ∧ s.getLast? = some 93
  · obtain ⟨h1, h2, h3⟩ := hc
    rw [if_pos ⟨h1, h2, h3⟩]
    rcases s with _ | ⟨x, t⟩
    · simp at h1
    · obtain rfl : x = 91 := by simpa using h2
      rcases List.eq_nil_or_concat t with rfl | ⟨u, y, rfl⟩
      · simp at h1
      · rw [List.concat_eq_append] at h1 h2 h3 ⊢
        have : (91 :: (u ++ [y]) : List UInt8).getLast? = some y := by
          rw [show (91 :: (u ++ [y]) : List UInt8) = (91 :: u) ++ [y] from rfl, List.getLast?_append]; rfl
        rw [this] at h3
        obtain rfl : y = 93 := Option.some.inj h3
        have hl : (91 :: (u ++ [93]) : List UInt8).length - 2 = u.length := by simp
        rw [hl]
        show ([91] : List UInt8) ++ ((u ++ [93]) : List UInt8).take u.length ++ [93] = 91 :: (u ++ [93])
        rw [List.take_left]; rfl
  · rw [if_neg hc] at h; exact absurd rfl h

theorem sufB_colon (l : List UInt8) : sufB (l ++ [58]) [58] = true := by
  rw [sufB_one, List.getLast?_append]; rfl

theorem suf_colon {k : List UInt8} (h : sufB k [58] = true) : k.take (k.length - 1) ++ [58] = k := by
  simp only [sufB, Bool.and_eq_true, decide_eq_true_eq] at h
  have := List.take_append_drop (k.length - 1) k
  have h2 := h.2
  simp only [List.length_singleton] at h2
  rw [h2] at this
  exact this

/-- Which lines are right. -/
inductive Right : LT → Prop
  | imm (rg n) : 0 ≤ regB rg → Right ⟨1, rg, [], [], n⟩
  | load (rg loc) : 0 ≤ regB rg → nameB loc = true → Right ⟨2, rg, loc, [], 0⟩
  | store (rg loc) : 0 ≤ regB rg → nameB loc = true → Right ⟨3, rg, loc, [], 0⟩
  | put (loc n) : nameB loc = true → Right ⟨4, [], loc, [], n⟩
  | xchg (rg loc) : 0 ≤ regB rg → nameB loc = true → Right ⟨5, rg, loc, [], 0⟩
  | fence : Right ⟨6, [], [], [], 0⟩
  | cmp (rg n) : 0 ≤ regB rg → Right ⟨7, rg, [], [], n⟩
  | jmp (lab) : nameB lab = true → Right ⟨8, [], [], lab, 0⟩
  | je (lab) : nameB lab = true → Right ⟨9, [], [], lab, 0⟩
  | jne (lab) : nameB lab = true → Right ⟨10, [], [], lab, 0⟩
  | label (lab) : nameB lab = true → Right ⟨11, [], [], lab, 0⟩

theorem reg_nil : (decide (0 ≤ regB [])) = false := by decide
theorem name_nil : nameB [] = false := by decide

theorem right_iff (l : LT) : l.right = true ↔ Right l := by
  constructor
  · intro h
    obtain ⟨op, rg, loc, lab, n⟩ := l
    have ho : rightB op rg loc lab n = true := h
    rcases ops_all (rightB_op ho) with h' | h' | h' | h' | h' | h' | h' | h' | h' | h' | h' <;> subst h' <;>
      simp only [rightB, rb, hasReg, hasLoc, hasLab, hasN, decide_eq_true_eq, Int.reduceEq, Int.reduceLE, decide_false, decide_true, Bool.or_false, Bool.or_true, Bool.false_or, Bool.true_or, Bool.not_false, Bool.not_true, Bool.false_and, Bool.true_and, Bool.and_true, Bool.and_eq_true] at ho
    · obtain ⟨⟨⟨⟨h1, -⟩, h2⟩, -⟩, h3⟩ := ho; subst h2; subst h3; exact .imm _ _ h1
    · obtain ⟨⟨⟨⟨h1, h2⟩, -⟩, h3⟩, h4⟩ := ho; subst h3; subst h4; exact .load _ _ h1 h2
    · obtain ⟨⟨⟨⟨h1, h2⟩, -⟩, h3⟩, h4⟩ := ho; subst h3; subst h4; exact .store _ _ h1 h2
    · obtain ⟨⟨⟨⟨-, h1⟩, h2⟩, -⟩, h3⟩ := ho; subst h1; subst h3; exact .put _ _ h2
    · obtain ⟨⟨⟨⟨h1, h2⟩, -⟩, h3⟩, h4⟩ := ho; subst h3; subst h4; exact .xchg _ _ h1 h2
    · obtain ⟨⟨⟨⟨⟨⟨-, h1⟩, -⟩, h2⟩, -⟩, h3⟩, h4⟩ := ho; subst h1; subst h2; subst h3; subst h4; exact .fence
    · obtain ⟨⟨⟨⟨h1, -⟩, h2⟩, -⟩, h3⟩ := ho; subst h2; subst h3; exact .cmp _ _ h1
    · obtain ⟨⟨⟨⟨⟨-, h1⟩, -⟩, h2⟩, h3⟩, h4⟩ := ho; subst h1; subst h2; subst h4; exact .jmp _ h3
    · obtain ⟨⟨⟨⟨⟨-, h1⟩, -⟩, h2⟩, h3⟩, h4⟩ := ho; subst h1; subst h2; subst h4; exact .je _ h3
    · obtain ⟨⟨⟨⟨⟨-, h1⟩, -⟩, h2⟩, h3⟩, h4⟩ := ho; subst h1; subst h2; subst h4; exact .jne _ h3
    · obtain ⟨⟨⟨⟨⟨-, h1⟩, -⟩, h2⟩, h3⟩, h4⟩ := ho; subst h1; subst h2; subst h4; exact .label _ h3
  · intro h
    cases h <;> simp_all [LT.right, rightB, rb, hasReg, hasLoc, hasLab, hasN, reg_nil, name_nil]

theorem zero_wrong : zeroL.right = false := by decide

/-- A right line's words, guessed at. -/
theorem guess_words {l : LT} (h : Right l) (hn : inI l.n) : guessB (wordsO l.op l.rg l.loc l.lab l.n) = l := by
  cases h with
  | imm rg n h1 =>
    obtain ⟨b, r, rfl, hb1, hb2⟩ := regB_head h1
    show moveB (b :: r) (textB n) = _
    unfold moveB
    rw [insB_low (by rintro rfl; revert hb1; decide), numB_text hn]; rfl
  | load rg loc h1 h2 =>
    obtain ⟨b, r, rfl, hb1, hb2⟩ := regB_head h1
    show moveB (b :: r) (atB loc) = _
    unfold moveB
    rw [insB_low (by rintro rfl; revert hb1; decide), insB_at, show atB loc = 91 :: (loc ++ [93]) from rfl, numB_high (by decide)]; rfl
  | store rg loc h1 h2 =>
    obtain ⟨b, r, rfl, hb1, hb2⟩ := regB_head h1
    obtain ⟨c, r', rfl, hc1, hc2⟩ := nameB_hd h2
    show moveB (atB (c :: r')) (b :: r) = _
    unfold moveB
    rw [insB_at, numB_high (by omega)]; rfl
  | put loc n h2 =>
    obtain ⟨c, r', rfl, hc1, hc2⟩ := nameB_hd h2
    show moveB (atB (c :: r')) (textB n) = _
    unfold moveB
    rw [insB_at, numB_text hn]; rfl
  | xchg rg loc h1 h2 =>
    show (⟨5, rg, insB (atB loc), [], 0⟩ : LT) = _
    rw [insB_at]
  | fence => decide
  | cmp rg n h1 =>
    show (if (numB (textB n)).2 = true then (⟨7, rg, [], [], (numB (textB n)).1⟩ : LT) else zeroL) = _
    rw [numB_text hn]; rfl
  | jmp lab h => rfl
  | je lab h => rfl
  | jne lab h => rfl
  | label lab h =>
    show guessB [lab ++ [58]] = _
    simp only [guessB, sufB_colon, if_true, List.length_append, List.length_singleton, Nat.add_sub_cancel, List.take_left']

theorem words_ne (l : LT) : wordsO l.op l.rg l.loc l.lab l.n ≠ [] := by
  unfold wordsO
  repeat' split
  all_goals simp

/-- BACK: a right line is got from its words. -/
theorem get_words {l : LT} (h : l.right = true) (hn : inI l.n) : getB l.words = (l, true) := by
  have hr := (right_iff l).mp h
  have hw : l.words = wordsO l.op l.rg l.loc l.lab l.n := if_pos h
  unfold getB
  rw [hw, guess_words hr hn, if_pos ⟨words_ne l, h⟩]

/-- What is got has the words that it was got from. -/
theorem words_get {w : List (List UInt8)} {l : LT} (h : getB w = (l, true)) : l.right = true ∧ l.words = w ∧ inI l.n := by
  unfold getB at h
  by_cases hc : w ≠ [] ∧ (guessB w).right = true
  · rw [if_pos hc] at h
    obtain ⟨rfl, -⟩ := Prod.mk.inj h
    refine ⟨hc.2, ?_⟩
    have hw : (guessB w).words = wordsO (guessB w).op (guessB w).rg (guessB w).loc (guessB w).lab (guessB w).n := if_pos hc.2
    rw [hw]
    have hr := hc.2
    have hz : ∀ {p : Prop}, zeroL.right = true → p := by intro p hh; rw [zero_wrong] at hh; exact absurd hh (by simp)
    have h0 : inI 0 := by decide
    match w with
    | [] => exact absurd rfl hc.1
    | [k] =>
      simp only [guessB] at hr ⊢
      by_cases h1 : sufB k [58] = true
      · rw [if_pos h1]; exact ⟨by show [k.take (k.length - 1) ++ [58]] = [k]; rw [suf_colon h1], h0⟩
      · rw [if_neg h1] at hr ⊢
        by_cases h2 : k = mfenceB
        · rw [if_pos h2]; exact ⟨by show [mfenceB] = [k]; rw [h2], h0⟩
        · rw [if_neg h2] at hr; exact hz hr
    | [k, l'] =>
      simp only [guessB] at hr ⊢
      by_cases h1 : k = jmpB
      · rw [if_pos h1, h1]; exact ⟨rfl, h0⟩
      · rw [if_neg h1] at hr ⊢
        by_cases h2 : k = jeB
        · rw [if_pos h2, h2]; exact ⟨rfl, h0⟩
        · rw [if_neg h2] at hr ⊢
          by_cases h3 : k = jneB
          · rw [if_pos h3, h3]; exact ⟨rfl, h0⟩
          · rw [if_neg h3] at hr; exact hz hr
    | [k, a, b] =>
      simp only [guessB] at hr ⊢
      by_cases h1 : k = movB
      · rw [if_pos h1] at hr ⊢; subst h1
        unfold moveB at hr ⊢
        by_cases ha : insB a ≠ []
        · rw [if_pos ha] at hr ⊢
          by_cases hb : (numB b).2 = true
          · rw [if_pos hb]
            exact ⟨by show [movB, atB (insB a), textB (numB b).1] = _; rw [at_insB ha, (numB_true hb).2], numB_inI b⟩
          · rw [if_neg hb]
            exact ⟨by show [movB, atB (insB a), b] = _; rw [at_insB ha], h0⟩
        · rw [if_neg ha] at hr ⊢
          by_cases hb : (numB b).2 = true
          · rw [if_pos hb]
            exact ⟨by show [movB, a, textB (numB b).1] = _; rw [(numB_true hb).2], numB_inI b⟩
          · rw [if_neg hb] at hr ⊢
            have hne : insB b ≠ [] := by
              have := (right_iff _).mp hr
              cases this with
              | load _ _ _ hn => intro e; rw [e] at hn; exact absurd hn (by decide)
            exact ⟨by show [movB, a, atB (insB b)] = _; rw [at_insB hne], h0⟩
      · rw [if_neg h1] at hr ⊢
        by_cases h2 : k = xchgB
        · rw [if_pos h2] at hr ⊢; subst h2
          have hne : insB a ≠ [] := by
            have := (right_iff _).mp hr
            cases this with
            | xchg _ _ _ hn => intro e; rw [e] at hn; exact absurd hn (by decide)
          exact ⟨by show [xchgB, atB (insB a), b] = _; rw [at_insB hne], h0⟩
        · rw [if_neg h2] at hr ⊢
          by_cases h3 : k = cmpB
          · rw [if_pos h3] at hr ⊢; subst h3
            by_cases hb : (numB b).2 = true
            · rw [if_pos hb]
              exact ⟨by show [cmpB, a, textB (numB b).1] = _; rw [(numB_true hb).2], numB_inI b⟩
            · rw [if_neg hb] at hr; exact hz hr
          · rw [if_neg h3] at hr; exact hz hr
    | _ :: _ :: _ :: _ :: _ => exact hz hr
  · rw [if_neg hc] at h; exact absurd (Prod.mk.inj h).2 (by simp)

theorem get_false {w : List (List UInt8)} (h : (getB w).2 = false) : getB w = (zeroL, false) := by
  unfold getB at h ⊢
  by_cases hc : w ≠ [] ∧ (guessB w).right = true
  · rw [if_pos hc] at h; exact absurd h (by simp)
  · rw [if_neg hc]

/-- APART: unlike right lines have unlike words. -/
theorem words_inj {l m : LT} (hl : l.right = true) (hm : m.right = true) (nl : inI l.n) (nm : inI m.n) (h : l.words = m.words) : l = m := by
  have h1 := get_words hl nl
  rw [h, get_words hm nm] at h1
  exact (Prod.mk.inj h1).1.symm

theorem innerB_at (l : List UInt8) (h : l ≠ []) : innerB (atB l) [91] [93] = l := by
  have hl : 0 < l.length := List.length_pos_iff.mpr h
  have h2 : (atB l).length = l.length + 2 := by simp [atB]
  have h3 : (atB l).drop ((atB l).length - 1) = [93] := by
    rw [h2]; show ((91 :: l) ++ [93] : List UInt8).drop (l.length + 2 - 1) = [93]
    rw [show l.length + 2 - 1 = (91 :: l : List UInt8).length from rfl, List.drop_left]
  unfold innerB
  rw [if_pos ⟨by simp only [List.length_singleton]; omega, rfl, h3⟩]
  simp only [List.length_singleton]
  rw [h2]
  show (((91 :: l) ++ [93] : List UInt8).take (l.length + 2 - 1)).drop 1 = l
  rw [show l.length + 2 - 1 = (91 :: l : List UInt8).length from rfl, List.take_left]; rfl

theorem innerB_colon (l : List UInt8) (h : l ≠ []) : innerB (l ++ [58]) [] [58] = l := by
  have hl : 0 < l.length := List.length_pos_iff.mpr h
  have h2 : (l ++ [58] : List UInt8).length - 1 = l.length := by simp
  unfold innerB
  simp only [List.length_singleton, List.length_nil, h2]
  rw [if_pos ⟨by simp only [List.length_append, List.length_singleton]; omega, rfl, List.drop_left⟩, List.take_left]; rfl

/-- A right line is among those that the document tries on its words. -/
theorem cand_words {l : LT} (h : Right l) (hn : inI l.n) : l ∈ candB (wordsO l.op l.rg l.loc l.lab l.n) := by
  have nn : ∀ {s}, nameB s = true → s ≠ [] := by rintro s hs rfl; exact absurd hs (by decide)
  cases h with
  | imm rg n h1 => simp [wordsO, candB, numB_text hn]
  | load rg loc h1 h2 => simp [wordsO, candB, innerB_at loc (nn h2)]
  | store rg loc h1 h2 => simp [wordsO, candB, innerB_at loc (nn h2)]
  | put loc n h2 => simp [wordsO, candB, innerB_at loc (nn h2), numB_text hn]
  | xchg rg loc h1 h2 => simp [wordsO, candB, innerB_at loc (nn h2)]
  | fence => simp [wordsO, candB]
  | cmp rg n h1 => simp [wordsO, candB, numB_text hn]
  | jmp lab h => simp [wordsO, candB]
  | je lab h => simp [wordsO, candB]
  | jne lab h => simp [wordsO, candB]
  | label lab h => simp [wordsO, candB, innerB_colon lab (nn h)]

/-- TELLS: what words are is the document's. -/
theorem get_ref (w : List (List UInt8)) (hl : ∀ s ∈ w, s.length ≤ 1000000) : getB w = refGetB w := by
  have hcn : ∀ l ∈ candB w, inI l.n := fun l h => (cand_ok hl l h).n
  unfold refGetB
  cases hf : (candB w).find? (goodB w) with
  | some l =>
    have hg : goodB w l = true := List.find?_some hf
    have hm : l ∈ candB w := List.mem_of_find?_eq_some hf
    simp only [goodB, Bool.and_eq_true, decide_eq_true_eq] at hg
    have := get_words hg.1 (hcn l hm)
    rw [hg.2] at this
    rw [this]
  | none =>
    cases hb : (getB w).2 with
    | false => rw [get_false hb]
    | true =>
      obtain ⟨h1, h2, h3⟩ := words_get (w := w) (l := (getB w).1) (by rw [← hb])
      have hm := cand_words ((right_iff _).mp h1) h3
      have hw : (getB w).1.words = wordsO (getB w).1.op (getB w).1.rg (getB w).1.loc (getB w).1.lab (getB w).1.n := if_pos h1
      rw [← hw, h2] at hm
      have := List.find?_eq_none.mp hf _ hm
      simp [goodB, h1, h2] at this
end Go.Proofs.YtcpefnjofekibaaDoor

/- Ops: plain laws of atoms: an atom's word and what is got from it. -/
namespace Go.Proofs.YtcpefnjofekibaaDoor
open Go.RowKit
set_option linter.unusedVariables false
set_option linter.unusedSimpArgs false
set_option maxRecDepth 8000

theorem cut_sep {c : UInt8} {p : List UInt8} (r : List UInt8) (h : c ∉ p) : Lib.cut (p ++ c :: r) [c] = (p, r, true) := by
  have h1 : (p ++ c :: r)[p.length]? = some c := by simp
  rw [cut_at h1 (by
    intro j hj hc
    rw [List.getElem?_append_left hj] at hc
    exact h (List.mem_of_getElem? hc))]
  simp

theorem cut_no {c : UInt8} {s : List UInt8} (h : c ∉ s) : Lib.cut s [c] = (s, [], false) := by
  rcases cut1 c s with ⟨p, r, rfl, _, _⟩ | ⟨_, h2⟩
  · exact absurd (by simp) h
  · exact h2

theorem cut_true {c : UInt8} {s : List UInt8} (h : (Lib.cut s [c]).2.2 = true) : (Lib.cut s [c]).1 ++ c :: (Lib.cut s [c]).2.1 = s := by
  rcases cut1 c s with ⟨p, r, rfl, _, h2⟩ | ⟨_, h2⟩
  · rw [h2]
  · rw [h2] at h; exact absurd h (by simp)

theorem cut_false {c : UInt8} {s : List UInt8} (h : (Lib.cut s [c]).2.2 = false) : Lib.cut s [c] = (s, [], false) := by
  rcases cut1 c s with ⟨p, r, rfl, _, h2⟩ | ⟨_, h2⟩
  · rw [h2] at h; exact absurd h (by simp)
  · exact h2

theorem ldB_in {b : UInt8} (h : ldB b = true) : (97 ≤ b.toNat ∧ b.toNat ≤ 122) ∨ (48 ≤ b.toNat ∧ b.toNat ≤ 57) := by
  simpa [ldB, letB] using h

theorem nameB_ld {s : List UInt8} (h : nameB s = true) : s.all ldB = true := by
  cases s with
  | nil => rfl
  | cons b r =>
    simp only [nameB, headB, Bool.and_eq_true] at h
    simp only [List.all_cons, Bool.and_eq_true]
    exact ⟨by simp [ldB, h.1.1.1.1], h.1.1.1.2⟩

theorem regB_ld {s : List UInt8} (h : 0 ≤ regB s) : s.all ldB = true := by
  unfold regB at h
  split at h
  · rename_i e; subst e; decide
  · split at h
    · rename_i e; subst e; decide
    · split at h
      · rename_i e; subst e; decide
      · split at h
        · rename_i e; subst e; decide
        · omega

/-- What an atom's parts are. -/
theorem asked_nm {th : Int} {nm : List UInt8} (h : askedB th nm = true) : nm ≠ [] ∧ nm.all ldB = true ∧ (th = -1 ∨ th = 0 ∨ th = 1 ∨ th = 2) := by
  unfold askedB at h
  split at h
  · rename_i e
    obtain ⟨b, r, rfl, -⟩ := nameB_hd h
    exact ⟨by simp, nameB_ld h, .inl e⟩
  · simp only [Bool.and_eq_true, decide_eq_true_eq] at h
    obtain ⟨b, r, rfl, -⟩ := regB_head h.2
    exact ⟨by simp, regB_ld h.2, by omega⟩

theorem ld_no {nm : List UInt8} (h : nm.all ldB = true) : (58 : UInt8) ∉ nm ∧ (61 : UInt8) ∉ nm := by
  constructor <;> intro hm <;> exact absurd (List.all_eq_true.mp h _ hm) (by decide)

/-- The word's head: thread and name. -/
def leftA (th : Int) (nm : List UInt8) : List UInt8 := if 0 ≤ th then textB th ++ [58] ++ nm else nm

theorem textB_small {th : Int} (h : th = 0 ∨ th = 1 ∨ th = 2) : textB th = [dig th.natAbs] ∧ (dig th.natAbs).toNat = 48 + th.natAbs ∧ isDig (dig th.natAbs) = true := by
  rcases h with rfl | rfl | rfl
  · exact ⟨by unfold textB; rw [if_neg (by decide)]; exact dB_lt (by decide), by decide, by decide⟩
  · exact ⟨by unfold textB; rw [if_neg (by decide)]; exact dB_lt (by decide), by decide, by decide⟩
  · exact ⟨by unfold textB; rw [if_neg (by decide)]; exact dB_lt (by decide), by decide, by decide⟩

theorem wordA_left {th : Int} {nm : List UInt8} (n : Int) (h : askedB th nm = true) : wordA th nm n = leftA th nm ++ 61 :: textB n := by
  unfold wordA leftA
  rw [if_pos h]
  split <;> simp

theorem left_no {th : Int} {nm : List UInt8} (h : askedB th nm = true) : (61 : UInt8) ∉ leftA th nm := by
  obtain ⟨_, h2, h3⟩ := asked_nm h
  unfold leftA
  split
  · obtain ⟨t1, t2, t3⟩ := textB_small (th := th) (by omega)
    rw [t1]
    simp only [List.mem_append, List.mem_singleton, not_or]
    refine ⟨⟨?_, by decide⟩, (ld_no h2).2⟩
    intro e; rw [← e] at t3; exact absurd t3 (by decide)
  · exact (ld_no h2).2

theorem word_cut {th : Int} {nm : List UInt8} (n : Int) (h : askedB th nm = true) : Lib.cut (wordA th nm n) [61] = (leftA th nm, textB n, true) := by
  rw [wordA_left n h, cut_sep _ (left_no h)]

theorem headA_left {th : Int} {nm : List UInt8} (h : askedB th nm = true) : headA (leftA th nm) = some (th, nm) := by
  obtain ⟨_, h2, h3⟩ := asked_nm h
  unfold leftA headA
  by_cases hth : 0 ≤ th
  · obtain ⟨t1, t2, t3⟩ := textB_small (th := th) (by omega)
    have hi : inI th := by unfold inI; omega
    have hno : (58 : UInt8) ∉ textB th := by rw [t1, List.mem_singleton]; intro e; rw [← e] at t3; exact absurd t3 (by decide)
    have hc : Lib.cut (textB th ++ [58] ++ nm) [58] = (textB th, nm, true) := by
      rw [List.append_assoc]; exact cut_sep nm hno
    rw [if_pos hth, hc]
    simp only [if_true]
    rw [numB_text hi, if_pos ⟨rfl, hth⟩]
  · rw [if_neg hth, cut_no (ld_no h2).1]
    have : th = -1 := by omega
    rw [this]; rfl

theorem headR_left {th : Int} {nm : List UInt8} (n : Int) (h : askedB th nm = true) : headR (leftA th nm) n = ⟨th, nm, n⟩ := by
  obtain ⟨h1, h2, h3⟩ := asked_nm h
  unfold leftA headR
  by_cases hth : 0 ≤ th
  · obtain ⟨t1, t2, t3⟩ := textB_small (th := th) (by omega)
    have hl : 0 < nm.length := List.length_pos_iff.mpr h1
    rw [if_pos hth, t1, if_pos ⟨by simp; omega, rfl⟩]
    show (⟨((dig th.natAbs).toNat : Int) - 48, nm, n⟩ : AT) = _
    rw [t2]
    have : (((48 + th.natAbs : Nat) : Int) - 48) = th := by omega
    rw [this]
  · rw [if_neg hth, if_neg]
    · have : th = -1 := by omega
      rw [this]
    · rintro ⟨_, hc⟩
      exact (ld_no h2).1 (List.mem_of_getElem? hc)

def AT.asked (a : AT) : Bool := askedB a.th a.nm
def AT.word (a : AT) : List UInt8 := wordA a.th a.nm a.n

/-- BACK: an asked atom is got from its word. -/
theorem atom_word {a : AT} (h : a.asked = true) (hn : inI a.n) : atomB a.word = (a, true) := by
  unfold atomB AT.word
  rw [word_cut a.n h, headA_left h]
  simp only []
  rw [numB_text hn, if_pos ⟨rfl, h⟩]

/-- What is got has the word that it was got from. -/
theorem word_atom {s : List UInt8} {a : AT} (h : atomB s = (a, true)) : a.asked = true ∧ a.word = s ∧ inI a.n := by
  unfold atomB at h
  have hno : ∀ {p : Prop}, (zeroA, false) = (a, true) → p := by intro p hh; exact absurd (Prod.mk.inj hh).2 (by simp)
  cases hh : headA (Lib.cut s [61]).1 with
  | none => rw [hh] at h; exact hno h
  | some q =>
    obtain ⟨th, nm⟩ := q
    rw [hh] at h
    simp only [] at h
    by_cases hc : (numB (Lib.cut s [61]).2.1).2 = true ∧ askedB th nm = true
    · rw [if_pos hc] at h
      obtain ⟨rfl, -⟩ := Prod.mk.inj h
      refine ⟨hc.2, ?_, numB_inI _⟩
      show wordA th nm (numB (Lib.cut s [61]).2.1).1 = s
      rw [wordA_left _ hc.2, (numB_true hc.1).2]
      have ht : (Lib.cut s [61]).2.2 = true := by
        cases hf : (Lib.cut s [61]).2.2 with
        | true => rfl
        | false => rw [cut_false hf] at hc; exact absurd hc.1 (show ¬ (numB []).2 = true by decide)
      have hl : leftA th nm = (Lib.cut s [61]).1 := by
        obtain ⟨_, _, h3⟩ := asked_nm hc.2
        unfold headA at hh
        by_cases hd : (Lib.cut (Lib.cut s [61]).1 [58]).2.2 = true
        · rw [if_pos hd] at hh
          split at hh
          · rename_i hg
            obtain ⟨e1, e2⟩ := Prod.mk.inj (Option.some.inj hh)
            have e3 := cut_true hd
            unfold leftA
            rw [← e1, if_pos hg.2, (numB_true hg.1).2, ← e2]
            simpa using e3
          · exact absurd hh (by simp)
        · rw [if_neg hd] at hh
          obtain ⟨e1, e2⟩ := Prod.mk.inj (Option.some.inj hh)
          unfold leftA
          rw [← e1, if_neg (by decide), e2]
      rw [hl]
      exact cut_true ht
    · rw [if_neg hc] at h; exact hno h

theorem atom_false {s : List UInt8} (h : (atomB s).2 = false) : atomB s = (zeroA, false) := by
  unfold atomB at h ⊢
  cases hh : headA (Lib.cut s [61]).1 with
  | none => rfl
  | some q =>
    obtain ⟨th, nm⟩ := q
    rw [hh] at h
    simp only [] at h ⊢
    split at h
    · exact absurd h (by simp)
    · rename_i hc; rw [if_neg hc]

/-- TELLS: what a word is is the document's. -/
theorem atom_ref (s : List UInt8) : atomB s = refAtomB s := by
  by_cases hc : (Lib.cut s [61]).2.2 = true ∧ (numB (Lib.cut s [61]).2.1).2 = true ∧ wordA (headR (Lib.cut s [61]).1 (numB (Lib.cut s [61]).2.1).1).th (headR (Lib.cut s [61]).1 (numB (Lib.cut s [61]).2.1).1).nm (numB (Lib.cut s [61]).2.1).1 = s
  · have hn : (headR (Lib.cut s [61]).1 (numB (Lib.cut s [61]).2.1).1).n = (numB (Lib.cut s [61]).2.1).1 := by unfold headR; split <;> rfl
    unfold refAtomB
    rw [if_pos hc]
    obtain ⟨h1, h2, h3⟩ := hc
    generalize headR (Lib.cut s [61]).1 (numB (Lib.cut s [61]).2.1).1 = a at h3 hn ⊢
    have ha : a.asked = true := by
      cases hb : a.asked with
      | true => rfl
      | false =>
        have hb' : askedB a.th a.nm = false := hb
        unfold wordA at h3
        rw [hb', if_neg (by simp)] at h3
        rw [← h3] at h1
        exact absurd h1 (by decide)
    have := atom_word ha (by rw [hn]; exact numB_inI _)
    unfold AT.word at this
    rw [hn, h3] at this
    exact this
  · cases hb : (atomB s).2 with
    | false => rw [atom_false hb]; unfold refAtomB; rw [if_neg hc]
    | true =>
      exfalso; apply hc
      obtain ⟨h1, h2, h3⟩ := word_atom (s := s) (a := (atomB s).1) (by rw [← hb])
      generalize (atomB s).1 = a at h1 h2 h3
      have h2' : wordA a.th a.nm a.n = s := h2
      have h4 := word_cut a.n h1
      rw [h2'] at h4
      rw [h4]
      simp only [numB_text h3, headR_left _ h1, true_and]
      exact h2'

/-- APART: unlike asked atoms have unlike words. -/
theorem word_inj {a b : AT} (ha : a.asked = true) (hb : b.asked = true) (na : inI a.n) (nb : inI b.n) (h : a.word = b.word) : a = b := by
  have h1 := atom_word ha na
  rw [h, atom_word hb nb] at h1
  exact (Prod.mk.inj h1).1.symm

theorem word_nil (a : AT) : a.word = [] ↔ a.asked = false := by
  constructor
  · intro h
    cases hb : a.asked with
    | false => rfl
    | true =>
      have := wordA_left a.n (th := a.th) (nm := a.nm) hb
      have h' : wordA a.th a.nm a.n = [] := h
      rw [h'] at this
      exact absurd this.symm (by simp)
  · intro h
    have hb : askedB a.th a.nm = false := h
    show wordA a.th a.nm a.n = []
    unfold wordA; rw [hb, if_neg (by simp)]
end Go.Proofs.YtcpefnjofekibaaDoor

/- Ops: what the laws ask first: the sizes, the live question. -/
namespace Go.Proofs.YtcpefnjofekibaaDoor
open Go.RowKit
set_option linter.unusedVariables false
set_option linter.unusedSimpArgs false
set_option maxRecDepth 8000

/-- Is a line too much? -/
def bigL (rg loc lab : List UInt8) : Bool := decide (1000 < rg.length) || decide (1000 < loc.length) || decide (1000 < lab.length)

theorem int_gt (n m : Nat) : ((m : Int) < (n : Int)) = (m < n) := by simp only [eq_iff_iff]; omega

theorem greatLine (op : Int) (rg loc lab : List UInt8) (n : Int) : HFn Tryd.prog 10 [lineV op rg loc lab n] (.v (.bool (bigL rg loc lab))) := by
  have e : ∀ s : List UInt8, ((1000 : Int) < (s.length : Int)) = (1000 < s.length) := fun s => int_gt s.length 1000
  unfold bigL
  by_cases h1 : 1000 < rg.length <;> by_cases h2 : 1000 < loc.length <;> by_cases h3 : 1000 < lab.length <;>
  · refine HCalls_body (fn := Tryd.f10) 19 [2] (by kernel_rfl) rfl (by kernel_rfl) (HW.run 400 (by kernel_rfl) ?_)
    simp (config := { decide := true }) only [go_sem, Int.reduceToNat, Nat.reduceAdd, Nat.reduceSub, Nat.reduceMul, Nat.reduceBEq, reduceIte, reduceCtorEq, e, h1, h2, h3]

/-- Are words too much? -/
def bigW (w : List (List UInt8)) : Bool := (w.take 9).any (fun s => decide (1000 < s.length)) || decide (9 < w.length)

set_option maxHeartbeats 2000000 in
theorem great (w : List (List UInt8)) : HFn Tryd.prog 11 [.sl (strs w)] (.v (.bool (bigW w))) := by
  have e : ∀ s : List UInt8, ((1000 : Int) < (s.length : Int)) = (1000 < s.length) := fun s => int_gt s.length 1000
  refine HCalls_body (fn := Tryd.f11) 23 [2] (by kernel_rfl) rfl (by kernel_rfl) (HW.run 400 (by kernel_rfl) ?_)
  simp (config := { decide := true }) only [go_sem, Int.reduceToNat, Nat.reduceAdd, Nat.reduceSub, Nat.reduceMul, Nat.reduceBEq, reduceIte, reduceCtorEq]
  refine HW.loopG (fun μ T H => ∃ (i : Nat), μ = w.length - i ∧ i ≤ w.length ∧ i ≤ 9 ∧ (∀ j s, j < i → w[j]? = some s → ¬ 1000 < s.length) ∧ T 0 = .sl (strs w) ∧ T 2 = .v (.bool false) ∧ T 3 = .v (.int .i64 i) ∧ H = []) w.length ⟨_, _, Ghost.refl, 0, rfl, by omega, by omega, by intro j s hj; omega, rfl, rfl, rfl, rfl⟩ ?_
  rintro μ T H ⟨i, rfl, hi, hi9, hno, h0, h2, h3, rfl⟩
  refine HW.run 400 (by kernel_rfl) ?_
  have done : (¬ i < w.length ∨ ¬ i < 9) → bigW w = decide (9 < w.length) := by
    intro h
    unfold bigW
    rw [Bool.or_eq_right_iff_imp]
    intro hx
    exfalso
    rw [List.any_eq_true] at hx
    obtain ⟨s, hs, hb⟩ := hx
    obtain ⟨j, hj⟩ := List.getElem?_of_mem hs
    have hj9 : j < 9 := by
      have := (List.getElem?_eq_some_iff.mp hj).1
      rw [List.length_take] at this; omega
    rw [List.getElem?_take_of_lt hj9] at hj
    have hjw := (List.getElem?_eq_some_iff.mp hj).1
    exact hno j s (by omega) hj (by simpa using hb)
  by_cases hlt : i < w.length
  · have hlt' : ((i : Int) < (w.length : Int)) = True := by simp only [eq_iff_iff, iff_true]; omega
    by_cases h9 : i < 9
    · have h9' : ((i : Int) < 9) = True := by simp only [eq_iff_iff, iff_true]; omega
      have hx : w[i]? = some w[i] := List.getElem?_eq_getElem hlt
      by_cases hg : 1000 < w[i].length
      · simp (config := { decide := true }) only [go_sem, Int.reduceToNat, Nat.reduceAdd, Nat.reduceSub, Nat.reduceMul, Nat.reduceBEq, reduceIte, reduceCtorEq, h0, h2, h3, hlt', h9', hx, e, hg, strs_get]
        have : bigW w = true := by
          unfold bigW
          rw [Bool.or_eq_true]
          refine .inl (List.any_eq_true.mpr ⟨w[i], ?_, by simpa using hg⟩)
          have : (w.take 9)[i]? = some w[i] := by rw [List.getElem?_take_of_lt h9, hx]
          exact List.mem_of_getElem? this
        rw [this]
      · simp (config := { decide := true }) only [go_sem, Int.reduceToNat, Nat.reduceAdd, Nat.reduceSub, Nat.reduceMul, Nat.reduceBEq, reduceIte, reduceCtorEq, h0, h2, h3, hlt', h9', hx, e, hg, strs_get]
        refine ⟨_, _, Ghost.refl, w.length - (i + 1), by omega, i + 1, rfl, by omega, by omega, ?_, ?_, ?_, ?_, rfl⟩
        · intro j s hj hjs
          rcases Nat.lt_or_ge j i with h | h
          · exact hno j s h hjs
          · have : j = i := by omega
            subst this; rw [hx] at hjs; rw [← Option.some.inj hjs]; exact hg
        all_goals first | (simp (config := { decide := true }) only [go_sem, Nat.reduceBEq, reduceIte, h0, h2]; done) | (simp (config := { decide := true }) only [go_sem, Nat.reduceBEq, reduceIte]; rw [w64 (by omega) (by omega)]; rfl)
    · have h9' : ((i : Int) < 9) = False := by simp only [eq_iff_iff, iff_false]; omega
      rw [done (.inr h9)]
      simp (config := { decide := true }) only [go_sem, Int.reduceToNat, Nat.reduceAdd, Nat.reduceSub, Nat.reduceMul, Nat.reduceBEq, reduceIte, reduceCtorEq, h0, h2, h3, hlt', h9']
      exact congrArg (fun b => HV.v (.bool b)) (decide_eq_decide.mpr (by omega))
  · have hlt' : ((i : Int) < (w.length : Int)) = False := by simp only [eq_iff_iff, iff_false]; omega
    rw [done (.inl hlt)]
    simp (config := { decide := true }) only [go_sem, Int.reduceToNat, Nat.reduceAdd, Nat.reduceSub, Nat.reduceMul, Nat.reduceBEq, reduceIte, reduceCtorEq, h0, h2, h3, hlt']
    exact congrArg (fun b => HV.v (.bool b)) (decide_eq_decide.mpr (by omega))
theorem small_w {w : List (List UInt8)} (h : bigW w = false) : w.length ≤ 9 ∧ ∀ s ∈ w, s.length ≤ 1000 := by
  unfold bigW at h
  simp only [Bool.or_eq_false_iff, decide_eq_false_iff_not] at h
  obtain ⟨h1, h2⟩ := h
  refine ⟨by omega, fun s hs => ?_⟩
  rw [List.take_of_length_le (by omega), List.any_eq_false] at h1
  have := h1 s hs
  simp only [decide_eq_true_eq] at this
  omega

theorem small_l {rg loc lab : List UInt8} (h : bigL rg loc lab = false) : rg.length ≤ 1000 ∧ loc.length ≤ 1000 ∧ lab.length ≤ 1000 := by
  unfold bigL at h
  simp only [Bool.or_eq_false_iff, decide_eq_false_iff_not] at h
  omega

theorem get_at (w : List (List UInt8)) (r : LT × Bool) (hl : ∀ s ∈ w, s.length ≤ 1000000) (hn : w.length ≤ 1000000) (h : getB w = r) : HFn Tryd.prog 12 [.sl (strs w)] (.tu [lineT r.1, .v (.bool r.2)]) := h ▸ opsGet w hl hn
theorem atom_at (s : List UInt8) (r : AT × Bool) (hs : s.length ≤ 1000000) (h : atomB s = r) : HFn Tryd.prog 14 [.v (str s)] (.tu [atomT r.1, .v (.bool r.2)]) := h ▸ opsAtom s hs
theorem words_atL (op : Int) (rg loc lab : List UInt8) (n : Int) (ws : List (List UInt8)) (hl : loc.length ≤ 1000000) (hl2 : lab.length ≤ 1000000) (hn : inI n) (h : lineW op rg loc lab n = ws) : HFn Tryd.prog 19 [lineV op rg loc lab n] (owStrs ws) := h ▸ opsWords op rg loc lab n hl hl2 hn
theorem right_at (op : Int) (rg loc lab : List UInt8) (n : Int) (b : Bool) (h : rightB op rg loc lab n = b) : HFn Tryd.prog 16 [lineV op rg loc lab n] (.v (.bool b)) := h ▸ opsRight op rg loc lab n
theorem word_atA (th : Int) (nm : List UInt8) (n : Int) (s : List UInt8) (h1 : inI th) (h2 : inI n) (h3 : nm.length ≤ 1000000) (h : wordA th nm n = s) : HFn Tryd.prog 23 [atomV th nm n] (.v (str s)) := h ▸ opsWord th nm n h1 h2 h3
theorem asked_at (th : Int) (nm : List UInt8) (n : Int) (b : Bool) (h : askedB th nm = b) : HFn Tryd.prog 21 [atomV th nm n] (.v (.bool b)) := h ▸ opsAsked th nm n
theorem same_at (a b : List (List UInt8)) (c : Bool) (ha : a.length ≤ 1000000) (h : decide (a = b) = c) : HFn Tryd.prog 18 [.sl (strs a), .sl (strs b)] (.v (.bool c)) := h ▸ refSame a b ha

set_option maxHeartbeats 4000000 in
theorem headPr : HFn Tryd.prog 9 [] (.v (.bool true)) := by
  refine HCalls_body (fn := Tryd.f9) 119 [0] (by kernel_rfl) rfl (by kernel_rfl) (HW.run 400 (by kernel_rfl) ?_)
  simp (config := { decide := true }) only [go_sem, Int.reduceToNat, Nat.reduceAdd, Nat.reduceSub, Nat.reduceMul, Nat.reduceBEq, reduceIte, reduceCtorEq]
  refine callX_fn 3 (get_at [[109, 111, 118], [91, 120, 93], [53]] (⟨4, [], [120], [], 5⟩, true) (by decide) (by decide) (by decide)) (by simp only [go_sem]; rfl) rfl ?_
  simp (config := { decide := true }) only [go_sem, Int.reduceToNat, Nat.reduceAdd, Nat.reduceSub, Nat.reduceMul, Nat.reduceBEq, reduceIte, reduceCtorEq]
  refine callX_fn 3 (get_at [[109, 111, 118], [101, 98, 120], [91, 121, 93]] (⟨2, [101, 98, 120], [121], [], 0⟩, true) (by decide) (by decide) (by decide)) (by simp only [go_sem]; rfl) rfl ?_
  simp (config := { decide := true }) only [go_sem, Int.reduceToNat, Nat.reduceAdd, Nat.reduceSub, Nat.reduceMul, Nat.reduceBEq, reduceIte, reduceCtorEq]
  refine callX_fn 3 (get_at [[108, 58]] (⟨11, [], [], [108], 0⟩, true) (by decide) (by decide) (by decide)) (by simp only [go_sem]; rfl) rfl ?_
  simp (config := { decide := true }) only [go_sem, Int.reduceToNat, Nat.reduceAdd, Nat.reduceSub, Nat.reduceMul, Nat.reduceBEq, reduceIte, reduceCtorEq]
  refine callX_fn 3 (get_at [[109, 111, 118], [91, 120, 93], [91, 121, 93]] (zeroL, false) (by decide) (by decide) (by decide)) (by simp only [go_sem]; rfl) rfl ?_
  simp (config := { decide := true }) only [go_sem, Int.reduceToNat, Nat.reduceAdd, Nat.reduceSub, Nat.reduceMul, Nat.reduceBEq, reduceIte, reduceCtorEq, zeroL]
  refine callX_fn 3 (atom_at [49, 58, 101, 99, 120, 61, 45, 51] (⟨1, [101, 99, 120], -3⟩, true) (by decide) (by decide)) (by simp only [go_sem]) rfl ?_
  simp (config := { decide := true }) only [go_sem, Int.reduceToNat, Nat.reduceAdd, Nat.reduceSub, Nat.reduceMul, Nat.reduceBEq, reduceIte, reduceCtorEq]
  refine callX_fn 3 (atom_at [49, 58, 120, 61, 51] (zeroA, false) (by decide) (by decide)) (by simp only [go_sem]) rfl ?_
  simp (config := { decide := true }) only [go_sem, Int.reduceToNat, Nat.reduceAdd, Nat.reduceSub, Nat.reduceMul, Nat.reduceBEq, reduceIte, reduceCtorEq, zeroA]
  refine callX_fn 3 (words_atL 5 [101, 100, 120] [120] [] 0 [[120, 99, 104, 103], [91, 120, 93], [101, 100, 120]] (by decide) (by decide) (by decide) (by decide)) (by simp only [go_sem]) nz_owStrs ?_
  simp (config := { decide := true }) only [go_sem, Int.reduceToNat, Nat.reduceAdd, Nat.reduceSub, Nat.reduceMul, Nat.reduceBEq, reduceIte, reduceCtorEq, owStrs]
  refine callX_fn 3 (same_at [[120, 99, 104, 103], [91, 120, 93], [101, 100, 120]] [[120, 99, 104, 103], [91, 120, 93], [101, 100, 120]] true (by decide) (by decide)) (by simp only [go_sem]; rfl) rfl ?_
  simp (config := { decide := true }) only [go_sem, Int.reduceToNat, Nat.reduceAdd, Nat.reduceSub, Nat.reduceMul, Nat.reduceBEq, reduceIte, reduceCtorEq]
  refine callX_fn 3 (words_atL 0 [] [] [] 0 [] (by decide) (by decide) (by decide) (by decide)) (by simp only [go_sem]) nz_owStrs ?_
  simp (config := { decide := true }) only [go_sem, Int.reduceToNat, Nat.reduceAdd, Nat.reduceSub, Nat.reduceMul, Nat.reduceBEq, reduceIte, reduceCtorEq, owStrs]
  refine callX_fn 3 (right_at 4 [] [120] [] 5 true (by decide)) (by simp only [go_sem]) rfl ?_
  simp (config := { decide := true }) only [go_sem, Int.reduceToNat, Nat.reduceAdd, Nat.reduceSub, Nat.reduceMul, Nat.reduceBEq, reduceIte, reduceCtorEq]
  refine callX_fn 3 (right_at 6 [] [] [] 1 false (by decide)) (by simp only [go_sem]) rfl ?_
  simp (config := { decide := true }) only [go_sem, Int.reduceToNat, Nat.reduceAdd, Nat.reduceSub, Nat.reduceMul, Nat.reduceBEq, reduceIte, reduceCtorEq]
  have hw : wordA 1 [101, 99, 120] (-3) = [49, 58, 101, 99, 120, 61, 45, 51] := (word_atom (s := [49, 58, 101, 99, 120, 61, 45, 51]) (a := ⟨1, [101, 99, 120], -3⟩) (by decide)).2.1
  refine callX_fn 3 (word_atA 1 [101, 99, 120] (-3) _ (by decide) (by decide) (by decide) hw) (by simp only [go_sem]) rfl ?_
  simp (config := { decide := true }) only [go_sem, Int.reduceToNat, Nat.reduceAdd, Nat.reduceSub, Nat.reduceMul, Nat.reduceBEq, reduceIte, reduceCtorEq]
  refine callX_fn 3 (word_atA 3 [101, 97, 120] 0 [] (by decide) (by decide) (by decide) (by decide)) (by simp only [go_sem]) rfl ?_
  simp (config := { decide := true }) only [go_sem, Int.reduceToNat, Nat.reduceAdd, Nat.reduceSub, Nat.reduceMul, Nat.reduceBEq, reduceIte, reduceCtorEq]
  refine callX_fn 3 (asked_at 1 [101, 99, 120] (-3) true (by decide)) (by simp only [go_sem]) rfl ?_
  simp (config := { decide := true }) only [go_sem, Int.reduceToNat, Nat.reduceAdd, Nat.reduceSub, Nat.reduceMul, Nat.reduceBEq, reduceIte, reduceCtorEq]
  refine callX_fn 3 (asked_at 0 [] 0 false (by decide)) (by simp only [go_sem]) rfl ?_
  simp (config := { decide := true }) only [go_sem, Int.reduceToNat, Nat.reduceAdd, Nat.reduceSub, Nat.reduceMul, Nat.reduceBEq, reduceIte, reduceCtorEq]
end Go.Proofs.YtcpefnjofekibaaDoor

/- Ops: the law on atoms. -/
namespace Go.Proofs.YtcpefnjofekibaaDoor
open Go.RowKit
set_option linter.unusedVariables false
set_option linter.unusedSimpArgs false
set_option maxRecDepth 8000

theorem asked_inI {a : AT} (h : a.asked = true) : inI a.th := by
  obtain ⟨_, _, h3⟩ := asked_nm h
  unfold inI; omega

theorem leftA_len {th : Int} {nm : List UInt8} (h : askedB th nm = true) : (leftA th nm).length ≤ nm.length + 2 := by
  obtain ⟨_, _, h3⟩ := asked_nm h
  unfold leftA
  split
  · obtain ⟨t1, _⟩ := textB_small (th := th) (by omega)
    rw [t1]; simp
  · omega

theorem wordA_len {th : Int} {nm : List UInt8} {n : Int} (hn : inI n) : (wordA th nm n).length ≤ nm.length + 23 := by
  cases h : askedB th nm with
  | true =>
    rw [wordA_left n h, List.length_append, List.length_cons]
    have := leftA_len h
    have := textB_length hn
    omega
  | false =>
    unfold wordA
    rw [h, if_neg (by simp)]; simp

theorem nameB_len8 {s : List UInt8} (h : nameB s = true) : s.length ≤ 8 := by
  simp only [nameB, Bool.and_eq_true, decide_eq_true_eq] at h
  exact h.1.1.2

theorem asked_len {a : AT} (h : a.asked = true) : a.nm.length ≤ 8 := by
  have h' : askedB a.th a.nm = true := h
  unfold askedB at h'
  split at h'
  · exact nameB_len8 h'
  · simp only [Bool.and_eq_true, decide_eq_true_eq] at h'
    have := h'.2
    unfold regB at this
    split at this
    · rename_i e; rw [e]; decide
    · split at this
      · rename_i e; rw [e]; decide
      · split at this
        · rename_i e; rw [e]; decide
        · split at this
          · rename_i e; rw [e]; decide
          · omega

set_option maxHeartbeats 4000000 in
theorem opsAtom_law (th : Int) (nm : List UInt8) (n : Int) (s : List UInt8) (h1 : inI th) (h2 : inI n) : HFn Tryd.prog 5 [atomV th nm n, .v (str s)] (.v (.bool true)) := by
  have e : ∀ s : List UInt8, ((1000 : Int) < (s.length : Int)) = (1000 < s.length) := fun s => int_gt s.length 1000
  refine HCalls_body (fn := Tryd.f5) 71 [4] (by kernel_rfl) rfl (by kernel_rfl) (HW.run 400 (by kernel_rfl) ?_)
  simp (config := { decide := true }) only [go_sem, Int.reduceToNat, Nat.reduceAdd, Nat.reduceSub, Nat.reduceMul, Nat.reduceBEq, reduceIte, reduceCtorEq]
  refine callX_fn 3 (headPr) (by simp only [go_sem]) rfl ?_
  by_cases b1 : 1000 < nm.length
  · simp (config := { decide := true }) only [go_sem, Int.reduceToNat, Nat.reduceAdd, Nat.reduceSub, Nat.reduceMul, Nat.reduceBEq, reduceIte, reduceCtorEq, e, b1]
  · by_cases b2 : 1000 < s.length
    · simp (config := { decide := true }) only [go_sem, Int.reduceToNat, Nat.reduceAdd, Nat.reduceSub, Nat.reduceMul, Nat.reduceBEq, reduceIte, reduceCtorEq, e, b1, b2]
    · simp (config := { decide := true }) only [go_sem, Int.reduceToNat, Nat.reduceAdd, Nat.reduceSub, Nat.reduceMul, Nat.reduceBEq, reduceIte, reduceCtorEq, e, b1, b2]
      refine callX_fn 3 (opsWord th nm n h1 h2 (by omega)) (by simp only [go_sem]) rfl ?_
      cases ha : askedB th nm with
      | false =>
        have hw : wordA th nm n = [] := (word_nil ⟨th, nm, n⟩).mpr ha
        simp (config := { decide := true }) only [go_sem, Int.reduceToNat, Nat.reduceAdd, Nat.reduceSub, Nat.reduceMul, Nat.reduceBEq, reduceIte, reduceCtorEq, hw]
        refine callX_fn 3 (atom_at [] (zeroA, false) (by decide) (by decide)) (by simp only [go_sem]) rfl ?_
        simp (config := { decide := true }) only [go_sem, Int.reduceToNat, Nat.reduceAdd, Nat.reduceSub, Nat.reduceMul, Nat.reduceBEq, reduceIte, reduceCtorEq, zeroA]
        refine callX_fn 3 (asked_at th nm n false ha) (by simp only [go_sem]) rfl ?_
        simp (config := { decide := true }) only [go_sem, Int.reduceToNat, Nat.reduceAdd, Nat.reduceSub, Nat.reduceMul, Nat.reduceBEq, reduceIte, reduceCtorEq]
        cases hb : (atomB s).2 with
        | false =>
          refine callX_fn 3 (atom_at s (zeroA, false) (by omega) (atom_false hb)) (by simp only [go_sem]) rfl ?_
          simp (config := { decide := true }) only [go_sem, Int.reduceToNat, Nat.reduceAdd, Nat.reduceSub, Nat.reduceMul, Nat.reduceBEq, reduceIte, reduceCtorEq, zeroA]
        | true =>
          obtain ⟨y1, y2, y3⟩ := word_atom (s := s) (a := (atomB s).1) (by rw [← hb])
          have hs : atomB s = ((atomB s).1, true) := by rw [← hb]
          generalize (atomB s).1 = y at y1 y2 y3 hs
          have yl := asked_len y1
          refine callX_fn 3 (atom_at s (y, true) (by omega) hs) (by simp only [go_sem]) rfl ?_
          simp (config := { decide := true }) only [go_sem, Int.reduceToNat, Nat.reduceAdd, Nat.reduceSub, Nat.reduceMul, Nat.reduceBEq, reduceIte, reduceCtorEq]
          refine callX_fn 3 (asked_at y.th y.nm y.n true y1) (by simp only [go_sem]) rfl ?_
          simp (config := { decide := true }) only [go_sem, Int.reduceToNat, Nat.reduceAdd, Nat.reduceSub, Nat.reduceMul, Nat.reduceBEq, reduceIte, reduceCtorEq]
          refine callX_fn 3 (word_atA y.th y.nm y.n s (asked_inI y1) y3 (by omega) y2) (by simp only [go_sem]) rfl ?_
          simp (config := { decide := true }) only [go_sem, Int.reduceToNat, Nat.reduceAdd, Nat.reduceSub, Nat.reduceMul, Nat.reduceBEq, reduceIte, reduceCtorEq]
      | true =>
        have hx := atom_word (a := ⟨th, nm, n⟩) ha h2
        have hwl := wordA_len (th := th) (nm := nm) h2
        have hne : wordA th nm n ≠ [] := by
          intro hh
          have := (word_nil ⟨th, nm, n⟩).mp hh
          rw [show (⟨th, nm, n⟩ : AT).asked = true from ha] at this; exact absurd this (by simp)
        simp (config := { decide := true }) only [go_sem, Int.reduceToNat, Nat.reduceAdd, Nat.reduceSub, Nat.reduceMul, Nat.reduceBEq, reduceIte, reduceCtorEq]
        refine callX_fn 3 (atom_at (wordA th nm n) (⟨th, nm, n⟩, true) (by omega) hx) (by simp only [go_sem]) rfl ?_
        simp (config := { decide := true }) only [go_sem, Int.reduceToNat, Nat.reduceAdd, Nat.reduceSub, Nat.reduceMul, Nat.reduceBEq, reduceIte, reduceCtorEq]
        refine callX_fn 3 (asked_at th nm n true ha) (by simp only [go_sem]) rfl ?_
        simp (config := { decide := true }) only [go_sem, Int.reduceToNat, Nat.reduceAdd, Nat.reduceSub, Nat.reduceMul, Nat.reduceBEq, reduceIte, reduceCtorEq, hne]
        cases hb : (atomB s).2 with
        | false =>
          refine callX_fn 3 (atom_at s (zeroA, false) (by omega) (atom_false hb)) (by simp only [go_sem]) rfl ?_
          simp (config := { decide := true }) only [go_sem, Int.reduceToNat, Nat.reduceAdd, Nat.reduceSub, Nat.reduceMul, Nat.reduceBEq, reduceIte, reduceCtorEq, zeroA]
        | true =>
          obtain ⟨y1, y2, y3⟩ := word_atom (s := s) (a := (atomB s).1) (by rw [← hb])
          have hs : atomB s = ((atomB s).1, true) := by rw [← hb]
          generalize (atomB s).1 = y at y1 y2 y3 hs
          have yl := asked_len y1
          refine callX_fn 3 (atom_at s (y, true) (by omega) hs) (by simp only [go_sem]) rfl ?_
          simp (config := { decide := true }) only [go_sem, Int.reduceToNat, Nat.reduceAdd, Nat.reduceSub, Nat.reduceMul, Nat.reduceBEq, reduceIte, reduceCtorEq]
          refine callX_fn 3 (asked_at y.th y.nm y.n true y1) (by simp only [go_sem]) rfl ?_
          simp (config := { decide := true }) only [go_sem, Int.reduceToNat, Nat.reduceAdd, Nat.reduceSub, Nat.reduceMul, Nat.reduceBEq, reduceIte, reduceCtorEq]
          refine callX_fn 3 (word_atA y.th y.nm y.n s (asked_inI y1) y3 (by omega) y2) (by simp only [go_sem]) rfl ?_
          simp (config := { decide := true }) only [go_sem, Int.reduceToNat, Nat.reduceAdd, Nat.reduceSub, Nat.reduceMul, Nat.reduceBEq, reduceIte, reduceCtorEq]
end Go.Proofs.YtcpefnjofekibaaDoor

