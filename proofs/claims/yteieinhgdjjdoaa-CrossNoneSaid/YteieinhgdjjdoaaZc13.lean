/- Parts of the proof: Cq, Cs, Sw, Sr, St, Pb, Pc, Pd, Qb, Yr, Yg, Yh. -/
import Derived.Test.YteieinhgdjjdoaaZc10
import Derived.Test.YteieinhgdjjdoaaZc11
import Derived.Test.YteieinhgdjjdoaaZc09
import Derived.Test.YteieinhgdjjdoaaZc12
import Derived.Test.YteieinhgdjjdoaaZc08
import Derived.Test.YteieinhgdjjdoaaProg
import Derived.Test.YteieinhgdjjdoaaChecked
import Derived.Shelf.Vars
import Derived.KernelRfl
import Derived.ProofKit
import Derived.OpenShut
import Derived.ChangeArms
import Derived.ChangeSlices
import Derived.Test.YteieinhgdjjdoaaZc05
set_option linter.unusedSectionVars false
namespace Go.Proofs.Yteieinhgdjjdoaa
open Go.RowKit
set_option linter.unusedVariables false
set_option linter.unusedSimpArgs false
set_option maxRecDepth 8000
abbrev insH (p : Prg) (g : List Int) (n : Nat) (thr : List (List HV)) : Heap :=
  [some ⟨25, 2, [[.sl (ints p.init), .sl (thrs p.thr)]]⟩, some ⟨25, 2, [[.v (.slice none 0 0), .v (.slice none 0 0)]]⟩,
   some ⟨3, 1, ints p.init⟩, some ⟨25, 2, [[.hd 2 0 p.init.length, .hd 5 0 n]]⟩, some (mapI (keysB g)), some ⟨45, 1, thr⟩]
def trowO (x : List Stp) : List HV := [.ow 44 5 (stps x)]
def thrsO (l : List (List Stp)) : List (List HV) := l.map trowO
theorem thrsO_len {l : List (List Stp)} : (thrsO l).length = l.length := by simp [thrsO]
theorem thrsO_fz {l : List (List Stp)} {k : Nat} {H : Heap} : (thrsO l).map (fun r => r.map (fz k H)) = thrs l := by
  simp only [thrsO, thrs, List.map_map]
  apply List.map_congr_left
  intro x _
  cases k <;> simp only [Function.comp, trowO, trow, List.map_cons, List.map_nil, fz, fzo, stps_fzoR]
theorem thrsO_nmR {m : Nat} : ∀ {l : List (List Stp)}, nmR m (thrsO l) = true
  | [] => rfl
  | x :: l => by
    show nmR m (trowO x :: thrsO l) = true
    simp only [nmR, trowO, nmL, nm, thrsO_nmR, Bool.and_self]
theorem thrsO_rowsLen {l : List (List Stp)} : RowsLen (thrsO l) 1 = True := by
  simp only [RowsLen, thrsO, List.mem_map, eq_iff_iff, iff_true]
  rintro r ⟨a, _, rfl⟩; rfl
theorem thrsO_snoc {l : List (List Stp)} {x : List Stp} : thrsO l ++ [trowO x] = thrsO (l ++ [x]) := by simp [thrsO]
attribute [go_sem] thrsO_fz thrsO_nmR thrsO_rowsLen thrsO_len
set_option maxHeartbeats 8000000 in
theorem slotsInsert (p : Prg) (g : List Int) (hp : RightP p) (hg : g.length ≤ 100000) : HFn Try.prog 40 [prgH p, .sl (ints g)] (prgH (insP p g)) := by
  have hsm := hp.small
  have hl := hsm.thr
  have hi := hsm.init
  refine HFn_bodyF (fn := Try.f40) 3 88 [.cell 4 25] (by kernel_rfl) rfl rfl (by kernel_rfl) (HW.run 400 (by kernel_rfl) ?_)
  simp (config := { decide := true }) only [go_sem, Int.reduceToNat, Nat.reduceAdd, Nat.reduceSub, Nat.reduceMul, Nat.reduceBEq, reduceIte, reduceCtorEq]
  refine callX_nm (cloneInts p.init (by omega)) rfl rfl ?_
  simp (config := { decide := true }) only [go_sem, Int.reduceToNat, Nat.reduceAdd, Nat.reduceSub, Nat.reduceMul, Nat.reduceBEq, reduceIte, reduceCtorEq]
  refine callX_nm (slotsKeys g hg) rfl rfl ?_
  simp (config := { decide := true }) only [go_sem, Int.reduceToNat, Nat.reduceAdd, Nat.reduceSub, Nat.reduceMul, Nat.reduceBEq, reduceIte, reduceCtorEq]
  refine HW.loopG (fun k T H => ∃ (i : Nat), k = p.thr.length - i ∧ i ≤ p.thr.length ∧
    T 5 = .pt 3 1 0 0 ∧ T 4 = .pt 1 1 0 0 ∧ T 6 = .mp 4 ∧ T 7 = .v (.int .i64 (startB p.thr i)) ∧ T 23 = .sl (thrs p.thr) ∧ T 24 = .v (.int .i64 p.thr.length) ∧ T 25 = .v (.int .i64 i) ∧
    H = insH p g i (thrsO (insF g p.thr i))) p.thr.length
    ⟨_, _, (Ghost.cell 3 0 1 (.ow 45 1 []) rfl rfl rfl rfl (Conv.nilOw _ _) (by simp)).trans (Ghost.open 3 0 1), 0, rfl, by omega, rfl, rfl, rfl, rfl, rfl, rfl, rfl, ?_⟩ ?_
  · rfl
  rintro k T H ⟨i, rfl, hi, h5, h4, h6, h7, h23, h24, h25, rfl⟩
  refine HW.run 200 (by kernel_rfl) ?_
  have hsb := startB_le hsm i
  by_cases hlt : i < p.thr.length
  · have hlt' : ((i : Int) < (p.thr.length : Int)) = True := by rw [int_lt]; simp [hlt]
    have hx : p.thr[i]? = some p.thr[i] := List.getElem?_eq_getElem hlt
    have hxl := hsm.len _ (List.getElem_mem hlt)
    have hst : startB p.thr (i + 1) = startB p.thr i + (p.thr[i]).length := by show startB p.thr i + _ = _; rw [hx]; rfl
    have hRx := fun a x h => hp.x i _ hx a x h
    have hF : insF g p.thr (i + 1) = insF g p.thr i ++ [insT g (startB p.thr i) p.thr[i]] := by rw [insF, hx]; rfl
    generalize p.thr[i] = l at hx hxl hst hRx hF
    generalize startB p.thr i = n at hsb hst h7 hF
    simp (config := { decide := true }) only [go_sem, Int.reduceToNat, Nat.reduceAdd, Nat.reduceSub, Nat.reduceMul, Nat.reduceBEq, reduceIte, reduceCtorEq, h5, h4, h6, h7, h23, h24, h25, hlt', hx]
    have hn : n ≤ 3000 := by omega
    refine HW.loopG (fun k T H => ∃ (j : Nat), k = l.length - j ∧ j ≤ l.length ∧
      T 5 = .pt 3 1 0 0 ∧ T 4 = .pt 1 1 0 0 ∧ T 6 = .mp 4 ∧ T 7 = .v (.int .i64 ((n + j : Nat) : Int)) ∧ T 23 = .sl (thrs p.thr) ∧ T 24 = .v (.int .i64 p.thr.length) ∧ T 25 = .v (.int .i64 i) ∧
      T 10 = .hd 6 0 (insR g n (l.take j)).length ∧ T 11 = .hd 7 0 (begL g n j).length ∧ T 29 = .sl (stps l) ∧ T 30 = .v (.int .i64 l.length) ∧ T 31 = .v (.int .i64 j) ∧
      H = insH p g i (thrsO (insF g p.thr i)) ++ [some ⟨44, 5, stps (insR g n (l.take j))⟩, some ⟨3, 1, ints (begL g n j)⟩]) l.length
      ⟨_, _, (Ghost.nil 10 44 5 (by simp (config := { decide := true }) only [go_sem, Nat.reduceBEq, reduceIte])).trans (Ghost.nil 11 3 1 (by simp (config := { decide := true }) only [go_sem, Nat.reduceBEq, reduceIte])), 0, rfl, by omega, ?_, ?_, ?_, ?_, ?_, ?_, ?_, ?_, ?_, ?_, ?_, ?_, ?_⟩ ?_
    iterate 7 simp (config := { decide := true }) only [go_sem, Nat.reduceBEq, reduceIte, h5, h4, h6, h7, h23, h24, h25, Nat.add_zero]
    iterate 2 (simp (config := { decide := true }) only [go_sem, Nat.reduceBEq, reduceIte]; rfl)
    iterate 2 simp (config := { decide := true }) only [go_sem, Nat.reduceBEq, reduceIte]
    · simp (config := { decide := true }) only [go_sem, Nat.reduceBEq, reduceIte]; rfl
    · rfl
    clear h5 h4 h6 h7 h23 h24 h25 T
    rintro k T H ⟨j, rfl, hj, h5, h4, h6, h7, h23, h24, h25, h10, h11, h29, h30, h31, rfl⟩
    refine HW.run 200 (by kernel_rfl) ?_
    have hlr := insR_len g n l j hj
    have hcl := countB_le g n j
    by_cases hjl : j < l.length
    · have hj' : ((j : Int) < (l.length : Int)) = True := by rw [int_lt]; simp [hjl]
      have hy : l[j]? = some l[j] := List.getElem?_eq_getElem hjl
      have htk : l.take (j + 1) = l.take j ++ [l[j]] := by rw [List.take_add_one, hy]; rfl
      have hR2 : insR g n (l.take (j + 1)) = insR g n (l.take j) ++ ((if hasB g ((n + j : Nat) : Int) = true then [fnc] else []) ++ [l[j]]) := by
        rw [htk, insR_snoc, List.length_take, Nat.min_eq_left (by omega)]
      have hb2 := begL_snoc g n j
      rw [← hlr] at hb2
      generalize l[j] = y at hy hR2
      have hpos := getM_keysB_pos g ((n + j : Nat) : Int)
      have hN : n + (j + 1) = (n + j) + 1 := by omega
      generalize insR g n (l.take j) = R at h10 hlr hR2 hb2 ⊢
      have hbl := begL_len (g := g) (a := n) (j := j)
      generalize begL g n j = Bg at h11 hb2 hbl ⊢
      generalize hm : n + j = m at h7 hR2 hpos
      have hmle : m ≤ 4000 := by omega
      have hN2 : ((n + (j + 1) : Nat) : Int) = (m : Int) + 1 := by omega
      by_cases hin : hasB g (m : Int) = true
      · rw [if_pos hin] at hR2
        have hpos' : ((0 : Int) < getM (keysB g) (m : Int)) = True := by rw [hpos]; simpa [hasB] using hin
        simp (config := { decide := true }) only [go_sem, Int.reduceToNat, Nat.reduceAdd, Nat.reduceSub, Nat.reduceMul, Nat.reduceBEq, reduceIte, reduceCtorEq, h5, h4, h6, h7, h23, h24, h25, h10, h11, h29, h30, h31, hj', hy, hpos']
        repeat (with_reducible refine And.intro ?_ ?_; · (with_reducible and_intros) <;> omega)
        have hR3 : R.length + 1 + 1 = (insR g n (l.take (j + 1))).length := by rw [hR2]; simp
        have hB3 : Bg.length + 1 = (begL g n (j + 1)).length := by rw [hb2]; simp
        refine GQ.step (Ghost.trunc [5, 4, 6, 7, 23, 24, 25, 10, 11, 29, 30, 31] 8 (by omega) ?_ ?_) (GQ.done ⟨l.length - (j + 1), by omega, j + 1, rfl, by omega, ?_, ?_, ?_, ?_, ?_, ?_, ?_, ?_, ?_, ?_, ?_, ?_, ?_⟩)
        · simp (config := { decide := true }) only [go_sem, Nat.reduceBEq, reduceIte, h5, h4, h6, h7, h23, h24, h25, h29, h30]
        · simp (config := { decide := true }) only [go_sem, Nat.reduceBEq, reduceIte]
        iterate 3 simp (config := { decide := true }) only [go_sem, Nat.reduceBEq, reduceIte, h5, h4, h6]
        · simp (config := { decide := true }) only [go_sem, Nat.reduceBEq, reduceIte]; rw [w64 (by omega) (by omega), ← hN2]
        iterate 3 simp (config := { decide := true }) only [go_sem, Nat.reduceBEq, reduceIte, h23, h24, h25]
        iterate 2 simp (config := { decide := true }) only [go_sem, Nat.reduceBEq, reduceIte, hR3, hB3]
        iterate 2 simp (config := { decide := true }) only [go_sem, Nat.reduceBEq, reduceIte, h29, h30]
        · simp (config := { decide := true }) only [go_sem, Nat.reduceBEq, reduceIte]; rw [w64 (by omega) (by omega)]; rfl
        · rw [hR2, hb2]
          simp (config := { decide := true }) only [go_sem, Int.reduceToNat, Nat.reduceAdd, Nat.reduceSub, Nat.reduceMul, Nat.reduceBEq, reduceIte, reduceCtorEq]
          simp [stps, fnc, strow]
      · rw [if_neg hin] at hR2
        have hpos' : ((0 : Int) < getM (keysB g) (m : Int)) = False := by rw [hpos]; simpa [hasB] using hin
        simp (config := { decide := true }) only [go_sem, Int.reduceToNat, Nat.reduceAdd, Nat.reduceSub, Nat.reduceMul, Nat.reduceBEq, reduceIte, reduceCtorEq, h5, h4, h6, h7, h23, h24, h25, h10, h11, h29, h30, h31, hj', hy, hpos']
        repeat (with_reducible refine And.intro ?_ ?_; · (with_reducible and_intros) <;> omega)
        have hR3 : R.length + 1 = (insR g n (l.take (j + 1))).length := by rw [hR2]; simp
        have hB3 : Bg.length + 1 = (begL g n (j + 1)).length := by rw [hb2]; simp
        refine GQ.step (Ghost.trunc [5, 4, 6, 7, 23, 24, 25, 10, 11, 29, 30, 31] 8 (by omega) ?_ ?_) (GQ.done ⟨l.length - (j + 1), by omega, j + 1, rfl, by omega, ?_, ?_, ?_, ?_, ?_, ?_, ?_, ?_, ?_, ?_, ?_, ?_, ?_⟩)
        · simp (config := { decide := true }) only [go_sem, Nat.reduceBEq, reduceIte, h5, h4, h6, h7, h23, h24, h25, h29, h30]
        · simp (config := { decide := true }) only [go_sem, Nat.reduceBEq, reduceIte]
        iterate 3 simp (config := { decide := true }) only [go_sem, Nat.reduceBEq, reduceIte, h5, h4, h6]
        · simp (config := { decide := true }) only [go_sem, Nat.reduceBEq, reduceIte]; rw [w64 (by omega) (by omega), ← hN2]
        iterate 3 simp (config := { decide := true }) only [go_sem, Nat.reduceBEq, reduceIte, h23, h24, h25]
        iterate 2 simp (config := { decide := true }) only [go_sem, Nat.reduceBEq, reduceIte, hR3, hB3]
        iterate 2 simp (config := { decide := true }) only [go_sem, Nat.reduceBEq, reduceIte, h29, h30]
        · simp (config := { decide := true }) only [go_sem, Nat.reduceBEq, reduceIte]; rw [w64 (by omega) (by omega)]; rfl
        · rw [hR2, hb2]
          simp (config := { decide := true }) only [go_sem, Int.reduceToNat, Nat.reduceAdd, Nat.reduceSub, Nat.reduceMul, Nat.reduceBEq, reduceIte, reduceCtorEq]
    · have hj' : ((j : Int) < (l.length : Int)) = False := by rw [int_lt]; simp [hjl]
      simp (config := { decide := true }) only [go_sem, Int.reduceToNat, Nat.reduceAdd, Nat.reduceSub, Nat.reduceMul, Nat.reduceBEq, reduceIte, reduceCtorEq, h5, h4, h6, h7, h23, h24, h25, h10, h11, h29, h30, h31, hj']
      have hbl := begL_len (g := g) (a := n) (j := j)
      repeat (with_reducible refine And.intro ?_ ?_; · (with_reducible and_intros) <;> omega)
      obtain rfl : j = l.length := by omega
      rw [List.take_length] at hlr h10
      have hbs : begL g n l.length ++ [((insR g n l).length : Int)] = begL g n (l.length + 1) := by rw [begL_snoc, hlr]
      rw [List.take_length, hbs]
      have hbl1 := begL_len (g := g) (a := n) (j := l.length + 1)
      rw [hbl] at h11
      have hRm : ∀ (k : Nat) y, (insR g n l)[k]? = some y → 8 ≤ y.op → 0 ≤ y.to ∧ y.to ≤ l.length := fun k y hk h8 => by
        rcases insR_mem (List.mem_of_getElem? hk) with rfl | hm
        · simp [fnc] at h8
        · obtain ⟨q, hq⟩ := List.getElem?_of_mem hm
          have := (hRx q y hq).to.1 h8
          omega
      have hBm : ∀ q : Nat, q ≤ l.length → (begL g n (l.length + 1))[q]? = some ((q + countB g n q : Nat) : Int) := fun q hq => begL_get (by omega)
      rw [show insT g n l = (insR g n l).map (insStp g n) from rfl] at hF
      generalize insR g n l = R at hlr h10 hRm hF ⊢
      generalize begL g n (l.length + 1) = B at hbl1 hBm ⊢
      refine HW.loopG (fun k' T H => ∃ (k : Nat), k' = R.length - k ∧ k ≤ R.length ∧
        T 5 = .pt 3 1 0 0 ∧ T 4 = .pt 1 1 0 0 ∧ T 6 = .mp 4 ∧ T 7 = .v (.int .i64 ((n + l.length : Nat) : Int)) ∧ T 23 = .sl (thrs p.thr) ∧ T 24 = .v (.int .i64 p.thr.length) ∧ T 25 = .v (.int .i64 i) ∧
        T 10 = .hd 6 0 R.length ∧ T 11 = .hd 7 0 (l.length + 1) ∧ T 60 = .hd 6 0 R.length ∧ T 61 = .v (.int .i64 R.length) ∧ T 62 = .v (.int .i64 k) ∧
        H = insH p g i (thrsO (insF g p.thr i)) ++ [some ⟨44, 5, stps ((R.take k).map (insStp g n) ++ R.drop k)⟩, some ⟨3, 1, ints B⟩]) R.length
        ⟨_, _, Ghost.trunc [5, 4, 6, 7, 23, 24, 25, 10, 11, 60, 61, 62] 8 (by omega) ?_ ?_, 0, rfl, by omega, ?_, ?_, ?_, ?_, ?_, ?_, ?_, ?_, ?_, ?_, ?_, ?_, ?_⟩ ?_
      · simp (config := { decide := true }) only [go_sem, Nat.reduceBEq, reduceIte, h5, h4, h6, h7, h23, h24, h25, h10, h11]
      · simp (config := { decide := true }) only [go_sem, Nat.reduceBEq, reduceIte]
      iterate 8 simp (config := { decide := true }) only [go_sem, Nat.reduceBEq, reduceIte, h5, h4, h6, h7, h23, h24, h25, h10]
      · simp (config := { decide := true }) only [go_sem, Nat.reduceBEq, reduceIte, h11, hbl]
      iterate 2 simp (config := { decide := true }) only [go_sem, Nat.reduceBEq, reduceIte, h10]
      · simp (config := { decide := true }) only [go_sem, Nat.reduceBEq, reduceIte]; rfl
      · rfl
      clear h5 h4 h6 h7 h23 h24 h25 h10 h11 h29 h30 h31 T
      rintro k' T H ⟨k, rfl, hk, h5, h4, h6, h7, h23, h24, h25, h10, h11, h60, h61, h62, rfl⟩
      refine HW.run 200 (by kernel_rfl) ?_
      by_cases hkl : k < R.length
      · have hk' : ((k : Int) < (R.length : Int)) = True := by rw [int_lt]; simp [hkl]
        have hy : R[k]? = some R[k] := List.getElem?_eq_getElem hkl
        have hd : R.drop k = R[k] :: R.drop (k + 1) := List.drop_eq_getElem_cons hkl
        have htk : R.take (k + 1) = R.take k ++ [R[k]] := by rw [List.take_add_one, hy]; rfl
        rw [hd]
        have hlk : (R.take k).length = k := by rw [List.length_take]; omega
        have hyt := hRm k _ hy
        generalize R[k] = y at hy hd htk hyt ⊢
        have hA : ((R.take k).map (insStp g n)).length = k := by simp; omega
        have hL : ((R.take k).map (insStp g n) ++ y :: R.drop (k + 1)).length = R.length := by simp; omega
        have hrow : ((R.take k).map (insStp g n) ++ y :: R.drop (k + 1))[k]? = some y := row_mid hA
        have hset : ∀ to' : Int, (stps ((R.take k).map (insStp g n) ++ y :: R.drop (k + 1))).set k [.v (.int .i64 y.op), .v (.int .i64 y.reg), .v (.int .i64 y.loc), .v (.int .i64 y.n), .v (.int .i64 to')] = stps ((R.take k).map (insStp g n) ++ { y with to := to' } :: R.drop (k + 1)) := fun to' => by
          rw [stps, stps, List.map_append, List.map_cons, set_mid (by simp; omega), List.map_append, List.map_cons]; rfl
        generalize hLL : (R.take k).map (insStp g n) ++ y :: R.drop (k + 1) = LL at hL hrow hset ⊢
        by_cases h8 : 8 ≤ y.op
        · obtain ⟨t0, t1⟩ := hyt h8
          have h8' : ((8 : Int) ≤ y.op) = True := by simp [h8]
          have t0' : (0 ≤ y.to) = True := by simp [t0]
          have t1' : (y.to < ((l.length + 1 : Nat) : Int)) = True := by simp only [eq_iff_iff, iff_true]; omega
          have hBq := hBm y.to.toNat (by omega)
          simp (config := { decide := true }) only [go_sem, Int.reduceToNat, Nat.reduceAdd, Nat.reduceSub, Nat.reduceMul, Nat.reduceBEq, reduceIte, reduceCtorEq, h5, h4, h6, h7, h23, h24, h25, h10, h11, h60, h61, h62, hk', hL, hrow, h8', hbl1, t0', t1', hBq, hset]
          refine ⟨by rw [Bool.and_eq_true]; exact ⟨beq_self_eq_true _, by simp only [bne_iff_ne]; omega⟩, ?_⟩
          refine GQ.step (Ghost.trunc [5, 4, 6, 7, 23, 24, 25, 10, 11, 60, 61, 62] 8 (by omega) ?_ ?_) (GQ.done ⟨R.length - (k + 1), by omega, k + 1, rfl, by omega, ?_, ?_, ?_, ?_, ?_, ?_, ?_, ?_, ?_, ?_, ?_, ?_, ?_⟩)
          · simp (config := { decide := true }) only [go_sem, Nat.reduceBEq, reduceIte, h5, h4, h6, h7, h23, h24, h25, h10, h11, h60, h61]
          · simp (config := { decide := true }) only [go_sem, Nat.reduceBEq, reduceIte, hset, List.set_cons_succ, List.set_cons_zero]
          iterate 11 simp (config := { decide := true }) only [go_sem, Nat.reduceBEq, reduceIte, h5, h4, h6, h7, h23, h24, h25, h10, h11, h60, h61]
          · simp (config := { decide := true }) only [go_sem, Nat.reduceBEq, reduceIte]; rw [w64 (by omega) (by omega)]; rfl
          · have e : insStp g n y = ⟨y.op, y.reg, y.loc, y.n, ((y.to.toNat + countB g n y.to.toNat : Nat) : Int)⟩ := by
              unfold insStp; rw [if_pos h8]; congr 1; omega
            rw [htk, List.map_append, List.map_cons, List.map_nil, e, List.append_assoc]
            simp (config := { decide := true }) only [go_sem, Int.reduceToNat, Nat.reduceAdd, Nat.reduceSub, Nat.reduceMul, Nat.reduceBEq, reduceIte, reduceCtorEq, hset]
        · have h8' : ((8 : Int) ≤ y.op) = False := by simp [h8]
          simp (config := { decide := true }) only [go_sem, Int.reduceToNat, Nat.reduceAdd, Nat.reduceSub, Nat.reduceMul, Nat.reduceBEq, reduceIte, reduceCtorEq, h5, h4, h6, h7, h23, h24, h25, h10, h11, h60, h61, h62, hk', hL, hrow, h8', hbl1, hset]
          refine GQ.step (Ghost.trunc [5, 4, 6, 7, 23, 24, 25, 10, 11, 60, 61, 62] 8 (by omega) ?_ ?_) (GQ.done ⟨R.length - (k + 1), by omega, k + 1, rfl, by omega, ?_, ?_, ?_, ?_, ?_, ?_, ?_, ?_, ?_, ?_, ?_, ?_, ?_⟩)
          · simp (config := { decide := true }) only [go_sem, Nat.reduceBEq, reduceIte, h5, h4, h6, h7, h23, h24, h25, h10, h11, h60, h61]
          · simp (config := { decide := true }) only [go_sem, Nat.reduceBEq, reduceIte, hset, List.set_cons_succ, List.set_cons_zero]
          iterate 11 simp (config := { decide := true }) only [go_sem, Nat.reduceBEq, reduceIte, h5, h4, h6, h7, h23, h24, h25, h10, h11, h60, h61]
          · simp (config := { decide := true }) only [go_sem, Nat.reduceBEq, reduceIte]; rw [w64 (by omega) (by omega)]; rfl
          · have e : insStp g n y = y := by
              unfold insStp; rw [if_neg h8]
            rw [htk, List.map_append, List.map_cons, List.map_nil, e, List.append_assoc]
            simp (config := { decide := true }) only [go_sem, Int.reduceToNat, Nat.reduceAdd, Nat.reduceSub, Nat.reduceMul, Nat.reduceBEq, reduceIte, reduceCtorEq, ← hLL]
      · have hk' : ((k : Int) < (R.length : Int)) = False := by rw [int_lt]; simp [hkl]
        have htk : R.take k = R := List.take_of_length_le (by omega)
        have hdr : R.drop k = [] := List.drop_eq_nil_of_le (by omega)
        rw [htk, hdr, List.append_nil]
        simp (config := { decide := true }) only [go_sem, Int.reduceToNat, Nat.reduceAdd, Nat.reduceSub, Nat.reduceMul, Nat.reduceBEq, reduceIte, reduceCtorEq, h5, h4, h6, h7, h23, h24, h25, h10, h11, h60, h61, h62, hk', List.length_map]
        have hil : i = (insF g p.thr i).length := (insF_len g p.thr i).symm
        refine ⟨⟨hil, by omega, by omega⟩, ?_⟩
        have hTl : (thrsO (insF g p.thr i)).length = i := by rw [thrsO_len, insF_len]
        have hrl : ∀ X, (thrsO (insF g p.thr i) ++ [X])[i]? = some X := fun X => row_last hTl
        have hsl : ∀ X Y, (thrsO (insF g p.thr i) ++ [X]).set i Y = thrsO (insF g p.thr i) ++ [Y] := fun X Y => set_last hTl
        refine GQ.step (Ghost.absorb 5 i 0) ?_
        simp (config := { decide := true }) only [go_sem, Int.reduceToNat, Nat.reduceAdd, Nat.reduceSub, Nat.reduceMul, Nat.reduceBEq, reduceIte, reduceCtorEq, hrl, hsl, absorb_eq, onOb_some, List.length_map]
        refine GQ.step (Ghost.trunc [5, 4, 6, 7, 23, 24, 25] 6 (by omega) ?_ ?_) (GQ.done ⟨p.thr.length - (i + 1), by omega, i + 1, rfl, by omega, ?_, ?_, ?_, ?_, ?_, ?_, ?_, ?_⟩)
        · simp (config := { decide := true }) only [go_sem, Nat.reduceBEq, reduceIte, h5, h4, h6, h7, h23, h24]
        · simp (config := { decide := true }) only [go_sem, Nat.reduceBEq, reduceIte, hsl, nmR_append, List.set_cons_succ, List.set_cons_zero]
        iterate 6 simp (config := { decide := true }) only [go_sem, Nat.reduceBEq, reduceIte, h5, h4, h6, h7, h23, h24, hst]
        · simp (config := { decide := true }) only [go_sem, Nat.reduceBEq, reduceIte]; rw [w64 (by omega) (by omega)]; rfl
        · rw [hF, ← thrsO_snoc]
          simp (config := { decide := true }) only [go_sem, Int.reduceToNat, Nat.reduceAdd, Nat.reduceSub, Nat.reduceMul, Nat.reduceBEq, reduceIte, reduceCtorEq, hsl]
          rfl
  · have hlt' : ((i : Int) < (p.thr.length : Int)) = False := by rw [int_lt]; simp [hlt]
    have e : i = p.thr.length := by omega
    have e2 : (i = (insF g p.thr i).length) = True := by rw [insF_len]; simp
    simp (config := { decide := true }) only [go_sem, Int.reduceToNat, Nat.reduceAdd, Nat.reduceSub, Nat.reduceMul, Nat.reduceBEq, reduceIte, reduceCtorEq, h5, h4, h6, h7, h23, h24, h25, hlt', e2]
    rw [e]; rfl
end Go.Proofs.Yteieinhgdjjdoaa
namespace Go.Proofs.Yteieinhgdjjdoaa
open Go.RowKit
set_option linter.unusedVariables false
set_option linter.unusedSimpArgs false
set_option maxRecDepth 8000
abbrev lowH (p : Prg) (m : List ((Int × Int) × Int)) (a : List HV) (b : Bool) (n : Nat) (out : List Pck) : Heap :=
  [some ⟨25, 2, [[.sl (ints p.init), .sl (thrs p.thr)]]⟩, some ⟨26, 1, [a]⟩, some ⟨4, 1, [[.v (.bool b)]]⟩, some (mapP m), some ⟨79, 1, [[.mp 3]]⟩,
   some ⟨26, 1, [[.hd 8 0 n]]⟩, none, none, some ⟨62, 2, pcks out⟩]
theorem begin_ths {p : Prg} : (beginS p).ths.length = p.thr.length := by simp [beginS]
set_option maxHeartbeats 8000000 in
theorem crossLower (p : Prg) (g : List Int) (l : List Pck) (hp : RightP p) (h4 : Forty p) (hg : g.length ≤ 10000) (hl : l.length ≤ 10000) : HFn Try.prog 13 [prgH p, .sl (ints g), .sl (pcks l)]
    (.tu [owPcks ((lowerF p (insP p g) g (beginS (insP p g)) [] l).getD []), .v (.bool (lowerF p (insP p g) g (beginS (insP p g)) [] l).isSome)]) := by
  have hq := insP_right g hp h4
  have hqs : (beginS (insP p g)).ths.length = p.thr.length := by rw [begin_ths]; exact insF_len g p.thr _
  have hsm := hp.small
  have hbr := begin_right (p := insP p g)
  have hM := getM_places p g
  have hM0 := getM_places_le p g
  have hins := slotsInsert p g hp (by omega)
  generalize insP p g = q at hq hqs hbr hins ⊢
  refine HCalls.conv (Q := fun x _ => x = .tu [owPcks ((lowerF p q g (beginS q) [] l).getD []), .v (.bool (lowerF p q g (beginS q) [] l).isSome)] ∨ (lowerF p q g (beginS q) [] l = none ∧ x = .tu [.v (.slice none 0 0), .v (.bool false)])) ?_ ?_
  rotate_left
  · rintro x H' (rfl | ⟨h, rfl⟩)
    · exact ⟨_, rfl, .inl rfl⟩
    · rw [h]; exact ⟨_, rfl, .inr ⟨rfl, Conv.nilTuOw _ _ _⟩⟩
  have hput := crossPut p g hsm (by omega)
  generalize foldC [] (placesF g p.thr 0 0) = Mf at hput hM hM0
  refine HCalls_bodyC (fn := Try.f13) 44 [.cell 6 26, .cell 7 4] (by kernel_rfl) rfl rfl (by kernel_rfl) (HW.run 400 (by kernel_rfl) ?_)
  simp (config := { decide := true }) only [go_sem, Int.reduceToNat, Nat.reduceAdd, Nat.reduceSub, Nat.reduceMul, Nat.reduceBEq, reduceIte, reduceCtorEq]
  refine callX_nm (hput) rfl rfl ?_
  simp (config := { decide := true }) only [go_sem, Int.reduceToNat, Nat.reduceAdd, Nat.reduceSub, Nat.reduceMul, Nat.reduceBEq, reduceIte, reduceCtorEq]
  refine callX_nm (hins) rfl rfl ?_
  simp (config := { decide := true }) only [go_sem, Int.reduceToNat, Nat.reduceAdd, Nat.reduceSub, Nat.reduceMul, Nat.reduceBEq, reduceIte, reduceCtorEq]
  refine callX_nm (crossAlong q l) rfl rfl ?_
  simp (config := { decide := true }) only [go_sem, Int.reduceToNat, Nat.reduceAdd, Nat.reduceSub, Nat.reduceMul, Nat.reduceBEq, reduceIte, reduceCtorEq]
  refine HW.ghost ((Ghost.cell 5 0 0 (.ow 62 2 []) rfl rfl rfl rfl (Conv.nilOw _ _) (by simp)).trans (Ghost.open 5 0 0)) ?_
  simp (config := { decide := true }) only [go_sem, Int.reduceToNat, Nat.reduceAdd, Nat.reduceSub, Nat.reduceMul, Nat.reduceBEq, reduceIte, reduceCtorEq]
  refine HW.rangeFunc rfl (by decide) rfl (alongX q (beginS q) l) (lowH p Mf [.v (.slice none 0 0)] false 0 [])
    (fun j Hi => ∃ pre s out r, alongX q (beginS q) l = pre ++ alongX q s r ∧ pre.length = j ∧ out.length ≤ j ∧ j ≤ l.length ∧ s.ths.length = p.thr.length ∧ RightS q s ∧ lowerF p q g (beginS q) [] l = lowerF p q g s out r ∧ Hi = lowH p Mf [.v (.slice none 0 0)] false out.length out)
    (fun c Hi => c = .ret ∧ lowerF p q g (beginS q) [] l = none ∧ ∃ n out, Hi = lowH p Mf [.v (.slice none 0 0)] false n out)
    ?_ ?_ (fun o => along1 q l hq hl _ 6 7 (by omega) rfl rfl) ⟨[], beginS q, [], l, rfl, rfl, by simp, by simp, hqs, hbr, rfl, rfl⟩ ?_ ?_ ?_
  · refine ⟨rfl, fun j o hj => ?_⟩
    rcases j with _ | _ | _ | _ | _ | _ | _ | _ | _ | j <;> simp at hj ⊢ <;> exact hj
  · intro x hx
    rcases along_rows hx with ⟨k, t, rfl⟩ | rfl <;> exact ⟨rfl, rfl⟩
  · rintro j x Hi hx - ⟨pre, s, out, r, hX, hpre, hout, hjl, hths, hs, hR, rfl⟩
    obtain ⟨k, r', rfl, hcase⟩ := alongX_at hX hpre hx
    have hlen := along_len (p := q) l (beginS q)
    have hj1 : j + 1 ≤ l.length := by
      have := (List.getElem?_eq_some_iff.1 hx).1
      omega
    refine HW.run 60 (by kernel_rfl) ?_
    rcases hcase with ⟨hw, rfl, hX'⟩ | ⟨hw, rfl⟩
    · have hthr := stepW_th hw
      have c0 : (k.th < 0) = False := by simp only [eq_iff_iff, iff_false]; omega
      rw [lowerF, if_pos hw] at hR
      have hs' := stepW_right (k := k) hq hs
      have hths' : (stepW q s k).1.ths.length = p.thr.length := by rw [hs'.ths, ← hs.ths, hths]
      generalize (stepW q s k).1 = s' at hR hX' hs' hths'
      generalize thAt s k.th = y at hR hX' hx
      obtain ⟨t, ht⟩ : ∃ t : Nat, k.th = t := ⟨k.th.toNat, by omega⟩
      have hMt := hM t y.pc (by omega)
      have hM0t := hM0 ((t : Int), y.pc)
      rw [ht, Int.toNat_natCast] at hR
      simp (config := { decide := true }) only [go_sem, Int.reduceToNat, Nat.reduceAdd, Nat.reduceSub, Nat.reduceMul, Nat.reduceBEq, reduceIte, reduceCtorEq, c0]
      refine HW.run 100 (by kernel_rfl) ?_
      simp (config := { decide := true }) only [go_sem, Int.reduceToNat, Nat.reduceAdd, Nat.reduceSub, Nat.reduceMul, Nat.reduceBEq, reduceIte, reduceCtorEq, c0]
      cases hdr : k.dr with
      | true =>
        rw [if_pos (.inl hdr)] at hR
        simp (config := { decide := true }) only [go_sem, Int.reduceToNat, Nat.reduceAdd, Nat.reduceSub, Nat.reduceMul, Nat.reduceBEq, reduceIte, reduceCtorEq, hdr]
        repeat (with_reducible refine And.intro ?_ ?_; · (with_reducible and_intros) <;> omega)
        refine ⟨_, _, Ghost.trunc [] 9 (by omega) rfl ?_, rfl, pre ++ [[doneH k y]], s', out ++ [k], r', hX', by simp [hpre], by simp; omega, hj1, hths', hs', hR, ?_⟩
        · simp (config := { decide := true }) only [go_sem, Nat.reduceBEq, reduceIte]
        · simp [pcks, prow, hdr]
      | false =>
        by_cases hin : fenceB p g t y.pc = false
        · have hm : (getM Mf ((t : Int), y.pc) = 0) = True := by rw [hMt]; simp [hin]
          rw [if_pos (.inr hin)] at hR
          simp (config := { decide := true }) only [go_sem, Int.reduceToNat, Nat.reduceAdd, Nat.reduceSub, Nat.reduceMul, Nat.reduceBEq, reduceIte, reduceCtorEq, hdr, ht, hm]
          repeat (with_reducible refine And.intro ?_ ?_; · (with_reducible and_intros) <;> omega)
          refine ⟨_, _, Ghost.trunc [] 9 (by omega) rfl ?_, rfl, pre ++ [[doneH k y]], s', out ++ [k], r', hX', by simp [hpre], by simp; omega, hj1, hths', hs', hR, ?_⟩
          · simp (config := { decide := true }) only [go_sem, Nat.reduceBEq, reduceIte]
          · simp [pcks, prow, hdr, ht]
        · have hm : (getM Mf ((t : Int), y.pc) = 0) = False := by rw [hMt]; simp [hin]
          rw [if_neg (by simp [hdr, hin])] at hR
          simp (config := { decide := true }) only [go_sem, Int.reduceToNat, Nat.reduceAdd, Nat.reduceSub, Nat.reduceMul, Nat.reduceBEq, reduceIte, reduceCtorEq, hdr, ht, hm]
          refine ⟨_, _, Ghost.trunc [] 9 (by omega) rfl ?_, rfl, pre ++ [[doneH k y]], s', out, r', hX', by simp [hpre], by omega, hj1, hths', hs', hR, ?_⟩
          · simp (config := { decide := true }) only [go_sem, Nat.reduceBEq, reduceIte]
          · rfl
    · simp (config := { decide := true }) only [go_sem, Int.reduceToNat, Nat.reduceAdd, Nat.reduceSub, Nat.reduceMul, Nat.reduceBEq, reduceIte, reduceCtorEq]
      refine HW.run 100 (by kernel_rfl) ?_
      simp (config := { decide := true }) only [go_sem, Int.reduceToNat, Nat.reduceAdd, Nat.reduceSub, Nat.reduceMul, Nat.reduceBEq, reduceIte, reduceCtorEq]
      have hR' : lowerF p q g (beginS q) [] l = none := by rw [hR, lowerF, if_neg (by simp [hw])]
      refine ⟨_, _, Ghost.trunc [] 9 (by omega) rfl ?_, rfl, hR', out.length, out, rfl⟩
      simp (config := { decide := true }) only [go_sem, Nat.reduceBEq, reduceIte]
  · rintro Hf - ⟨pre, s, out, r, hX, hpre, hout, hjl, hths, hs, hR, rfl⟩
    obtain rfl := alongX_end hX hpre
    simp (config := { decide := true }) only [go_sem, Int.reduceToNat, Nat.reduceAdd, Nat.reduceSub, Nat.reduceMul, Nat.reduceBEq, reduceIte, reduceCtorEq]
    rw [hR]
    exact .inl rfl
  · rintro c Hf - ⟨rfl, hn, n, out, rfl⟩
    unfold XQ
    simp (config := { decide := true }) only [go_sem, Int.reduceToNat, Nat.reduceAdd, Nat.reduceSub, Nat.reduceMul, Nat.reduceBEq, reduceIte, reduceCtorEq]
    exact .inr hn
end Go.Proofs.Yteieinhgdjjdoaa
namespace Go.Proofs.Yteieinhgdjjdoaa
open Go.RowKit
set_option linter.unusedVariables false
set_option linter.unusedSimpArgs false
set_option maxRecDepth 8000
def bufP : Prg := ⟨[0, 0], [[⟨4, 0, 0, 1, 0⟩, ⟨2, 0, 1, 0, 0⟩], [⟨4, 0, 1, 1, 0⟩, ⟨2, 0, 0, 0, 0⟩]]⟩
def loose : List Pck := [⟨0, false⟩, ⟨0, false⟩, ⟨1, false⟩, ⟨1, false⟩, ⟨0, true⟩, ⟨1, true⟩]
theorem bufP_right : RightP bufP := rightPB_iff.1 (by rfl)
theorem bufP_forty : Forty bufP := fun l hl => by
  simp [bufP] at hl
  rcases hl with rfl | rfl <;> simp
theorem lawBuffering : HFn Try.prog 28 [] (prgH bufP) := by
  refine HFn_bodyF (fn := Try.f28) 4 10 [.cell 0 25] (by kernel_rfl) rfl rfl (by kernel_rfl) (HW.run 400 (by kernel_rfl) ?_)
  simp (config := { decide := true }) only [go_sem, Int.reduceToNat, Nat.reduceAdd, Nat.reduceSub, Nat.reduceMul, Nat.reduceBEq, reduceIte, reduceCtorEq]
  rfl
theorem lawLoose : HFn Try.prog 29 [] (.sl (pcks loose)) := by
  refine HFn.shut (R := owPcks loose) ?_ (by simp only [fzo, pcks_fzoR])
  refine HCalls_body (fn := Try.f29) 8 [0] (by kernel_rfl) rfl (by kernel_rfl) (HW.run 400 (by kernel_rfl) ?_)
  simp (config := { decide := true }) only [go_sem, Int.reduceToNat, Nat.reduceAdd, Nat.reduceSub, Nat.reduceMul, Nat.reduceBEq, reduceIte, reduceCtorEq]
  rfl
theorem crossLoose : crossF bufP (beginS bufP) [] loose = some [1, 3] := by rfl
theorem crossBad : crossF bufP (beginS bufP) [] [⟨0, true⟩] = none := by rfl
theorem raiseBad : raiseF bufP [1] (beginS bufP) [] loose = none := by rfl
theorem raiseGood : raiseF bufP [0, 2] (beginS bufP) [] (loose.take 3) = some [⟨0, false⟩, ⟨0, false⟩, ⟨0, false⟩, ⟨1, false⟩, ⟨1, false⟩] := by rfl
theorem lowerGood : lowerF bufP (insP bufP [0, 2]) [0, 2] (beginS (insP bufP [0, 2])) [] [⟨0, false⟩, ⟨0, false⟩, ⟨0, false⟩, ⟨1, false⟩, ⟨1, false⟩] = some (loose.take 3) := by rfl
set_option maxHeartbeats 8000000 in
theorem lawHead : HFn Try.prog 9 [] (.v (.bool true)) := by
  have hl : loose.length = 6 := rfl
  have hC1 := crossCross bufP loose bufP_right (by rw [hl]; omega)
  rw [crossLoose] at hC1
  have hC2 := crossCross bufP [⟨0, true⟩] bufP_right (by simp)
  rw [crossBad] at hC2
  have hR1 := crossRaise bufP [1] loose bufP_right (by simp) (by rw [hl]; omega)
  rw [raiseBad] at hR1
  have hR2 := crossRaise bufP [0, 2] (loose.take 3) bufP_right (by simp) (by simp [hl])
  rw [raiseGood] at hR2
  have hL := crossLower bufP [0, 2] [⟨0, false⟩, ⟨0, false⟩, ⟨0, false⟩, ⟨1, false⟩, ⟨1, false⟩] bufP_right bufP_forty (by simp) (by simp)
  rw [lowerGood] at hL
  refine HCalls_body (fn := Try.f9) 84 [0] (by kernel_rfl) rfl (by kernel_rfl) (HW.run 400 (by kernel_rfl) ?_)
  simp (config := { decide := true }) only [go_sem, Int.reduceToNat, Nat.reduceAdd, Nat.reduceSub, Nat.reduceMul, Nat.reduceBEq, reduceIte, reduceCtorEq]
  refine callX_nm (lawBuffering) rfl rfl ?_
  simp (config := { decide := true }) only [go_sem, Int.reduceToNat, Nat.reduceAdd, Nat.reduceSub, Nat.reduceMul, Nat.reduceBEq, reduceIte, reduceCtorEq]
  refine HW.tree 1 (.light 0 (.heavy 1 [0] (.heavy 2 [] (.light 3 (.light 4 (.light 5 (.light 6 (.light 7 .leaf))))) .stop) .stop)) follows (by kernel_rfl) (by kernel_rfl) ?_
  simp (config := { decide := true }) only [go_sem, Int.reduceToNat, Nat.reduceAdd, Nat.reduceSub, Nat.reduceMul, Nat.reduceBEq, reduceIte, reduceCtorEq]
  refine callX_nm (lawLoose) rfl rfl ?_
  simp (config := { decide := true }) only [go_sem, Int.reduceToNat, Nat.reduceAdd, Nat.reduceSub, Nat.reduceMul, Nat.reduceBEq, reduceIte, reduceCtorEq]
  refine callX_nm (hC1) rfl rfl ?_
  simp (config := { decide := true }) only [go_sem, Int.reduceToNat, Nat.reduceAdd, Nat.reduceSub, Nat.reduceMul, Nat.reduceBEq, reduceIte, reduceCtorEq]
  refine callX_fn 3 (hC2) (by simp only [go_sem]; rfl) rfl ?_
  simp (config := { decide := true }) only [go_sem, Int.reduceToNat, Nat.reduceAdd, Nat.reduceSub, Nat.reduceMul, Nat.reduceBEq, reduceIte, reduceCtorEq]
  refine HW.tree 1 (.light 0 (.light 1 (.heavy 2 [0,1] (.heavy 3 [] (.light 4 (.light 5 (.light 6 (.light 7 (.light 8 .leaf))))) .stop) .stop))) follows (by kernel_rfl) (by kernel_rfl) ?_
  simp (config := { decide := true }) only [go_sem, Int.reduceToNat, Nat.reduceAdd, Nat.reduceSub, Nat.reduceMul, Nat.reduceBEq, reduceIte, reduceCtorEq]
  refine callX_nm (lawLoose) rfl rfl ?_
  simp (config := { decide := true }) only [go_sem, Int.reduceToNat, Nat.reduceAdd, Nat.reduceSub, Nat.reduceMul, Nat.reduceBEq, reduceIte, reduceCtorEq]
  refine callX_nm (hR1) rfl rfl ?_
  simp (config := { decide := true }) only [go_sem, Int.reduceToNat, Nat.reduceAdd, Nat.reduceSub, Nat.reduceMul, Nat.reduceBEq, reduceIte, reduceCtorEq]
  refine HW.tree 1 (.light 0 (.light 1 (.heavy 2 [0,1] (.light 3 (.heavy 4 [] (.light 5 (.light 6 (.light 7 (.light 8 (.light 9 .leaf))))) .stop)) .stop))) follows (by kernel_rfl) (by kernel_rfl) ?_
  simp (config := { decide := true }) only [go_sem, Int.reduceToNat, Nat.reduceAdd, Nat.reduceSub, Nat.reduceMul, Nat.reduceBEq, reduceIte, reduceCtorEq]
  refine callX_nm (lawLoose) rfl rfl ?_
  simp (config := { decide := true }) only [go_sem, Int.reduceToNat, Nat.reduceAdd, Nat.reduceSub, Nat.reduceMul, Nat.reduceBEq, reduceIte, reduceCtorEq]
  refine callX_nm (hR2) rfl rfl ?_
  simp (config := { decide := true }) only [go_sem, Int.reduceToNat, Nat.reduceAdd, Nat.reduceSub, Nat.reduceMul, Nat.reduceBEq, reduceIte, reduceCtorEq]
  refine callX_fn 3 (hL) (by simp only [go_sem]; rfl) rfl ?_
  simp (config := { decide := true }) only [go_sem, Int.reduceToNat, Nat.reduceAdd, Nat.reduceSub, Nat.reduceMul, Nat.reduceBEq, reduceIte, reduceCtorEq]
  refine callX_fn 3 (refSameInts [1, 3] [1, 3] (by simp)) (by simp only [go_sem]; rfl) rfl ?_
  simp (config := { decide := true }) only [go_sem, Int.reduceToNat, Nat.reduceAdd, Nat.reduceSub, Nat.reduceMul, Nat.reduceBEq, reduceIte, reduceCtorEq]
  refine callX_fn 3 (refSamePicks [⟨0, false⟩, ⟨0, false⟩, ⟨0, false⟩, ⟨1, false⟩, ⟨1, false⟩] [⟨0, false⟩, ⟨0, false⟩, ⟨0, false⟩, ⟨1, false⟩, ⟨1, false⟩] (by simp)) (by simp only [go_sem]; rfl) rfl ?_
  simp (config := { decide := true }) only [go_sem, Int.reduceToNat, Nat.reduceAdd, Nat.reduceSub, Nat.reduceMul, Nat.reduceBEq, reduceIte, reduceCtorEq]
  refine callX_nm (lawLoose) rfl rfl ?_
  simp (config := { decide := true }) only [go_sem, Int.reduceToNat, Nat.reduceAdd, Nat.reduceSub, Nat.reduceMul, Nat.reduceBEq, reduceIte, reduceCtorEq]
  refine callX_fn 3 (refSamePicks (loose.take 3) (loose.take 3) (by simp [hl])) (by simp only [go_sem]) rfl ?_
  simp (config := { decide := true }) only [go_sem, Int.reduceToNat, Nat.reduceAdd, Nat.reduceSub, Nat.reduceMul, Nat.reduceBEq, reduceIte, reduceCtorEq]
end Go.Proofs.Yteieinhgdjjdoaa
namespace Go.Proofs.Yteieinhgdjjdoaa
open Go.RowKit
set_option linter.unusedVariables false
set_option linter.unusedSimpArgs false
set_option maxRecDepth 8000
end Go.Proofs.Yteieinhgdjjdoaa
namespace Go.Proofs.Yteieinhgdjjdoaa
open Go.RowKit
set_option linter.unusedVariables false
set_option linter.unusedSimpArgs false
set_option maxRecDepth 8000
end Go.Proofs.Yteieinhgdjjdoaa
namespace Go.Proofs.Yteieinhgdjjdoaa
open Go.RowKit
set_option linter.unusedVariables false
set_option linter.unusedSimpArgs false
set_option maxRecDepth 8000
def nilUp : HV → HV
  | .v (.slice none 0 0) => .sl []
  | h => h
theorem RL_nilUp {Z : Nat → Prop} {G : List (Option OG)} {w : World} : ∀ (args : List HV) (vals : List Value), RL Z G w args vals [] → RL Z G w (args.map nilUp) vals []
  | [], vals, h => h
  | x :: r, vals, h => by
    simp only [RL, List.map_cons] at h ⊢
    obtain ⟨y, ys, f1, f2, e1, e2, h1, h2⟩ := h
    have e3 := e2
    rw [eq_comm, List.append_eq_nil_iff] at e3
    obtain ⟨rfl, rfl⟩ := e3
    refine ⟨y, ys, [], [], e1, e2, ?_, RL_nilUp r ys h2⟩
    unfold nilUp
    split
    · exact Conv.nilSl _ _ _ _ h1
    · exact h1
theorem HCalls.nilA {P : Program} {f : FuncId} {H : Heap} {args args' : List HV} {Q : HV → Heap → Prop} (h : HCalls P f H args' Q) (e : args.map nilUp = args') : HCalls P f H args Q := by
  subst e
  exact ⟨h.1, fun Z G FP w vals hi ha => h.2 Z G FP w vals hi (RL_nilUp _ _ ha)⟩
end Go.Proofs.Yteieinhgdjjdoaa
namespace Go.Proofs.Yteieinhgdjjdoaa
set_option linter.unusedVariables false
set_option maxRecDepth 8000
set_option linter.unusedSimpArgs false
def goW (x : Stp) (mem : List Int) (t : Thd) : Option (List Int × Thd) :=
  if t.buf ≠ [] ∧ (x.op = 6 ∨ x.op = 5) then none
  else if x.op = 2 then some (mem, { (thStep x mem t).2 with regs := setI t.regs x.reg (viewB t.buf mem x.loc).1 })
  else if x.op = 3 then some (mem, { (thStep x mem t).2 with buf := t.buf ++ [(x.loc, getI t.regs x.reg)] })
  else if x.op = 4 then some (mem, { (thStep x mem t).2 with buf := t.buf ++ [(x.loc, x.n)] })
  else some (thStep x mem t)
theorem stepW_go {p : Prg} {s : Sta} {k : Pck} (hk : k.dr = false) (h : 0 ≤ k.th ∧ k.th < s.ths.length) : stepW p s k =
    match atS p s k.th with
    | none => (s, false)
    | some x => match goW x s.mem (thAt s k.th) with
      | none => (s, false)
      | some r => (setTh s k.th r.1 r.2, true) := by
  unfold stepW goW
  rw [if_neg (not_not_intro h), if_neg (by rw [hk]; simp)]
  cases atS p s k.th with
  | none => rfl
  | some x =>
    dsimp only
    repeat' split
    all_goals first | rfl | (rename_i e; cases e; rfl) | simp_all
abbrev runW (p : Prg) (s : Sta) (l : List Pck) : Sta × Nat × Bool := runF (fun s k => stepB p s k true) s l
theorem runW_nil {p : Prg} {s : Sta} : runW p s [] = (s, 0, true) := rfl
theorem runW_cons {p : Prg} {s : Sta} {k : Pck} {l : List Pck} : runW p s (k :: l) = if (stepW p s k).2 = true then ((runW p (stepW p s k).1 l).1, (runW p (stepW p s k).1 l).2.1 + 1, (runW p (stepW p s k).1 l).2.2) else (s, 0, false) := by
  simp only [runW, runF, stepB, if_true]
theorem runW_ok {p : Prg} {s : Sta} {k : Pck} {l : List Pck} : (runW p s (k :: l)).2.2 = ((stepW p s k).2 && (runW p (stepW p s k).1 l).2.2) := by
  rw [runW_cons]
  cases (stepW p s k).2 <;> simp
def crossed (p : Prg) : Sta → List Pck → List Int
  | _, [] => []
  | s, k :: r => (if k.dr = false ∧ (thAt s k.th).buf ≠ [] then [numS p k.th (thAt s k.th).pc] else []) ++ crossed p (stepW p s k).1 r
def lowL (p q : Prg) (g : List Int) : Sta → List Pck → List Pck
  | _, [] => []
  | s, k :: r => (if k.dr = true ∨ fenceB p g k.th.toNat (thAt s k.th).pc = false then [k] else []) ++ lowL p q g (stepW q s k).1 r
theorem lowerF_eq (p q : Prg) (g : List Int) : ∀ (l : List Pck) (s : Sta) (out : List Pck), lowerF p q g s out l = if (runW q s l).2.2 = true then some (out ++ lowL p q g s l) else none
  | [], s, out => by simp [lowerF, lowL, runW_nil]
  | k :: r, s, out => by
    unfold lowerF
    rw [runW_ok]
    cases h : (stepW q s k).2 with
    | false => simp
    | true =>
      rw [if_pos rfl, lowerF_eq p q g r, Bool.true_and, lowL]
      congr 2
      split <;> simp
def raiL (p : Prg) (g : List Int) : Sta → List Pck → List Pck
  | _, [] => []
  | s, k :: r => (if k.dr = false ∧ hasB g (numS p k.th (thAt s k.th).pc) = true then [⟨k.th, false⟩, k] else [k]) ++ raiL p g (stepW p s k).1 r
def freeB (p : Prg) (g : List Int) (s : Sta) (l : List Pck) : Bool := (crossed p s l).all fun n => !hasB g n
theorem freeB_cons {p : Prg} {g : List Int} {s : Sta} {k : Pck} {l : List Pck} : freeB p g s (k :: l) = (!(decide (k.dr = false ∧ (thAt s k.th).buf ≠ []) && hasB g (numS p k.th (thAt s k.th).pc)) && freeB p g (stepW p s k).1 l) := by
  simp only [freeB, crossed]
  rw [List.all_append]
  split
  · rename_i h; simp [h]
  · rename_i h
    have : decide (k.dr = false ∧ (thAt s k.th).buf ≠ []) = false := by simpa using h
    rw [this]; simp
theorem raiseF_eq (p : Prg) (g : List Int) : ∀ (l : List Pck) (s : Sta) (out : List Pck), raiseF p g s out l = if ((runW p s l).2.2 && freeB p g s l) = true then some (out ++ raiL p g s l) else none
  | [], s, out => by simp [raiseF, raiL, runW_nil, freeB, crossed]
  | k :: r, s, out => by
    unfold raiseF
    rw [runW_ok, freeB_cons]
    cases h : (stepW p s k).2 with
    | false => simp
    | true =>
      rw [if_pos rfl, raiL]
      by_cases c : k.dr = false ∧ hasB g (numS p k.th (thAt s k.th).pc) = true
      · rw [if_pos c, if_pos c]
        by_cases c2 : (thAt s k.th).buf ≠ []
        · rw [if_pos c2]
          simp [c.1, c.2, c2]
        · rw [if_neg c2, raiseF_eq p g r]
          have : decide (k.dr = false ∧ (thAt s k.th).buf ≠ []) = false := by simp only [decide_eq_false_iff_not, not_and]; exact fun _ => c2
          rw [this]
          simp
      · rw [if_neg c, if_neg c, raiseF_eq p g r]
        have : (decide (k.dr = false ∧ (thAt s k.th).buf ≠ []) && hasB g (numS p k.th (thAt s k.th).pc)) = false := by
          rw [Bool.and_eq_false_iff]
          by_cases d : k.dr = false
          · right
            cases hh : hasB g (numS p k.th (thAt s k.th).pc) with
            | false => rfl
            | true => exact absurd ⟨d, hh⟩ c
          · left; simp [d]
        rw [this]
        simp
end Go.Proofs.Yteieinhgdjjdoaa
namespace Go.Proofs.Yteieinhgdjjdoaa
set_option linter.unusedVariables false
set_option maxRecDepth 8000
set_option linter.unusedSimpArgs false
def Slot (p : Prg) (n : Int) (x : Stp) : Prop := ∃ (t : Nat) (l : List Stp) (i : Nat), p.thr[t]? = some l ∧ l[i]? = some x ∧ n = ((startB p.thr t + i : Nat) : Int)
theorem num_at {p : Prg} {s : Sta} {th : Int} {x : Stp} (hp : RightP p) (hs : RightS p s) (h : atS p s th = some x) : numS p th (thAt s th).pc = ((startB p.thr th.toNat + (thAt s th).pc.toNat : Nat) : Int) := by
  obtain ⟨l, c1, c2, hl, ht, hT, hx, hX, hlt⟩ := atS_spec hp hs h
  have hlen := hs.ths
  have := hT.pc
  unfold numS
  rw [if_pos ⟨c1, by omega, this.1, by rw [hl]; exact hlt⟩]
  omega
theorem slot_at {p : Prg} {s : Sta} {th : Int} {x : Stp} (hp : RightP p) (hs : RightS p s) (h : atS p s th = some x) : Slot p (numS p th (thAt s th).pc) x := by
  obtain ⟨l, c1, c2, hl, ht, hT, hx, hX, hlt⟩ := atS_spec hp hs h
  exact ⟨_, l, _, hl, hx, num_at hp hs h⟩
theorem startB_mono (thr : List (List Stp)) : ∀ {t u : Nat}, t < u → startB thr t + ((thr[t]?).getD []).length ≤ startB thr u := by
  intro t u h
  induction u with
  | zero => omega
  | succ u ih =>
    show _ ≤ startB thr u + ((thr[u]?).getD []).length
    rcases Nat.lt_or_ge t u with h' | h'
    · have := ih h'; omega
    · obtain rfl : t = u := by omega
      exact Nat.le_refl _
theorem stepW_in' {p : Prg} {s : Sta} {k : Pck} (h : (stepW p s k).2 = true) : 0 ≤ k.th ∧ k.th < s.ths.length := by
  unfold stepW at h
  split at h
  · cases h
  · rename_i c; exact Decidable.not_not.1 c
theorem stepW_at {p : Prg} {s : Sta} {k : Pck} (h : (stepW p s k).2 = true) (hk : k.dr = false) : ∃ x r, atS p s k.th = some x ∧ goW x s.mem (thAt s k.th) = some r ∧ stepW p s k = (setTh s k.th r.1 r.2, true) := by
  have hin := stepW_in' h
  rw [stepW_go hk hin] at h ⊢
  cases hx : atS p s k.th with
  | none => rw [hx] at h; cases h
  | some x =>
    rw [hx] at h
    dsimp only at h ⊢
    cases hr : goW x s.mem (thAt s k.th) with
    | none => rw [hr] at h; cases h
    | some r => exact ⟨x, r, rfl, hr, rfl⟩
def NoSl (p : Prg) (g : List Int) : Prop := ∀ t l, p.thr[t]? = some l → ∀ i, i < l.length → hasB g ((startB p.thr t + i : Nat) : Int) = false
theorem insR_none {g : List Int} : ∀ {l : List Stp} {n : Nat}, (∀ i, i < l.length → hasB g ((n + i : Nat) : Int) = false) → insR g n l = l
  | [], n, _ => rfl
  | x :: l, n, h => by
    have h0 := h 0 (by simp)
    rw [Nat.add_zero] at h0
    rw [insR, if_neg (by rw [h0]; simp), insR_none fun i hi => by have := h (i + 1) (by simp; omega); rwa [show n + (i + 1) = n + 1 + i by omega] at this]
    rfl
theorem countB_none {g : List Int} {a : Nat} : ∀ {m : Nat}, (∀ i, i < m → hasB g ((a + i : Nat) : Int) = false) → countB g a m = 0
  | 0, _ => rfl
  | m + 1, h => by
    have h1 := h m (by omega)
    rw [countB, countB_none fun i hi => h i (by omega), if_neg (by rw [show (a : Int) + (m : Int) = ((a + m : Nat) : Int) by omega, h1]; simp)]
theorem insT_none {p : Prg} {g : List Int} (hp : RightP p) (h : NoSl p g) {t : Nat} {l : List Stp} (hl : p.thr[t]? = some l) : insT g (startB p.thr t) l = l := by
  unfold insT
  rw [insR_none (h t l hl)]
  conv => rhs; rw [← List.map_id l]
  apply List.map_congr_left
  intro x hx
  obtain ⟨i, hi⟩ := List.getElem?_of_mem hx
  have hX := hp.x t l hl i x hi
  unfold insStp
  split
  · rename_i h8
    have := hX.to.1 h8
    rw [countB_none fun j hj => h t l hl j (by omega)]
    cases x; simp
  · rfl
theorem insP_none {p : Prg} {g : List Int} (hp : RightP p) (h : NoSl p g) : insP p g = p := by
  have e : insF g p.thr p.thr.length = p.thr := by
    apply List.ext_getElem?
    intro t
    by_cases ht : t < p.thr.length
    · have hl : p.thr[t]? = some p.thr[t] := List.getElem?_eq_getElem ht
      rw [insF_get g p.thr _ t ht, hl, Option.getD_some, insT_none hp h hl]
    · rw [List.getElem?_eq_none (by rw [insF_len]; omega), List.getElem?_eq_none (by omega)]
  unfold insP
  rw [e]
theorem fenceB_none {p : Prg} {g : List Int} (h : NoSl p g) {t : Nat} {c : Int} : fenceB p g t c = false := by
  unfold fenceB
  rw [List.any_eq_false]
  intro i hi
  cases hl : p.thr[t]? with
  | none => rw [hl] at hi; simp at hi
  | some l =>
    rw [hl] at hi
    have := h t l hl i (by simpa using hi)
    unfold fenceT
    rw [show ((startB p.thr t : Nat) : Int) + (i : Int) = ((startB p.thr t + i : Nat) : Int) by omega, this]
    simp
theorem lowL_none {p : Prg} {g : List Int} (h : NoSl p g) : ∀ (l : List Pck) (s : Sta), lowL p p g s l = l
  | [], s => rfl
  | k :: r, s => by rw [lowL, lowL_none h r, if_pos (.inr (fenceB_none h))]; rfl
theorem slot_free {p : Prg} {g : List Int} {n : Int} {x : Stp} (h : NoSl p g) (hn : Slot p n x) : hasB g n = false := by
  obtain ⟨t, l, i, hl, hx, rfl⟩ := hn
  exact h t l hl i (List.getElem?_eq_some_iff.1 hx).1
theorem raiL_none {p : Prg} {g : List Int} (hp : RightP p) (h : NoSl p g) : ∀ (l : List Pck) (s : Sta), RightS p s → (runW p s l).2.2 = true → raiL p g s l = l ∧ freeB p g s l = true
  | [], s, _, _ => ⟨rfl, rfl⟩
  | k :: r, s, hs, hr => by
    rw [runW_ok, Bool.and_eq_true] at hr
    obtain ⟨i1, i2⟩ := raiL_none hp h r _ (stepW_right hp hs) hr.2
    have key : k.dr = false → hasB g (numS p k.th (thAt s k.th).pc) = false := fun hk => by
      obtain ⟨x, q, h1, _, _⟩ := stepW_at hr.1 hk
      exact slot_free h (slot_at hp hs h1)
    refine ⟨?_, ?_⟩
    · rw [raiL, i1, if_neg]
      · rfl
      · rintro ⟨c1, c2⟩; rw [key c1] at c2; cases c2
    · rw [freeB_cons, i2, Bool.and_true, Bool.not_eq_true', Bool.and_eq_false_iff]
      cases hk : k.dr with
      | true => left; simp
      | false => right; exact key hk
def Empty (s : Sta) : Prop := ∀ t ∈ s.ths, t.buf = []
theorem Empty.at {s : Sta} (h : Empty s) (th : Int) : (thAt s th).buf = [] := by
  unfold thAt
  cases hx : s.ths[th.toNat]? with
  | none => rfl
  | some t => exact h t (List.mem_of_getElem? hx)
theorem Empty.set {s : Sta} {th : Int} {mem : List Int} {t : Thd} (h : Empty s) (ht : t.buf = []) : Empty (setTh s th mem t) := by
  intro t' ht'
  rcases List.mem_or_eq_of_mem_set ht' with h1 | rfl
  · exact h t' h1
  · exact ht
end Go.Proofs.Yteieinhgdjjdoaa
namespace Go.Proofs.Yteieinhgdjjdoaa
open Go.RowKit
set_option linter.unusedVariables false
set_option linter.unusedSimpArgs false
set_option maxRecDepth 8000
theorem none_facts {p : Prg} {g : List Int} (hp : RightP p) (h : NoSl p g) (l : List Pck) :
    lowerF p (insP p g) g (beginS (insP p g)) [] l = (if (runW p (beginS p) l).2.2 = true then some l else none) ∧ raiseF p g (beginS p) [] l = (if (runW p (beginS p) l).2.2 = true then some l else none) := by
  rw [insP_none hp h, lowerF_eq, lowL_none h, raiseF_eq]
  refine ⟨rfl, ?_⟩
  cases hr : (runW p (beginS p) l).2.2 with
  | false => simp
  | true =>
    obtain ⟨i1, i2⟩ := raiL_none hp h l (beginS p) begin_right hr
    rw [i1, i2]; rfl
theorem noSl_nil {p : Prg} : NoSl p [] := fun t l hl i hi => by unfold hasB; simp
theorem noSl_one {p : Prg} {n : Int} (h : ¬ (0 ≤ n ∧ n < (startB p.thr p.thr.length : Int))) : NoSl p [n] := fun t l hl i hi => by
  have ht := (List.getElem?_eq_some_iff.1 hl).1
  have := startB_mono p.thr ht
  rw [hl, Option.getD_some] at this
  unfold hasB
  simp only [List.mem_singleton, decide_eq_false_iff_not]
  omega
set_option maxHeartbeats 8000000 in
theorem lawGreat14N (p : Prg) (l : List Pck) : HFn Try.prog 10 [prgH p, .sl (pcks l), .v (.slice none 0 0)] (.v (.bool (great14 p l []))) := HCalls.nilA (lawGreat14 p l []) rfl
set_option maxHeartbeats 8000000 in
theorem crossNoneH (p : Prg) (l : List Pck) (n : Int) : HFn Try.prog 8 [prgH p, .sl (pcks l), .v (.int .i64 n)] (.v (.bool true)) := by
  refine HCalls_body (fn := Try.f8) 94 [6] (by kernel_rfl) rfl (by kernel_rfl) (HW.run 400 (by kernel_rfl) ?_)
  simp (config := { decide := true }) only [go_sem, Int.reduceToNat, Nat.reduceAdd, Nat.reduceSub, Nat.reduceMul, Nat.reduceBEq, reduceIte, reduceCtorEq]
  refine callX_nm (lawHead) rfl rfl ?_
  simp (config := { decide := true }) only [go_sem, Int.reduceToNat, Nat.reduceAdd, Nat.reduceSub, Nat.reduceMul, Nat.reduceBEq, reduceIte, reduceCtorEq]
  refine callX_nm (lawGreat14N p l) rfl rfl ?_
  cases hG : great14 p l [] with
  | true =>
    simp (config := { decide := true }) only [go_sem, Int.reduceToNat, Nat.reduceAdd, Nat.reduceSub, Nat.reduceMul, Nat.reduceBEq, reduceIte, reduceCtorEq]
  | false =>
    obtain ⟨hp, h4, hl, hg⟩ := great14_ok hG
    simp (config := { decide := true }) only [go_sem, Int.reduceToNat, Nat.reduceAdd, Nat.reduceSub, Nat.reduceMul, Nat.reduceBEq, reduceIte, reduceCtorEq]
    obtain ⟨f1, f2⟩ := none_facts hp (noSl_nil (p := p)) l
    by_cases hc : 0 ≤ n ∧ n < (startB p.thr p.thr.length : Int)
    · have c1 : ((0 : Int) ≤ n) = True := eq_true hc.1
      have c2 : (n < (startB p.thr p.thr.length : Int)) = True := eq_true hc.2
      simp (config := { decide := true }) only [go_sem, Int.reduceToNat, Nat.reduceAdd, Nat.reduceSub, Nat.reduceMul, Nat.reduceBEq, reduceIte, reduceCtorEq, c1]
      refine callX_nm (refMany p hp.small) rfl rfl ?_
      simp (config := { decide := true }) only [go_sem, Int.reduceToNat, Nat.reduceAdd, Nat.reduceSub, Nat.reduceMul, Nat.reduceBEq, reduceIte, reduceCtorEq, c1, c2]
    · obtain ⟨f3, f4⟩ := none_facts hp (noSl_one hc) l
      have hL := crossLower p [n] l hp h4 (by simp) (by omega)
      have hR := crossRaise p [n] l hp (by simp) (by omega)
      have hL0 := crossLower p [] l hp h4 (by simp) (by omega)
      rw [f3] at hL
      rw [f4] at hR
      rw [f1] at hL0
      cases hr : (runW p (beginS p) l).2.2
      all_goals
        simp only [hr, if_true, Bool.false_eq_true, if_false, Option.getD_some, Option.getD_none, Option.isSome_some, Option.isSome_none] at hL hR hL0
        replace hL0 := HCalls.nilA (args := [prgH p, .v (.slice none 0 0), .sl (pcks l)]) hL0 rfl
        rcases tf ((0 : Int) ≤ n) with ⟨d1, c1⟩ | ⟨d1, c1⟩
        have c2 : (n < (startB p.thr p.thr.length : Int)) = False := eq_false fun h => hc ⟨d1, h⟩
        simp (config := { decide := true }) only [go_sem, Int.reduceToNat, Nat.reduceAdd, Nat.reduceSub, Nat.reduceMul, Nat.reduceBEq, reduceIte, reduceCtorEq, c1]
        refine callX_nm (refMany p hp.small) rfl rfl ?_
        simp (config := { decide := true }) only [go_sem, Int.reduceToNat, Nat.reduceAdd, Nat.reduceSub, Nat.reduceMul, Nat.reduceBEq, reduceIte, reduceCtorEq, c1, c2]
        rotate_left
        simp (config := { decide := true }) only [go_sem, Int.reduceToNat, Nat.reduceAdd, Nat.reduceSub, Nat.reduceMul, Nat.reduceBEq, reduceIte, reduceCtorEq, c1]
        all_goals
          refine callX_nm (refRun p l true hp (by omega)) rfl rfl ?_
          simp (config := { decide := true }) only [go_sem, Int.reduceToNat, Nat.reduceAdd, Nat.reduceSub, Nat.reduceMul, Nat.reduceBEq, reduceIte, reduceCtorEq, hr]
          refine callX_fn 3 (hL) (by simp only [go_sem]; rfl) (by simp only [go_sem]) ?_
          simp (config := { decide := true }) only [go_sem, Int.reduceToNat, Nat.reduceAdd, Nat.reduceSub, Nat.reduceMul, Nat.reduceBEq, reduceIte, reduceCtorEq, hr]
          refine callX_fn 3 (hR) (by simp only [go_sem]; rfl) (by simp only [go_sem]) ?_
          simp (config := { decide := true }) only [go_sem, Int.reduceToNat, Nat.reduceAdd, Nat.reduceSub, Nat.reduceMul, Nat.reduceBEq, reduceIte, reduceCtorEq, hr]
          refine callX_nm (hL0) rfl rfl ?_
          simp (config := { decide := true }) only [go_sem, Int.reduceToNat, Nat.reduceAdd, Nat.reduceSub, Nat.reduceMul, Nat.reduceBEq, reduceIte, reduceCtorEq, hr]
      all_goals
        refine callX_fn 3 (refSamePicks l l (by omega)) (by simp only [go_sem]) rfl ?_
        simp (config := { decide := true }) only [go_sem, Int.reduceToNat, Nat.reduceAdd, Nat.reduceSub, Nat.reduceMul, Nat.reduceBEq, reduceIte, reduceCtorEq, hr]
        refine callX_fn 3 (refSamePicks l l (by omega)) (by simp only [go_sem]) rfl ?_
        simp (config := { decide := true }) only [go_sem, Int.reduceToNat, Nat.reduceAdd, Nat.reduceSub, Nat.reduceMul, Nat.reduceBEq, reduceIte, reduceCtorEq, hr]
        refine callX_fn 3 (refSamePicks l l (by omega)) (by simp only [go_sem]) rfl ?_
        simp (config := { decide := true }) only [go_sem, Int.reduceToNat, Nat.reduceAdd, Nat.reduceSub, Nat.reduceMul, Nat.reduceBEq, reduceIte, reduceCtorEq, hr]
end Go.Proofs.Yteieinhgdjjdoaa
namespace Go.Proofs.Yteieinhgdjjdoaa
open Go.RowKit
set_option linter.unusedVariables false
set_option maxRecDepth 8000
theorem rowOwn : ownKnob Try.prog.godebug = none := by kernel_rfl
theorem lt_of_cell {W : World} {b : Nat} {v : Value} (hm : W.cell? ⟨b, 0, none⟩ = some v) : b < W.heap.size := by
  unfold World.cell? at hm
  simp only at hm
  cases hh : W.heap[b]? with
  | none => rw [hh] at hm; simp at hm
  | some o => exact (Array.getElem?_eq_some_iff.1 hh).1
def Ifcs (W : World) : Prop := ∀ b, globI b = true → ∃ v, W.cell? ⟨b, 0, none⟩ = some v ∧ (v = .nilIface ∨ ∃ t p, v = .iface t p)
theorem noIfc (W : World) : Ifcs W := fun b hb => by simp [globI] at hb
theorem globs_of {W : World} (h : W.ShapedOpen Try.prog) (hI : Ifcs W) : Globs (fun b => b < W.heap.size) W := by
  refine ⟨fun b hb => ?_, fun b hb => ?_⟩
  · simp [globB] at hb
  · obtain ⟨v, hv, hv'⟩ := hI b hb
    exact ⟨lt_of_cell hv, v, hv, hv'⟩
theorem HFn.below {f : FuncId} {args : List HV} {x : Value} {W : World} (h : HFn Try.prog f args (.v x)) (hsh : W.ShapedOpen Try.prog) (hI : Ifcs W) (vals : List Value) (ha : RL (fun b => b < W.heap.size) [] W args vals []) :
    Calls Try.prog f vals.toArray W fun e W' => e = .returned x ∧ Below W.heap.size W W' := by
  refine Calls.mono (h.2 _ [] _ W vals (HInv.empty (fun _ h => h) (globs_of hsh hI)) ha) ?_
  rintro e w' ⟨v, r, H', Z', G', FP', fr, rfl, rfl, hlen, hi', hr, hnd, hfr1, hfr2, hG, hE⟩
  simp only [RV] at hr
  obtain ⟨_, rfl⟩ := hr
  exact ⟨rfl, ⟨hE.os, hE.tape, hE.output, hE.size, fun b hb => hE.keep b hb (by simp)⟩⟩
end Go.Proofs.Yteieinhgdjjdoaa
namespace Go.Proofs.Yteieinhgdjjdoaa
open Go.ChangeShapes Go.WideShapes Go.RowKit
set_option linter.unusedVariables false
set_option maxRecDepth 8000
set_option linter.unusedSimpArgs false
def contF (ok : TypeId → Bool) (cell : TypeId → Nat) : List Field → Nat → Nat → Bool
  | [], o, tot => o == tot
  | f :: fs, o, tot => f.offset == o && ok f.type && contF ok cell fs (o + cell f.type) tot
def plainT (P : Program) : Nat → TypeId → Bool
  | 0, _ => false
  | n + 1, t => match P.underlying t with
    | some .bool => true
    | some (.int _) => true
    | some .string => true
    | some (.slice e) => decide (0 < P.cellsOf e) && plainT P n e
    | some (.struct fs) => contF (plainT P n) P.cellsOf fs.toList 0 (P.cellsOf t)
    | some (.array m e) => decide (P.cellsOf t = m * P.cellsOf e) && plainT P n e
    | _ => false
def ShpF (S : TypeId → List HV → Prop) : List Field → List HV → Prop
  | [], hs => hs = []
  | f :: fs, hs => ∃ a b, hs = a ++ b ∧ S f.type a ∧ ShpF S fs b
def Shp (P : Program) : Nat → TypeId → List HV → Prop
  | 0, _, _ => False
  | n + 1, t, hs => match P.underlying t with
    | some .bool => ∃ b, hs = [.v (.bool b)]
    | some (.int k) => ∃ x, (Lit.int k x).wf = true ∧ hs = [.v (.int k x)]
    | some .string => ∃ s : List UInt8, s.length ≤ maxLen ∧ hs = [.v (str s)]
    | some (.slice e) => ∃ rows : List (List HV), rows.length ≤ maxLen ∧ hs = [.sl rows] ∧ ∀ r ∈ rows, Shp P n e r
    | some (.struct fs) => ShpF (Shp P n) fs.toList hs
    | some (.array m e) => ∃ rows : List (List HV), rows.length = m ∧ hs = rows.flatten ∧ ∀ r ∈ rows, Shp P n e r
    | _ => False
section
variable {H : Type} {enc : TypeId × Value → H} {P : Program} {w : World} {base : Nat} {sp : Nat → Bool} {held : Bool} {Z : Nat → Prop}
def Ones (cs : List Value) : Prop := ∀ c ∈ cs, c.oneCell' = true
theorem RC_of : ∀ (hs : List HV) (cs : List Value) (b k : Nat), RL Z [] w hs cs [] → Ones cs → (∀ i c, cs[i]? = some c → w.cell? ⟨b, k + i, none⟩ = some c) → RC Z [] w hs b k []
  | [], cs, b, k, h, _, _ => by simp [RC]
  | x :: hs, cs, b, k, h, h1, hc => by
    simp only [RL] at h
    obtain ⟨y, ys, f1, f2, rfl, hf, hv, ht⟩ := h
    obtain ⟨rfl, rfl⟩ := List.append_eq_nil_iff.1 hf.symm
    simp only [RC]
    refine ⟨y, [], [], rfl, by simpa using hc 0 y rfl, h1 y (by simp), hv, RC_of hs ys b (k + 1) ht (fun c hc => h1 c (by simp [hc])) fun i c hi => ?_⟩
    have := hc (i + 1) c (by simpa using hi)
    rw [show k + 1 + i = k + (i + 1) by omega]; exact this
theorem RR_of {m : Nat} : ∀ (rows : List (List HV)) (b k : Nat), (∀ r ∈ rows, r.length = m) → (∀ i r, rows[i]? = some r → RC Z [] w r b (k + i * m) []) → RR Z [] w rows b k []
  | [], b, k, _, _ => by simp [RR]
  | r :: rows, b, k, hm, h => by
    simp only [RR]
    refine ⟨[], [], rfl, by simpa using h 0 r rfl, ?_⟩
    rw [hm r (by simp)]
    refine RR_of rows b (k + m) (fun r hr => hm r (by simp [hr])) fun i r hi => ?_
    have := h (i + 1) r (by simpa using hi)
    rw [show k + m + i * m = k + (i + 1) * m by rw [Nat.add_mul]; omega]; exact this
theorem RL_one {h : HV} {y : Value} (hv : RV Z [] w h y []) : RL Z [] w [h] [y] [] := by
  simp only [RL]; exact ⟨y, [], [], [], rfl, rfl, hv, rfl, rfl⟩
theorem cells?_at {a : Addr} {k : Nat} {cs : List Value} (h : w.cells? base a k = some cs) : cs.length = k ∧ ∀ i c, cs[i]? = some c → w.cell? (a.add i) = some c := by
  obtain ⟨_, h2, h3⟩ := World.cells?_some h
  refine ⟨h2, fun i c hi => ?_⟩
  have hlt := (List.getElem?_eq_some_iff.1 hi).1
  have := h3 i (by omega)
  rw [← hi]; exact this
theorem choose_rows {p : Nat → List HV → Prop} : ∀ (n : Nat), (∀ i, i < n → ∃ r, p i r) → ∃ rows : List (List HV), rows.length = n ∧ ∀ i r, rows[i]? = some r → p i r
  | 0, _ => ⟨[], rfl, by simp⟩
  | n + 1, h => by
    obtain ⟨rows, h1, h2⟩ := choose_rows n fun i hi => h i (by omega)
    obtain ⟨r, hr⟩ := h n (by omega)
    refine ⟨rows ++ [r], by simp [h1], fun i x hx => ?_⟩
    rcases Nat.lt_or_ge i rows.length with hi | hi
    · rw [List.getElem?_append_left hi] at hx; exact h2 i x hx
    · rw [List.getElem?_append_right hi] at hx
      have : i - rows.length = 0 := by
        have := (List.getElem?_eq_some_iff.1 hx).1
        simp at this; omega
      rw [this] at hx
      obtain rfl : r = x := by simpa using hx
      rw [show i = n by omega]; exact hr
theorem contF_tot {ok : TypeId → Bool} {cell : TypeId → Nat} : ∀ (fs : List Field) (o tot : Nat), contF ok cell fs o tot = true → o ≤ tot
  | [], _, _, hc => by simp only [contF, beq_iff_eq] at hc; omega
  | f :: fs, o, tot, hc => by
    simp only [contF, Bool.and_eq_true, beq_iff_eq] at hc
    have := contF_tot fs _ tot hc.2
    omega
theorem contF_le {ok : TypeId → Bool} {cell : TypeId → Nat} : ∀ (fs : List Field) (o tot : Nat), contF ok cell fs o tot = true → ∀ (i : Nat) (g : Field), fs[i]? = some g → o ≤ g.offset
  | [], _, _, _, i, g, hg => by simp at hg
  | f :: fs, o, tot, hc, i, g, hg => by
    simp only [contF, Bool.and_eq_true, beq_iff_eq] at hc
    obtain ⟨⟨h1, h2⟩, h3⟩ := hc
    cases i with
    | zero => simp at hg; subst hg; omega
    | succ i =>
      have := contF_le fs _ tot h3 i g (by simpa using hg)
      omega
theorem struct_cells {S : TypeId → List HV → Prop} {ok : TypeId → Bool} {cell : TypeId → Nat} : ∀ (fs : List Field) (o : Nat) (cs : List Value), contF ok cell fs o (o + cs.length) = true →
    (∀ (i : Nat) (f : Field), fs[i]? = some f → ok f.type = true → ∃ hs, S f.type hs ∧ RL Z [] w hs ((cs.drop (f.offset - o)).take (cell f.type)) [] ∧ Ones ((cs.drop (f.offset - o)).take (cell f.type))) →
    ∃ hs, ShpF S fs hs ∧ RL Z [] w hs cs [] ∧ Ones cs
  | [], o, cs, hc, _ => by
    simp only [contF, beq_iff_eq] at hc
    obtain rfl : cs = [] := List.length_eq_zero_iff.1 (by omega)
    exact ⟨[], rfl, by simp [RL], by simp [Ones]⟩
  | f :: fs, o, cs, hc, h => by
    simp only [contF, Bool.and_eq_true, beq_iff_eq] at hc
    obtain ⟨⟨h1, h2⟩, h3⟩ := hc
    obtain ⟨a, sa, ra, oa⟩ := h 0 f rfl h2
    rw [h1, Nat.sub_self, List.drop_zero] at ra oa
    have hle : cell f.type ≤ cs.length := by
      have := contF_tot fs _ _ h3
      omega
    have hlen : o + cs.length = o + cell f.type + (cs.drop (cell f.type)).length := by rw [List.length_drop]; omega
    rw [hlen] at h3
    obtain ⟨b, sb, rb, ob⟩ := struct_cells fs (o + cell f.type) (cs.drop (cell f.type)) h3 fun i g hg hok => by
      have hi := contF_le fs _ _ h3 i g hg
      obtain ⟨hs, k1, k2, k3⟩ := h (i + 1) g (by simpa using hg) hok
      have e : (cs.drop (cell f.type)).drop (g.offset - (o + cell f.type)) = cs.drop (g.offset - o) := by
        rw [List.drop_drop]; congr 1; omega
      rw [e]
      exact ⟨hs, k1, k2, k3⟩
    refine ⟨a ++ b, ⟨a, b, rfl, sa, sb⟩, ?_, ?_⟩
    · have := (RL_append (Z := Z) (G := []) (w := w) a b cs []).2 ⟨cs.take (cell f.type), cs.drop (cell f.type), [], [], by simp, rfl, ra, rb⟩
      exact this
    · intro c hc
      rw [← List.take_append_drop (cell f.type) cs] at hc
      rcases List.mem_append.1 hc with h | h
      · exact oa c h
      · exact ob c h
theorem array_cells {S : List HV → Prop} {k : Nat} : ∀ (m : Nat) (cs : List Value), cs.length = m * k → (∀ i, i < m → ∃ hs, S hs ∧ RL Z [] w hs ((cs.drop (i * k)).take k) [] ∧ Ones ((cs.drop (i * k)).take k)) →
    ∃ rows : List (List HV), rows.length = m ∧ (∀ r ∈ rows, S r) ∧ RL Z [] w rows.flatten cs [] ∧ Ones cs
  | 0, cs, hl, _ => by
    obtain rfl : cs = [] := List.length_eq_zero_iff.1 (by omega)
    exact ⟨[], rfl, by simp, by simp [RL], by simp [Ones]⟩
  | m + 1, cs, hl, h => by
    obtain ⟨a, sa, ra, oa⟩ := h 0 (by omega)
    simp only [Nat.zero_mul, List.drop_zero] at ra oa
    have hk : k ≤ cs.length := by rw [hl, Nat.add_mul]; omega
    obtain ⟨rows, h1, h2, h3, h4⟩ := array_cells (k := k) m (cs.drop k) (by rw [List.length_drop, hl, Nat.add_mul]; omega) fun i hi => by
      obtain ⟨hs, k1, k2, k3⟩ := h (i + 1) (by omega)
      have e : (cs.drop k).drop (i * k) = cs.drop ((i + 1) * k) := by
        rw [List.drop_drop]; congr 1; rw [Nat.add_mul]; omega
      rw [e]; exact ⟨hs, k1, k2, k3⟩
    refine ⟨a :: rows, by simp [h1], ?_, ?_, ?_⟩
    · intro r hr
      rcases List.mem_cons.1 hr with rfl | hr
      · exact sa
      · exact h2 r hr
    · have := (RL_append (Z := Z) (G := []) (w := w) a rows.flatten cs []).2 ⟨cs.take k, cs.drop k, [], [], by simp, rfl, ra, h3⟩
      simpa using this
    · intro c hc
      rw [← List.take_append_drop k cs] at hc
      rcases List.mem_append.1 hc with h | h
      · exact oa c h
      · exact h4 c h
theorem open_cells (hZ : ∀ b, b < w.heap.size → Z b) : ∀ (n : Nat) (t : TypeId) (cs : List Value) (x : DataW H × List MemPlace) (fuel : Nat), plainT P n t = true → DataW.trod enc P w base sp held fuel t cs = some x →
    ∃ hs, Shp P n t hs ∧ RL Z [] w hs cs [] ∧ Ones cs := by
  intro n
  induction n with
  | zero => intro t cs x fuel h; simp [plainT] at h
  | succ n ih =>
    intro t cs x fuel hp hx
    unfold plainT at hp
    unfold Shp
    cases ht : P.underlying t with
    | none => rw [ht] at hp; simp at hp
    | some T =>
      rw [ht] at hp
      cases T with
      | bool =>
        obtain ⟨b, rfl, _⟩ := DataW.trod_bool ht hx
        exact ⟨_, ⟨b, rfl⟩, RL_one (by simp [RV]), by simp [Ones, Value.oneCell']⟩
      | int k =>
        obtain ⟨m, rfl, _, hw⟩ := DataW.trod_int ht hx
        exact ⟨_, ⟨m, hw, rfl⟩, RL_one (by simp [RV]), by simp [Ones, Value.oneCell']⟩
      | string =>
        obtain ⟨s, rfl, _, hw⟩ := DataW.trod_string ht hx
        refine ⟨_, ⟨s.data.toList, by rw [Array.length_toList]; exact hw, rfl⟩, RL_one (by simp [RV, str]), by simp [Ones, Value.oneCell']⟩
      | slice e =>
        simp only [Bool.and_eq_true, decide_eq_true_eq] at hp
        rcases DataW.trod_slice ht hx with ⟨rfl, _⟩ | ⟨a, len, cap, elems, rest, m, _, rfl, _, hb, hl, hm, hlen, hel, _, _⟩
        · refine ⟨_, ⟨[], Nat.zero_le _, rfl, by simp⟩, RL_one ?_, by simp [Ones, Value.oneCell']⟩
          simp only [RV]
          exact ⟨trivial, none, 0, rfl, Nat.zero_le _, Nat.zero_le _, .inl trivial⟩
        · have each : ∀ i, i < len → ∃ r, Shp P n e r ∧ r.length = P.cellsOf e ∧ RC Z [] w r a.block (a.off + i * P.cellsOf e) [] ∧ (i = 0 → a.spot = none) ∧ a.block < w.heap.size := by
            intro i hi
            have h1 := hel i hi
            have hel' : i < elems.length := by omega
            rw [List.getElem?_eq_getElem hel', Option.bind_eq_some_iff] at h1
            obtain ⟨ci, hci, hti⟩ := h1
            obtain ⟨r, sr, rr, o1⟩ := ih e ci _ m hp.2 hti
            obtain ⟨lc, hcell⟩ := cells?_at hci
            have cb : ∀ j c, ci[j]? = some c → w.cell? ((a.add (i * P.cellsOf e)).add j) = some c := hcell
            have h0 : ∃ c, w.cell? (a.add (i * P.cellsOf e)) = some c := by
              have : 0 < ci.length := by omega
              refine ⟨ci[0], ?_⟩
              have := hcell 0 ci[0] (List.getElem?_eq_getElem this)
              simpa [Addr.add] using this
            obtain ⟨c0, h0⟩ := h0
            have hsp : (a.add (i * P.cellsOf e)).spot = none ∧ a.block < w.heap.size := by
              unfold World.cell? at h0
              have hblk0 : (a.add (i * P.cellsOf e)).block = a.block := by simp only [Addr.add]; split <;> rfl
              rw [hblk0] at h0
              cases hh : w.heap[a.block]? with
              | none => rw [hh] at h0; simp at h0
              | some ob =>
                rw [hh] at h0
                refine ⟨?_, (Array.getElem?_eq_some_iff.1 hh).1⟩
                cases ob <;> simp at h0
                exact h0.1
            have hadd : ∀ j, (a.add (i * P.cellsOf e)).add j = ⟨a.block, a.off + i * P.cellsOf e + j, none⟩ := by
              intro j
              have e1 : a.add (i * P.cellsOf e) = ⟨a.block, a.off + i * P.cellsOf e, none⟩ := by
                have h2 := hsp.1
                unfold Addr.add at h2 ⊢
                split
                · rename_i h3
                  rw [if_pos h3] at h2
                  rw [h3]
                  cases a; simp at h2 ⊢; exact h2
                · rfl
              rw [e1]
              unfold Addr.add
              split
              · rename_i h3; rw [h3]; rfl
              · rfl
            refine ⟨r, sr, by have := RL_length (Z := Z) (G := []) (w := w) r ci [] rr; omega, RC_of r ci _ _ rr o1 (fun j c hj => by rw [← hadd]; exact cb j c hj), ?_, hsp.2⟩
            rintro rfl
            have := hsp.1
            rw [Nat.zero_mul] at this
            simpa [Addr.add] using this
          obtain ⟨rows, r1, r2⟩ := choose_rows len each
          refine ⟨_, ⟨rows, by omega, rfl, ?_⟩, RL_one ?_, by simp [Ones, Value.oneCell']⟩
          · intro r hr
            obtain ⟨i, hi⟩ := List.getElem?_of_mem hr
            exact (r2 i r hi).1
          · simp only [RV]
            refine ⟨trivial, some a, cap, by rw [r1], by omega, hm, ?_⟩
            by_cases h0 : rows = []
            · exact .inl h0
            · right
              obtain ⟨r, hi⟩ : ∃ r, rows[0]? = some r := by
                cases rows with
                | nil => exact absurd rfl h0
                | cons r _ => exact ⟨r, rfl⟩
              obtain ⟨_, _, _, q1, q2⟩ := r2 0 r hi
              replace q1 := q1 rfl
              have hlen' : ∀ r ∈ rows, r.length = P.cellsOf e := by
                intro r hr
                obtain ⟨i, hi⟩ := List.getElem?_of_mem hr
                exact (r2 i r hi).2.1
              refine ⟨a.block, a.off, by cases a; simp at q1 ⊢; exact q1, hZ _ q2, ?_, RR_of rows _ _ hlen' fun i r hi => (r2 i r hi).2.2.1⟩
              intro r hr
              rw [hlen' r hr]
              unfold rowLen
              cases rows with
              | nil => simp at hr
              | cons r0 _ => exact (hlen' r0 (by simp)).symm
      | struct fs =>
        obtain ⟨xs, m, _, _, hl, hlen, hf⟩ := DataW.trod_struct ht hx
        simp only at hp
        refine struct_cells (Z := Z) (w := w) fs.toList 0 cs (by rw [hl, Nat.zero_add]; exact hp) fun i f hi hok => ?_
        have h1 := hf i f (by simpa using hi)
        have hlt : i < xs.length := by
          have := (List.getElem?_eq_some_iff.1 hi).1
          simp at this; omega
        rw [List.getElem?_eq_getElem hlt] at h1
        obtain ⟨hs, k1, k2, k3⟩ := ih f.type _ _ m hok h1
        rw [Nat.sub_zero]
        exact ⟨hs, k1, k2, k3⟩
      | array m e =>
        simp only [Bool.and_eq_true, decide_eq_true_eq] at hp
        obtain ⟨xs, k, _, _, hl, hlen, hf⟩ := DataW.trod_array ht hx
        obtain ⟨rows, h1, h2, h3, h4⟩ := array_cells (Z := Z) (w := w) (S := Shp P n e) m cs (by rw [hl]; exact hp.1) fun i hi => by
          have := hf i hi
          rw [List.getElem?_eq_getElem (show i < xs.length by omega)] at this
          exact ih e _ _ k hp.2 this
        exact ⟨_, ⟨rows, h1, rfl, h2⟩, h3, h4⟩
      | _ => simp at hp
theorem rows_map {α : Type} {p : α → List HV} : ∀ (rows : List (List HV)), (∀ r ∈ rows, ∃ a, r = p a) → ∃ l : List α, rows = l.map p
  | [], _ => ⟨[], rfl⟩
  | r :: rows, h => by
    obtain ⟨a, rfl⟩ := h r (by simp)
    obtain ⟨l, rfl⟩ := rows_map rows fun r hr => h r (by simp [hr])
    exact ⟨a :: l, rfl⟩
theorem open_sl (hZ : ∀ b, b < w.heap.size → Z b) {n : Nat} {r : Reach} {b0 : Nat} {t e : TypeId} {v : Value} {d : DataW H} {ps : List MemPlace} (ht : P.underlying t = some (.slice e)) (hp : plainT P (n + 1) t = true) (hval : Value.okWide P w r b0 t v) (hd : DataW.Trod enc P w base sp held t v d ps) :
    ∃ rows : List (List HV), rows.length ≤ maxLen ∧ RV Z [] w (.sl rows) v [] ∧ ∀ r ∈ rows, Shp P n e r := by
  obtain ⟨a, len, cap, rfl⟩ := okWide_slice ht hval
  obtain ⟨fuel, hf⟩ := hd
  obtain ⟨hs, h1, h2, _⟩ := open_cells (Z := Z) hZ (n + 1) t _ _ fuel hp hf
  unfold Shp at h1
  rw [ht] at h1
  obtain ⟨rows, k1, rfl, k2⟩ := h1
  refine ⟨rows, k1, ?_, k2⟩
  have h3 : RL Z [] w [.sl rows] [.slice a len cap] [] := h2
  simp only [RL] at h3
  obtain ⟨y, ys, f1, f2, e1, e2, hv, _⟩ := h3
  obtain ⟨rfl, _⟩ := List.append_eq_nil_iff.1 e2.symm
  cases e1; exact hv
theorem open_ag (hZ : ∀ b, b < w.heap.size → Z b) {n : Nat} {r : Reach} {b0 : Nat} {t : TypeId} {fs : Array Field} {v : Value} {d : DataW H} {ps : List MemPlace} (ht : P.underlying t = some (.struct fs)) (hp : plainT P (n + 1) t = true) (hval : Value.okWide P w r b0 t v) (hd : DataW.Trod enc P w base sp held t v d ps) :
    ∃ hs : List HV, RV Z [] w (.ag hs) v [] ∧ ShpF (Shp P n) fs.toList hs := by
  obtain ⟨cs, rfl, _⟩ := okWide_struct ht hval
  obtain ⟨fuel, hf⟩ := hd
  obtain ⟨hs, h1, h2, _⟩ := open_cells (Z := Z) hZ (n + 1) t _ _ fuel hp hf
  unfold Shp at h1
  rw [ht] at h1
  refine ⟨hs, ?_, h1⟩
  simp only [RV]
  exact ⟨cs, rfl, h2⟩
theorem shp_int {n : Nat} {t : TypeId} {k : IntKind} {hs : List HV} (ht : P.underlying t = some (.int k)) (h : Shp P (n + 1) t hs) : ∃ x, (Lit.int k x).wf = true ∧ hs = [.v (.int k x)] := by
  unfold Shp at h; rw [ht] at h; exact h
theorem shp_bool {n : Nat} {t : TypeId} {hs : List HV} (ht : P.underlying t = some .bool) (h : Shp P (n + 1) t hs) : ∃ b, hs = [.v (.bool b)] := by
  unfold Shp at h; rw [ht] at h; exact h
theorem shp_sl {n : Nat} {t e : TypeId} {hs : List HV} (ht : P.underlying t = some (.slice e)) (h : Shp P (n + 1) t hs) : ∃ rows : List (List HV), rows.length ≤ maxLen ∧ hs = [.sl rows] ∧ ∀ r ∈ rows, Shp P n e r := by
  unfold Shp at h; rw [ht] at h; exact h
theorem shp_ag {n : Nat} {t : TypeId} {fs : Array Field} {hs : List HV} (ht : P.underlying t = some (.struct fs)) (h : Shp P (n + 1) t hs) : ShpF (Shp P n) fs.toList hs := by
  unfold Shp at h; rw [ht] at h; exact h
end
end Go.Proofs.Yteieinhgdjjdoaa
namespace Go.Proofs.Yteieinhgdjjdoaa
open Go.ChangeShapes Go.WideShapes Go.RowKit
set_option linter.unusedVariables false
set_option maxRecDepth 8000
set_option linter.unusedSimpArgs false
section
variable {H : Type} {enc : TypeId × Value → H} {w : World} {base : Nat} {sp : Nat → Bool} {held : Bool} {Z : Nat → Prop}
theorem open_pcks (hZ : ∀ b, b < w.heap.size → Z b) {r : Reach} {b0 : Nat} {v : Value} {d : DataW H} {ps : List MemPlace} (hval : Value.okWide Try.prog w r b0 26 v) (hd : DataW.Trod enc Try.prog w base sp held 26 v d ps) :
    ∃ l : List Pck, RV Z [] w (.sl (pcks l)) v [] := by
  obtain ⟨rows, _, h1, h2⟩ := open_sl (Z := Z) (n := 2) hZ Try.underlying26 (by kernel_rfl) hval hd
  obtain ⟨l, rfl⟩ := rows_map (p := prow) rows fun r hr => by
    obtain ⟨a, b, rfl, ha, c, d, rfl, hc, rfl⟩ := shp_ag Try.underlying62 (h2 r hr)
    obtain ⟨x, _, rfl⟩ := shp_int Try.underlying3 ha
    obtain ⟨y, rfl⟩ := shp_bool Try.underlying4 hc
    exact ⟨⟨x, y⟩, rfl⟩
  exact ⟨l, h1⟩
theorem open_prg (hZ : ∀ b, b < w.heap.size → Z b) {r : Reach} {b0 : Nat} {v : Value} {d : DataW H} {ps : List MemPlace} (hval : Value.okWide Try.prog w r b0 25 v) (hd : DataW.Trod enc Try.prog w base sp held 25 v d ps) :
    ∃ p : Prg, RV Z [] w (prgH p) v [] := by
  obtain ⟨hs, h1, a, b, rfl, ha, c, d, rfl, hc, rfl⟩ := open_ag (Z := Z) (n := 4) hZ Try.underlying25 (by kernel_rfl) hval hd
  obtain ⟨rows, _, rfl, hr⟩ := shp_sl Try.underlying22 ha
  obtain ⟨l, rfl⟩ := rows_map (p := irow) rows fun r h => by
    obtain ⟨x, _, rfl⟩ := shp_int Try.underlying3 (hr r h)
    exact ⟨x, rfl⟩
  obtain ⟨rows, _, rfl, hq⟩ := shp_sl Try.underlying23 hc
  obtain ⟨m, rfl⟩ := rows_map (p := trow) rows fun r h => by
    obtain ⟨rs, _, rfl, hs⟩ := shp_sl Try.underlying45 (hq r h)
    obtain ⟨m, rfl⟩ := rows_map (p := strow) rs fun r h => by
      obtain ⟨a1, _, rfl, h1, a2, _, rfl, h2, a3, _, rfl, h3, a4, _, rfl, h4, a5, _, rfl, h5, rfl⟩ := shp_ag Try.underlying44 (hs r h)
      obtain ⟨x1, _, rfl⟩ := shp_int Try.underlying3 h1
      obtain ⟨x2, _, rfl⟩ := shp_int Try.underlying3 h2
      obtain ⟨x3, _, rfl⟩ := shp_int Try.underlying3 h3
      obtain ⟨x4, _, rfl⟩ := shp_int Try.underlying3 h4
      obtain ⟨x5, _, rfl⟩ := shp_int Try.underlying3 h5
      exact ⟨⟨x1, x2, x3, x4, x5⟩, rfl⟩
    exact ⟨m, rfl⟩
  exact ⟨⟨l, m⟩, h1⟩
end
theorem laidOut : laidOutB Try.prog = true := by kernel_rfl
theorem RL_cons0 {Z : Nat → Prop} {G : List (Option OG)} {w : World} {a : HV} {y : Value} {bs : List HV} {ys : List Value} (h : RV Z G w a y []) (t : RL Z G w bs ys []) : RL Z G w (a :: bs) (y :: ys) [] := by
  simp only [RL]; exact ⟨y, ys, [], [], rfl, rfl, h, t⟩
theorem RL_nil0 {Z : Nat → Prop} {G : List (Option OG)} {w : World} : RL Z G w [] [] [] := by simp [RL]
theorem RV_v0 {Z : Nat → Prop} {G : List (Option OG)} {w : World} (x : Value) : RV Z G w (.v x) x [] := by simp [RV]
end Go.Proofs.Yteieinhgdjjdoaa
