/- Parts of the proof: Fa, Fb, Sb, Db, Fc, Fd, Fe, Ff. -/
import Derived.Test.YtokigghopmopbaaGreatDoorZt09
import Derived.Test.YtokigghopmopbaaGreatDoorZt08
import Derived.Test.YtokigghopmopbaaGreatDoorZt11
import Derived.Test.YtokigghopmopbaaGreatDoorZt10
set_option linter.unusedSectionVars false
set_option linter.unusedVariables false
set_option linter.unusedSimpArgs false
namespace Go.Proofs.YtokigghopmopbaaGreatDoor
open Go.RowKit
set_option maxRecDepth 8000
abbrev tkO (l : List Int) (i : Nat) (b : Bool) : HObj := ⟨53, 3, [[.sl (ints l), .v (.int .i64 i), .v (.bool b)]]⟩
def oneR (l : List Int) (i : Nat) (b : Bool) : Int × Nat × Bool :=
  if b = true ∧ i < l.length then (l.getD i 0, i + 1, true) else (0, i, false)
def manyR (l : List Int) (i : Nat) (b : Bool) : Int × Nat × Bool :=
  let x := oneR l i b
  if x.1 < 0 ∨ (l.length : Int) - (x.2.1 : Int) < x.1 then (0, x.2.1, false) else x
def rowR (l : List Int) : Nat → Nat → Bool → List Int → List Int × Nat × Bool
  | 0, i, b, out => (out, i, b)
  | k + 1, i, b, out => rowR l k (oneR l i b).2.1 (oneR l i b).2.2 (out ++ [(oneR l i b).1])
def rowsR (l : List Int) (i : Nat) (b : Bool) : List Int × Nat × Bool :=
  let x := manyR l i b
  rowR l x.1.toNat x.2.1 x.2.2 []
theorem tkO_nm (m : Nat) (l : List Int) (i : Nat) (b : Bool) : nmR m (tkO l i b).rows = true := rfl
theorem oneR_le {l : List Int} {i : Nat} {b : Bool} (h : i ≤ l.length) : (oneR l i b).2.1 ≤ l.length := by
  unfold oneR; split
  · rename_i hc; exact hc.2
  · exact h
theorem manyR_le {l : List Int} {i : Nat} {b : Bool} (h : i ≤ l.length) : (manyR l i b).2.1 ≤ l.length ∧ 0 ≤ (manyR l i b).1 ∧ (manyR l i b).1 ≤ l.length := by
  have := oneR_le (b := b) h
  unfold manyR
  simp only
  split
  · exact ⟨this, Int.le_refl _, Int.natCast_nonneg _⟩
  · exact ⟨this, by omega, by omega⟩
theorem rowR_le {l : List Int} : ∀ (k i : Nat) (b : Bool) (out : List Int), i ≤ l.length → (rowR l k i b out).2.1 ≤ l.length ∧ (rowR l k i b out).1.length = out.length + k
  | 0, i, b, out, h => ⟨h, rfl⟩
  | k + 1, i, b, out, h => by
    obtain ⟨h1, h2⟩ := rowR_le k _ (oneR l i b).2.2 (out ++ [(oneR l i b).1]) (oneR_le (b := b) h)
    refine ⟨h1, ?_⟩
    rw [rowR, h2]; simp; omega
theorem rowsR_le {l : List Int} {i : Nat} {b : Bool} (h : i ≤ l.length) : (rowsR l i b).2.1 ≤ l.length ∧ (rowsR l i b).1.length ≤ l.length := by
  obtain ⟨h1, h2, h3⟩ := manyR_le (b := b) h
  obtain ⟨h4, h5⟩ := rowR_le (manyR l i b).1.toNat _ (manyR l i b).2.2 [] h1
  exact ⟨h4, by show (rowR _ _ _ _ _).1.length ≤ _; rw [h5]; simp; omega⟩
set_option maxHeartbeats 4000000 in
theorem tkOne (H : Heap) (r : Nat) (l : List Int) (i : Nat) (b : Bool) (hr : H[r]? = some (some (tkO l i b))) (hn : nmH H.length H = true) (hi : i ≤ l.length) (hl : l.length ≤ 1000000) :
    HCalls Tryz.prog 23 H [.pt r 1 0 0] (fun x H' => x = .v (.int .i64 (oneR l i b).1) ∧ H' = H.set r (some (tkO l (oneR l i b).2.1 (oneR l i b).2.2))) := by
  have hg := getO_iff.2 hr
  have hlt := (List.getElem?_eq_some_iff.1 hr).1
  have hgs : ∀ o, getO (H.set r (some o)) r = some o := fun o => getO_iff.2 (by rw [List.getElem?_set_self hlt])
  refine HCalls_body (fn := Tryz.f23) 42 [2] rfl rfl (by kernel_rfl) (HW.run 200 (by kernel_rfl) ?_)
  unfold oneR
  cases b with
  | false =>
    simp (config := { decide := true }) only [go_sem, Int.reduceToNat, Nat.reduceAdd, Nat.reduceSub, Nat.reduceMul, Nat.reduceBEq, reduceIte, reduceCtorEq, hg, hgs, List.length_set]
    refine HW.tree 1 (.light 0 (.light 1 (.light 2 (.light 3 (.light 4 (.light 5 (.light 6 (.light 7 (.light 8 (.light 9 (.light 10 (.light 11 (.light 12 (.light 13 (.light 14 (.light 15 (.light 16 .leaf))))))))))))))))) follows (by kernel_rfl) (by kernel_rfl) ?_
    simp (config := { decide := true }) only [go_sem, Int.reduceToNat, Nat.reduceAdd, Nat.reduceSub, Nat.reduceMul, Nat.reduceBEq, reduceIte, reduceCtorEq, hg, hgs, List.length_set]
    refine endP_set (o := tkO l i false) hn (tkO_nm _ l i false) ?_
    exact ⟨rfl, rfl⟩
  | true =>
    by_cases hlt2 : i < l.length
    · have c1 : ((l.length : Int) ≤ (i : Int)) = False := eq_false (by omega)
      have hw : IntKind.i64.wrap ((i : Int) + 1) = ((i + 1 : Nat) : Int) := by rw [w64 (by omega) (by omega)]; rfl
      have hw2 : IntKind.i64.wrap (((i + 1 : Nat) : Int) - 1) = (i : Int) := by rw [w64 (by omega) (by omega)]; omega
      have hx : l[i]? = some l[i] := List.getElem?_eq_getElem hlt2
      have hgd : l.getD i 0 = l[i] := by rw [List.getD_eq_getElem?_getD, hx]; rfl
      have hc2 : (i < l.length) = True := eq_true hlt2
      rw [if_pos ⟨rfl, hlt2⟩, hgd]
      generalize l[i] = x at hx
      simp (config := { decide := true }) only [go_sem, Int.reduceToNat, Nat.reduceAdd, Nat.reduceSub, Nat.reduceMul, Nat.reduceBEq, reduceIte, reduceCtorEq, hg, hgs, List.length_set]
      refine HW.tree 1 (.light 0 (.light 1 (.light 2 (.light 3 (.light 4 (.light 5 (.light 6 (.light 7 (.light 8 (.light 9 (.light 10 (.light 11 (.light 12 (.light 13 (.light 14 (.light 15 (.light 16 .leaf))))))))))))))))) follows (by kernel_rfl) (by kernel_rfl) ?_
      simp (config := { decide := true }) only [go_sem, Int.reduceToNat, Nat.reduceAdd, Nat.reduceSub, Nat.reduceMul, Nat.reduceBEq, reduceIte, reduceCtorEq, hg, hgs, List.length_set, c1, hw, List.set_set]
      refine HW.tree 1 (.light 0 (.light 1 (.light 2 (.light 3 (.light 4 (.light 5 (.light 6 (.light 7 (.light 8 (.light 9 (.light 10 (.light 11 .leaf)))))))))))) follows (by kernel_rfl) (by kernel_rfl) ?_
      simp (config := { decide := true }) only [go_sem, Int.reduceToNat, Nat.reduceAdd, Nat.reduceSub, Nat.reduceMul, Nat.reduceBEq, reduceIte, reduceCtorEq, hg, hgs, List.length_set, c1, hw, hw2, hx, List.set_set]
      refine ⟨by omega, ?_⟩
      refine endP_set (o := tkO l (i + 1) true) hn (tkO_nm _ l (i + 1) true) ?_
      exact ⟨rfl, rfl⟩
    · have c1 : ((l.length : Int) ≤ (i : Int)) = True := eq_true (by omega)
      rw [if_neg (fun h => hlt2 h.2)]
      simp (config := { decide := true }) only [go_sem, Int.reduceToNat, Nat.reduceAdd, Nat.reduceSub, Nat.reduceMul, Nat.reduceBEq, reduceIte, reduceCtorEq, hg, hgs, List.length_set]
      refine HW.tree 1 (.light 0 (.light 1 (.light 2 (.light 3 (.light 4 (.light 5 (.light 6 (.light 7 (.light 8 (.light 9 (.light 10 (.light 11 (.light 12 (.light 13 (.light 14 (.light 15 (.light 16 .leaf))))))))))))))))) follows (by kernel_rfl) (by kernel_rfl) ?_
      simp (config := { decide := true }) only [go_sem, Int.reduceToNat, Nat.reduceAdd, Nat.reduceSub, Nat.reduceMul, Nat.reduceBEq, reduceIte, reduceCtorEq, hg, hgs, List.length_set, c1]
      refine endP_set (o := tkO l i false) hn (tkO_nm _ l i false) ?_
      exact ⟨rfl, rfl⟩
set_option maxHeartbeats 4000000 in
theorem tkMany (H : Heap) (r : Nat) (l : List Int) (i : Nat) (b : Bool) (hr : H[r]? = some (some (tkO l i b))) (hn : nmH H.length H = true) (hi : i ≤ l.length) (hl : l.length ≤ 1000000) :
    HCalls Tryz.prog 22 H [.pt r 1 0 0] (fun x H' => x = .v (.int .i64 (manyR l i b).1) ∧ H' = H.set r (some (tkO l (manyR l i b).2.1 (manyR l i b).2.2))) := by
  have hlt := (List.getElem?_eq_some_iff.1 hr).1
  have hgs : ∀ o, getO (H.set r (some o)) r = some o := fun o => getO_iff.2 (by rw [List.getElem?_set_self hlt])
  refine HCalls_body (fn := Tryz.f22) 26 [2] rfl rfl (by kernel_rfl) (HW.run 200 (by kernel_rfl) ?_)
  simp (config := { decide := true }) only [go_sem, Int.reduceToNat, Nat.reduceAdd, Nat.reduceSub, Nat.reduceMul, Nat.reduceBEq, reduceIte, reduceCtorEq]
  refine ⟨_, tkOne H r l i b hr hn hi hl, ?_⟩
  rintro x H' ⟨rfl, rfl⟩ -
  have h1 := oneR_le (b := b) hi
  unfold manyR
  generalize oneR l i b = q at h1 ⊢
  obtain ⟨n, j, c⟩ := q
  simp only at h1
  have hw : IntKind.i64.wrap ((l.length : Int) - (j : Int)) = (l.length : Int) - (j : Int) := w64 (by omega) (by omega)
  rcases tfE (n < 0) with ⟨d0, c0⟩ | ⟨d0, c0⟩
  · rw [if_pos (.inl d0)]
    simp (config := { decide := true }) only [go_sem, Int.reduceToNat, Nat.reduceAdd, Nat.reduceSub, Nat.reduceMul, Nat.reduceBEq, reduceIte, reduceCtorEq, c0, hgs, List.length_set]
    refine HW.tree 1 (.light 0 (.light 1 (.light 2 (.light 3 (.light 4 (.light 5 (.light 6 (.light 7 (.light 8 (.light 9 (.light 10 (.light 11 (.light 12 (.light 13 (.light 14 (.light 15 .leaf)))))))))))))))) follows (by kernel_rfl) (by kernel_rfl) ?_
    simp (config := { decide := true }) only [go_sem, Int.reduceToNat, Nat.reduceAdd, Nat.reduceSub, Nat.reduceMul, Nat.reduceBEq, reduceIte, reduceCtorEq, c0, hgs, List.length_set, List.set_set]
    refine endP_set (o := tkO l j false) hn (tkO_nm _ l j false) ?_
    exact ⟨rfl, rfl⟩
  · rcases tfE ((l.length : Int) - (j : Int) < n) with ⟨d1, c1⟩ | ⟨d1, c1⟩
    · rw [if_pos (.inr d1)]
      simp (config := { decide := true }) only [go_sem, Int.reduceToNat, Nat.reduceAdd, Nat.reduceSub, Nat.reduceMul, Nat.reduceBEq, reduceIte, reduceCtorEq, c0, c1, hw, hgs, List.length_set]
      refine HW.tree 1 (.light 0 (.light 1 (.light 2 (.light 3 (.light 4 (.light 5 (.light 6 (.light 7 (.light 8 (.light 9 (.light 10 (.light 11 (.light 12 (.light 13 (.light 14 (.light 15 .leaf)))))))))))))))) follows (by kernel_rfl) (by kernel_rfl) ?_
      simp (config := { decide := true }) only [go_sem, Int.reduceToNat, Nat.reduceAdd, Nat.reduceSub, Nat.reduceMul, Nat.reduceBEq, reduceIte, reduceCtorEq, c0, c1, hw, hgs, List.length_set, List.set_set]
      refine endP_set (o := tkO l j false) hn (tkO_nm _ l j false) ?_
      exact ⟨rfl, rfl⟩
    · rw [if_neg (fun h => h.elim d0 d1)]
      simp (config := { decide := true }) only [go_sem, Int.reduceToNat, Nat.reduceAdd, Nat.reduceSub, Nat.reduceMul, Nat.reduceBEq, reduceIte, reduceCtorEq, c0, c1, hw, hgs, List.length_set]
      refine HW.tree 1 (.light 0 (.light 1 (.light 2 (.light 3 (.light 4 (.light 5 (.light 6 (.light 7 (.light 8 (.light 9 (.light 10 (.light 11 (.light 12 (.light 13 (.light 14 (.light 15 .leaf)))))))))))))))) follows (by kernel_rfl) (by kernel_rfl) ?_
      simp (config := { decide := true }) only [go_sem, Int.reduceToNat, Nat.reduceAdd, Nat.reduceSub, Nat.reduceMul, Nat.reduceBEq, reduceIte, reduceCtorEq, c0, c1, hw, hgs, List.length_set, List.set_set]
      refine endP_set (o := tkO l j c) hn (tkO_nm _ l j c) ?_
      exact ⟨rfl, rfl⟩
theorem tk_get {H : Heap} {r : Nat} {l : List Int} {i : Nat} {b : Bool} (B : Heap) (hlt : r < H.length) : (H.set r (some (tkO l i b)) ++ B)[r]? = some (some (tkO l i b)) := get_front (List.getElem?_set_self hlt)
set_option maxHeartbeats 8000000 in
theorem tkRow (H : Heap) (r : Nat) (l : List Int) (i : Nat) (b : Bool) (hr : H[r]? = some (some (tkO l i b))) (hn : nmH H.length H = true) (hi : i ≤ l.length) (hl : l.length ≤ 1000000) :
    HCalls Tryz.prog 21 H [.pt r 1 0 0] (fun x H' => x = owInts (rowsR l i b).1 ∧ H' = H.set r (some (tkO l (rowsR l i b).2.1 (rowsR l i b).2.2))) := by
  have hlt := (List.getElem?_eq_some_iff.1 hr).1
  have hlen : ∀ o, (H.set r o).length = H.length := fun o => List.length_set
  have hnr : ∀ i b, nmH H.length (H.set r (some (tkO l i b))) = true := fun i b => nmH_set (tkO_nm _ _ _ _) hn
  have g0 : ∀ o (B : Heap), getO (H.set r o ++ B) H.length = getO B 0 := fun o B => getO_behind0 (hlen o)
  have g1 : ∀ o (j : Nat) (B : Heap), getO (H.set r o ++ B) (H.length + j) = getO B j := fun o j B => getO_behind (hlen o)
  have s0 : ∀ o (B : Heap) x, (H.set r o ++ B).set H.length x = H.set r o ++ B.set 0 x := fun o B x => set_behind0 (hlen o)
  have s1 : ∀ o (j : Nat) (B : Heap) x, (H.set r o ++ B).set (H.length + j) x = H.set r o ++ B.set j x := fun o j B x => set_behind (hlen o)
  have hat : ∀ o x, (H.set r o ++ [x])[H.length]? = some x := fun o x => by rw [List.getElem?_append_right (by rw [hlen]; exact Nat.le_refl _), hlen, Nat.sub_self]; rfl
  have hzz : (H.length < H.length) = False := eq_false (Nat.lt_irrefl _)
  have t1 : ∀ o (B : Heap), (H.set r o ++ B).take (H.length + 1) = H.set r o ++ B.take 1 := fun o B => take_behind3 (hlen o)
  refine HCalls_body (fn := Tryz.f21) 21 [2] rfl rfl (by kernel_rfl) (HW.run 200 (by kernel_rfl) ?_)
  simp (config := { decide := true }) only [go_sem, Int.reduceToNat, Nat.reduceAdd, Nat.reduceSub, Nat.reduceMul, Nat.reduceBEq, reduceIte, reduceCtorEq]
  refine ⟨_, tkMany H r l i b hr hn hi hl, ?_⟩
  rintro x H' ⟨rfl, rfl⟩ -
  obtain ⟨h1, h2, h3⟩ := manyR_le (b := b) hi
  unfold rowsR
  generalize manyR l i b = q at h1 h2 h3 ⊢
  obtain ⟨n, j, c⟩ := q
  simp only at h1 h2 h3
  obtain ⟨n, rfl⟩ : ∃ m : Nat, n = m := ⟨n.toNat, by omega⟩
  simp only [Int.toNat_natCast]
  simp (config := { decide := true }) only [go_sem, Int.reduceToNat, Nat.reduceAdd, Nat.reduceSub, Nat.reduceMul, Nat.reduceBEq, reduceIte, reduceCtorEq]
  refine HW.loopG (fun k T H' => ∃ (a j' : Nat) (c' : Bool) (out : List Int), k = n - a ∧ a ≤ n ∧ out.length = a ∧ j' ≤ l.length ∧ rowR l n j c [] = rowR l (n - a) j' c' out ∧ T 0 = .pt r 1 0 0 ∧ T 3 = .v (.int .i64 n) ∧ T 4 = .hd H.length 0 a ∧ T 5 = .v (.int .i64 a) ∧
    H' = H.set r (some (tkO l j' c')) ++ [some ⟨3, 1, ints out⟩]) n ⟨_, _, Ghost.nil 4 3 1 rfl, 0, j, c, [], rfl, by omega, rfl, h1, rfl, rfl, rfl, ?_, rfl, rfl⟩ ?_
  · simp (config := { decide := true }) only [go_sem, Nat.reduceBEq, reduceIte, List.length_set]
  rintro k T H' ⟨a, j', c', out, rfl, ha, ho, hj, hrow, h0, h3', h4, h5, rfl⟩
  refine HW.run 200 (by kernel_rfl) ?_
  by_cases hlt2 : a < n
  · have c2 : ((a : Int) < (n : Int)) = True := by rw [int_ltE]; simp [hlt2]
    simp (config := { decide := true }) only [go_sem, Int.reduceToNat, Nat.reduceAdd, Nat.reduceSub, Nat.reduceMul, Nat.reduceBEq, reduceIte, reduceCtorEq, h0, h3', h4, h5, c2, List.length_set]
    refine ⟨_, tkOne (H.set r (some (tkO l j' c')) ++ [some ⟨3, 1, ints out⟩]) r l j' c' (tk_get _ hlt) (nmH_app (by rw [hlen]; exact hnr j' c') ints_nmR) hj hl, ?_⟩
    rintro x H' ⟨rfl, rfl⟩ -
    rw [List.set_append_left _ _ (by rw [hlen]; exact hlt), List.set_set]
    have hj2 := oneR_le (b := c') hj
    have hro : rowR l (n - a) j' c' out = rowR l (n - (a + 1)) (oneR l j' c').2.1 (oneR l j' c').2.2 (out ++ [(oneR l j' c').1]) := by
      rw [show n - a = (n - (a + 1)) + 1 by omega, rowR]
    rw [hro] at hrow
    generalize oneR l j' c' = q at hj2 hrow
    obtain ⟨v, j2, c3⟩ := q
    simp only at hj2 hrow
    simp (config := { decide := true }) only [go_sem, Int.reduceToNat, Nat.reduceAdd, Nat.reduceSub, Nat.reduceMul, Nat.reduceBEq, reduceIte, reduceCtorEq, h0, h3', h4, h5, hlen, hlt, g0, g1, s0, s1, ho, List.append_assoc, List.length_append]
    refine ⟨⟨by omega, by omega⟩, ?_⟩
    refine ⟨_, _, Ghost.trunc [0, 3, 4, 5] (H.length + 1) (by omega) ?_ (nmH_behind (hlen _) (hnr _ _) ?_), n - (a + 1), by omega, a + 1, j2, c3, out ++ [v], rfl, by omega, by simp; omega, by omega, hrow, ?_, ?_, ?_, ?_, ?_⟩
    · simp (config := { decide := true }) only [go_sem, Nat.reduceBEq, reduceIte, h0, h3', h4, List.all_cons, List.all_nil]
      simp [nm, nmL]; omega
    · simp (config := { decide := true }) only [go_sem, Nat.reduceBEq, reduceIte, List.set_cons_zero, List.take_succ_cons, List.take_zero, List.all_cons, List.all_nil]
    · simp (config := { decide := true }) only [go_sem, Nat.reduceBEq, reduceIte, h0]
    · simp (config := { decide := true }) only [go_sem, Nat.reduceBEq, reduceIte, h3']
    · simp (config := { decide := true }) only [go_sem, Nat.reduceBEq, reduceIte]
      try simp [ho]
    · simp (config := { decide := true }) only [go_sem, Nat.reduceBEq, reduceIte]; rw [w64 (by omega) (by omega)]; rfl
    · rw [t1]; rfl
  · have c2 : ((a : Int) < (n : Int)) = False := by rw [int_ltE]; simp [hlt2]
    simp (config := { decide := true }) only [go_sem, Int.reduceToNat, Nat.reduceAdd, Nat.reduceSub, Nat.reduceMul, Nat.reduceBEq, reduceIte, reduceCtorEq, h0, h3', h4, h5, c2, List.length_set, hlt, g0, hat, hzz, s0, ho]
    have hni : n - a = 0 := by omega
    rw [hni] at hrow
    rw [hrow, rowR]
    refine endP_behind (hlen _) (hnr _ _) ?_
    exact ⟨rfl, rfl⟩
end Go.Proofs.YtokigghopmopbaaGreatDoor
namespace Go.Proofs.YtokigghopmopbaaGreatDoor
open Go.RowKit
set_option maxRecDepth 8000
set_option maxHeartbeats 8000000 in
theorem refNums (s : Sta) (hs : SmallS s) : HFn Tryz.prog 12 [staH s] (owInts (numsB s)) := by
  have b1 := hs.mem
  have b2 := hs.ths
  refine HCalls_body (fn := Tryz.f12) 75 [2] (by kernel_rfl) rfl (by kernel_rfl) (HW.run 400 (by kernel_rfl) ?_)
  simp (config := { decide := true }) only [go_sem, Int.reduceToNat, Nat.reduceAdd, Nat.reduceSub, Nat.reduceMul, Nat.reduceBEq, reduceIte, reduceCtorEq]
  refine ⟨⟨by omega, by omega⟩, ⟨by omega, by omega⟩, ?_⟩
  refine HW.loopG (fun k T H => ∃ (i : Nat) (out : List Int), k = s.ths.length - i ∧ i ≤ s.ths.length ∧ out = [(s.mem.length : Int)] ++ s.mem ++ [(s.ths.length : Int)] ++ (s.ths.take i).flatMap numsT ∧ T 1 = .pt 0 1 0 0 ∧ T 3 = .hd 1 0 out.length ∧ T 4 = .v (.int .i64 i) ∧
    H = [some ⟨25, 2, [[.sl (ints s.mem), .sl (thds s.ths)]]⟩, some ⟨3, 1, ints out⟩]) s.ths.length ⟨_, _, Ghost.trunc [1, 3, 4] 2 (Nat.zero_le _) ?_ ?_, 0, _, rfl, by omega, rfl, ?_, ?_, ?_, ?_⟩ ?_
  · simp (config := { decide := true }) only [go_sem, Nat.reduceBEq, reduceIte]
  · simp (config := { decide := true }) only [go_sem, Nat.reduceBEq, reduceIte]
  · simp (config := { decide := true }) only [go_sem, Nat.reduceBEq, reduceIte]
  · simp (config := { decide := true }) only [go_sem, Nat.reduceBEq, reduceIte]
    simp; try omega
  · simp (config := { decide := true }) only [go_sem, Nat.reduceBEq, reduceIte]
    rfl
  · simp (config := { decide := true }) only [go_sem, Nat.reduceBEq, reduceIte]
    simp [ints, irow]
  rintro k T H ⟨i, out, rfl, hi, ho, h1, h3, h4, rfl⟩
  refine HW.run 200 (by kernel_rfl) ?_
  by_cases hlt : i < s.ths.length
  · have hlt' : ((i : Int) < (s.ths.length : Int)) = True := by rw [int_ltE]; simp [hlt]
    have hx : s.ths[i]? = some s.ths[i] := List.getElem?_eq_getElem hlt
    obtain ⟨b3, b4⟩ := hs.t _ (List.getElem_mem hlt)
    have hfl := flatT_len (l := s.ths.take i) fun t ht => hs.t t (List.mem_of_mem_take ht)
    rw [List.length_take] at hfl
    generalize s.ths[i] = x at hx b3 b4
    have b5 : out.length ≤ 2000000000 := by rw [ho]; simp only [List.length_append, List.length_cons, List.length_nil]; omega
    obtain ⟨q, hq⟩ : ∃ q : Int, q = if x.eq = true then 1 else 0 := ⟨_, rfl⟩
    have hnx : numsT x = [x.pc, q, (x.regs.length : Int)] ++ x.regs ++ [(x.buf.length : Int)] ++ flatW x.buf := by rw [hq]; rfl
    have hon : out ++ numsT x = [(s.mem.length : Int)] ++ s.mem ++ [(s.ths.length : Int)] ++ (s.ths.take (i + 1)).flatMap numsT := by rw [ho, flatMap_snoc hx]; simp
    cases he : x.eq
    all_goals
      rw [he] at hq
      simp only [if_true, Bool.false_eq_true, if_false] at hq
      simp (config := { decide := true }) only [go_sem, Int.reduceToNat, Nat.reduceAdd, Nat.reduceSub, Nat.reduceMul, Nat.reduceBEq, reduceIte, reduceCtorEq, h1, h3, h4, hlt', hx, he]
      have hq2 : x.eq = decide (q = 1) := by rw [he, hq]; rfl
      obtain ⟨o2, ho2⟩ : ∃ o2 : List Int, o2 = out ++ [x.pc, q, (x.regs.length : Int)] ++ x.regs ++ [(x.buf.length : Int)] := ⟨_, rfl⟩
      have hl2 : o2.length = out.length + 3 + x.regs.length + 1 := by rw [ho2]; simp only [List.length_append, List.length_cons, List.length_nil]
      refine HW.treeI (fun T' H' => T' 1 = .pt 0 1 0 0 ∧ T' 3 = .hd 1 0 o2.length ∧ T' 4 = .v (.int .i64 i) ∧ T' 5 = .pt 2 1 0 0 ∧
        H' = [some ⟨25, 2, [[.sl (ints s.mem), .sl (thds s.ths)]]⟩, some ⟨3, 1, ints o2⟩, some ⟨40, 4, [throw x]⟩]) (.light 0 (.light 1 (.light 2 (.light 3 (.light 4 (.light 5 (.light 6 (.light 9 (.light 10 (.light 12 (.light 13 (.light 14 (.heavy 7 [0,9,10,12,13,14] (.heavy 8 [9,10,12,13,14] (.heavy 11 [12,13,14] (.heavy 15 [0,1,2,3,4,5,6,9,10] (.heavy 16 [] (.light 17 .leaf) .stop) .stop) (.heavy 15 [0,1,2,3,4,5,6,9,10] (.heavy 11 [12,13,14] (.heavy 16 [] (.light 17 .leaf) .stop) .stop) .stop)) (.heavy 15 [0,1,2,3,4,5,6,9,10] (.heavy 8 [9,10,12,13,14] (.heavy 11 [12,13,14] (.heavy 16 [] (.light 17 .leaf) .stop) .stop) .stop) .stop)) (.heavy 15 [0,1,2,3,4,5,6,9,10] (.heavy 7 [0,9,10,12,13,14] (.heavy 8 [9,10,12,13,14] (.heavy 11 [12,13,14] (.heavy 16 [] (.light 17 .leaf) .stop) .stop) .stop) .stop) .stop)))))))))))))) follows (by kernel_rfl) (by kernel_rfl) ?_ ?_
      · simp (config := { decide := true }) only [go_sem, Int.reduceToNat, Nat.reduceAdd, Nat.reduceSub, Nat.reduceMul, Nat.reduceBEq, reduceIte, reduceCtorEq, h1, h3, h4, hlt', hx, he]
        (with_reducible and_intros) <;> first | omega | skip
        all_goals
          refine GQ.step (Ghost.trunc [1, 3, 4, 5] 3 (Nat.zero_le _) ?_ ?_) (GQ.done ⟨?_, ?_, ?_, ?_, ?_⟩)
          · simp (config := { decide := true }) only [go_sem, Nat.reduceBEq, reduceIte, h1, h3, h4]
          · simp (config := { decide := true }) only [go_sem, Nat.reduceBEq, reduceIte, nmR_append]
          · simp (config := { decide := true }) only [go_sem, Nat.reduceBEq, reduceIte, h1]
          · simp (config := { decide := true }) only [go_sem, Nat.reduceBEq, reduceIte]
            rw [hl2]
          · simp (config := { decide := true }) only [go_sem, Nat.reduceBEq, reduceIte, h4]
          · simp (config := { decide := true }) only [go_sem, Nat.reduceBEq, reduceIte]
          · simp (config := { decide := true }) only [go_sem, Nat.reduceBEq, reduceIte, he]
            rw [ho2, hq]
            simp [ints, irow]
      clear h1 h3 h4 T
      rintro T H ⟨h1, h3, h4, h5, rfl⟩
      simp (config := { decide := true }) only [go_sem, Int.reduceToNat, Nat.reduceAdd, Nat.reduceSub, Nat.reduceMul, Nat.reduceBEq, reduceIte, reduceCtorEq, h1, h3, h4, h5]
      refine HW.loopG (fun k T H => ∃ (j : Nat) (o3 : List Int), k = x.buf.length - j ∧ j ≤ x.buf.length ∧ o3 = o2 ++ flatW (x.buf.take j) ∧ T 1 = .pt 0 1 0 0 ∧ T 3 = .hd 1 0 o3.length ∧ T 4 = .v (.int .i64 i) ∧ T 5 = .pt 2 1 0 0 ∧ T 7 = .v (.int .i64 j) ∧
        H = [some ⟨25, 2, [[.sl (ints s.mem), .sl (thds s.ths)]]⟩, some ⟨3, 1, ints o3⟩, some ⟨40, 4, [throw x]⟩]) x.buf.length ⟨_, _, Ghost.refl, 0, o2, rfl, by omega, by simp [flatW], ?_, ?_, ?_, ?_, ?_, rfl⟩ ?_
      · simp (config := { decide := true }) only [go_sem, Nat.reduceBEq, reduceIte, h1]
      · simp (config := { decide := true }) only [go_sem, Nat.reduceBEq, reduceIte, h3]
      · simp (config := { decide := true }) only [go_sem, Nat.reduceBEq, reduceIte, h4]
      · simp (config := { decide := true }) only [go_sem, Nat.reduceBEq, reduceIte, h5]
      · simp (config := { decide := true }) only [go_sem, Nat.reduceBEq, reduceIte]
        rfl
      rintro k T H ⟨j, o3, rfl, hj, ho3, h1, h3, h4, h5, h7, rfl⟩
      refine HW.run 200 (by kernel_rfl) ?_
      by_cases hjl : j < x.buf.length
      · have hjl' : ((j : Int) < (x.buf.length : Int)) = True := by rw [int_ltE]; simp [hjl]
        have hy : x.buf[j]? = some x.buf[j] := List.getElem?_eq_getElem hjl
        have b6 : o3.length ≤ 2001000000 := by
          rw [ho3, List.length_append, hl2, flatW_len, List.length_take]; omega
        generalize x.buf[j] = y at hy
        simp (config := { decide := true }) only [go_sem, Int.reduceToNat, Nat.reduceAdd, Nat.reduceSub, Nat.reduceMul, Nat.reduceBEq, reduceIte, reduceCtorEq, h1, h3, h4, h5, h7, hjl', hy]
        refine HW.tree 1 (.light 0 (.light 1 (.light 2 (.light 3 (.light 4 (.light 5 (.light 6 (.light 7 (.light 8 (.light 9 (.light 10 (.light 11 (.light 12 (.heavy 13 [0] (.heavy 14 [] (.light 15 .leaf) .stop) .stop)))))))))))))) follows (by kernel_rfl) (by kernel_rfl) ?_
        simp (config := { decide := true }) only [go_sem, Int.reduceToNat, Nat.reduceAdd, Nat.reduceSub, Nat.reduceMul, Nat.reduceBEq, reduceIte, reduceCtorEq, h1, h3, h4, h5, h7, hjl', hy]
        refine ⟨⟨by omega, by omega⟩, ?_⟩
        refine GQ.step (Ghost.trunc [1, 3, 4, 5, 7] 3 (Nat.zero_le _) ?_ ?_) (GQ.done ⟨x.buf.length - (j + 1), by omega, j + 1, o3 ++ [y.1, y.2], rfl, by omega, ?_, ?_, ?_, ?_, ?_, ?_, ?_⟩)
        · simp (config := { decide := true }) only [go_sem, Nat.reduceBEq, reduceIte, h1, h3, h4, h5]
        · simp (config := { decide := true }) only [go_sem, Nat.reduceBEq, reduceIte, nmR_append]
        · rw [ho3, flatW_snoc hy]; simp
        · simp (config := { decide := true }) only [go_sem, Nat.reduceBEq, reduceIte, h1]
        · simp (config := { decide := true }) only [go_sem, Nat.reduceBEq, reduceIte, h3]
          try simp
        · simp (config := { decide := true }) only [go_sem, Nat.reduceBEq, reduceIte, h4]
        · simp (config := { decide := true }) only [go_sem, Nat.reduceBEq, reduceIte, h5]
        · simp (config := { decide := true }) only [go_sem, Nat.reduceBEq, reduceIte, h7]
          rw [w64 (by omega) (by omega)]; rfl
        · simp (config := { decide := true }) only [go_sem, Nat.reduceBEq, reduceIte]
          try simp [ints, irow]
      · have hjl' : ((j : Int) < (x.buf.length : Int)) = False := by rw [int_ltE]; simp [hjl]
        simp (config := { decide := true }) only [go_sem, Int.reduceToNat, Nat.reduceAdd, Nat.reduceSub, Nat.reduceMul, Nat.reduceBEq, reduceIte, reduceCtorEq, h1, h3, h4, h5, h7, hjl']
        have hfin : o3 = out ++ numsT x := by rw [ho3, ho2, hnx, List.take_of_length_le (by omega)]; simp
        refine GQ.step (Ghost.trunc [1, 3, 4] 2 (Nat.zero_le _) ?_ ?_) (GQ.done ⟨s.ths.length - (i + 1), by omega, i + 1, o3, rfl, by omega, by rw [hfin, hon]; rfl, ?_, ?_, ?_, rfl⟩)
        · simp (config := { decide := true }) only [go_sem, Nat.reduceBEq, reduceIte, h1, h3, h4]
        · simp (config := { decide := true }) only [go_sem, Nat.reduceBEq, reduceIte]
        · simp (config := { decide := true }) only [go_sem, Nat.reduceBEq, reduceIte, h1]
        · simp (config := { decide := true }) only [go_sem, Nat.reduceBEq, reduceIte, h3]
        · simp (config := { decide := true }) only [go_sem, Nat.reduceBEq, reduceIte, h4]
          rw [w64 (by omega) (by omega)]; rfl
  · have hlt' : ((i : Int) < (s.ths.length : Int)) = False := by rw [int_ltE]; simp [hlt]
    simp (config := { decide := true }) only [go_sem, Int.reduceToNat, Nat.reduceAdd, Nat.reduceSub, Nat.reduceMul, Nat.reduceBEq, reduceIte, reduceCtorEq, h1, h3, h4, hlt']
    rw [ho, List.take_of_length_le (by omega)]
    rfl
end Go.Proofs.YtokigghopmopbaaGreatDoor
namespace Go.Proofs.YtokigghopmopbaaGreatDoor
open Go.RowKit
set_option maxRecDepth 8000
end Go.Proofs.YtokigghopmopbaaGreatDoor
namespace Go.Proofs.YtokigghopmopbaaGreatDoor
open Go.RowKit
set_option maxRecDepth 8000
def throwO (x : Thd) : List HV := [.v (.int .i64 x.pc), .ow 3 1 (ints x.regs), .v (.bool x.eq), .ow 37 2 (wrts x.buf)]
def thdsO (l : List Thd) : List (List HV) := l.map throwO
theorem thdsO_nil : thdsO [] = [] := rfl
theorem thdsO_append {a b : List Thd} : thdsO a ++ thdsO b = thdsO (a ++ b) := by simp [thdsO]
theorem thdsO_length {l : List Thd} : (thdsO l).length = l.length := by simp [thdsO]
theorem thdsO_get {l : List Thd} {i : Nat} : (thdsO l)[i]? = l[i]?.map throwO := by simp [thdsO]
theorem thdsO_drop {l : List Thd} {i : Nat} : (thdsO l).drop i = thdsO (l.drop i) := by simp [thdsO, List.map_drop]
theorem thdsO_take {l : List Thd} {i : Nat} : (thdsO l).take i = thdsO (l.take i) := by simp [thdsO, List.map_take]
theorem thdsO_rowsLen {l : List Thd} : RowsLen (thdsO l) 4 = True := by
  simp only [RowsLen, thdsO, List.mem_map, eq_iff_iff, iff_true]
  rintro r ⟨a, _, rfl⟩; rfl
theorem thdsO_nmR {m : Nat} : ∀ {l : List Thd}, nmR m (thdsO l) = true
  | [] => rfl
  | x :: l => by
    show nmR m (throwO x :: thdsO l) = true
    simp only [nmR, throwO, nmL, nm, thdsO_nmR, Bool.and_self]
theorem thdsO_nzR : ∀ {l : List Thd}, nzR (thdsO l) = true
  | [] => rfl
  | x :: l => by
    show nzR (throwO x :: thdsO l) = true
    simp only [nzR, throwO, nzL, nz, ints_nzR, wrts_nzR, thdsO_nzR, Bool.and_self]
theorem throwO_fzo (x : Thd) : fzoL (throwO x) = throw x := by
  simp only [throwO, throw, fzoL, fzo, ints_fzoR, wrts_fzoR]
theorem thdsO_fzoR : ∀ {l : List Thd}, fzoR (thdsO l) = thds l
  | [] => rfl
  | x :: l => by
    show fzoR (throwO x :: thdsO l) = throw x :: thds l
    simp only [fzoR, throwO_fzo, thdsO_fzoR]
theorem throwO_fz (x : Thd) {k : Nat} {H : Heap} : (throwO x).map (fz k H) = throw x := by
  cases k <;> simp only [throwO, throw, List.map_cons, List.map_nil, fz, fzo, ints_fzoR, wrts_fzoR]
theorem thdsO_fz {l : List Thd} {k : Nat} {H : Heap} : (thdsO l).map (fun r => r.map (fz k H)) = thds l := by
  simp only [thdsO, thds, List.map_map]
  apply List.map_congr_left
  intro x _
  exact throwO_fz x
theorem thdsO_snocL {l : List Thd} {a : Int} {r : List Int} {e : Bool} {b : List (Int × Int)} : thdsO l ++ [[.v (.int .i64 a), .ow 3 1 (ints r), .v (.bool e), .ow 37 2 (wrts b)]] = thdsO (l ++ [⟨a, r, e, b⟩]) := by simp [thdsO, throwO]
theorem thdsO_setL {l : List Thd} {i : Nat} {a : Int} {r : List Int} {e : Bool} {b : List (Int × Int)} : (thdsO l).set i [.v (.int .i64 a), .ow 3 1 (ints r), .v (.bool e), .ow 37 2 (wrts b)] = thdsO (l.set i ⟨a, r, e, b⟩) := by simp [thdsO, throwO, List.map_set]
attribute [go_sem] thdsO_snocL thdsO_setL
attribute [go_sem] thdsO_nil thdsO_append thdsO_length thdsO_get thdsO_drop thdsO_take thdsO_rowsLen thdsO_nmR thdsO_nzR thdsO_fzoR thdsO_fz throwO
end Go.Proofs.YtokigghopmopbaaGreatDoor
namespace Go.Proofs.YtokigghopmopbaaGreatDoor
open Go.RowKit
set_option maxRecDepth 8000
def wrtsR (l : List Int) : Nat → Nat → Bool → List (Int × Int) → List (Int × Int) × Nat × Bool
  | 0, i, b, out => (out, i, b)
  | k + 1, i, b, out =>
    if b = true then wrtsR l k (oneR l (oneR l i b).2.1 (oneR l i b).2.2).2.1 (oneR l (oneR l i b).2.1 (oneR l i b).2.2).2.2 (out ++ [((oneR l i b).1, (oneR l (oneR l i b).2.1 (oneR l i b).2.2).1)])
    else (out, i, b)
def threadR (l : List Int) (i : Nat) (b : Bool) : Thd × Nat × Bool :=
  let a := oneR l i b
  let e := oneR l a.2.1 a.2.2
  let r := rowsR l e.2.1 (if e.1 ≠ 0 ∧ e.1 ≠ 1 then false else e.2.2)
  let n := manyR l r.2.1 r.2.2
  let w := wrtsR l n.1.toNat n.2.1 n.2.2 []
  (⟨a.1, r.1, decide (e.1 = 1), w.1⟩, w.2.1, w.2.2)
def thsR (l : List Int) : Nat → Nat → Bool → List Thd → List Thd × Nat × Bool
  | 0, i, b, out => (out, i, b)
  | k + 1, i, b, out => if b = true then thsR l k (threadR l i b).2.1 (threadR l i b).2.2 (out ++ [(threadR l i b).1]) else (out, i, b)
def staR (l : List Int) : Sta × Nat × Bool :=
  let m := rowsR l 0 true
  let k := manyR l m.2.1 m.2.2
  let t := thsR l k.1.toNat k.2.1 k.2.2 []
  (⟨m.1, t.1⟩, t.2.1, t.2.2)
def ofR (l : List Int) : Sta × Bool :=
  if (staR l).2.2 = true ∧ (staR l).2.1 = l.length ∧ numsB (staR l).1 = l then ((staR l).1, true) else (⟨[], []⟩, false)
theorem wrtsR_le {l : List Int} : ∀ (k i : Nat) (b : Bool) (out : List (Int × Int)), i ≤ l.length → (wrtsR l k i b out).2.1 ≤ l.length ∧ (wrtsR l k i b out).1.length ≤ out.length + k
  | 0, i, b, out, h => ⟨h, Nat.le_refl _⟩
  | k + 1, i, b, out, h => by
    rw [wrtsR]
    split
    · obtain ⟨h1, h2⟩ := wrtsR_le k _ (oneR l (oneR l i b).2.1 (oneR l i b).2.2).2.2 (out ++ [((oneR l i b).1, (oneR l (oneR l i b).2.1 (oneR l i b).2.2).1)]) (oneR_le (b := (oneR l i b).2.2) (oneR_le (b := b) h))
      refine ⟨h1, ?_⟩
      rw [List.length_append] at h2
      simp only [List.length_cons, List.length_nil] at h2
      omega
    · exact ⟨h, by simp⟩
theorem wrtsR_stop {l : List Int} {k i : Nat} {out : List (Int × Int)} : wrtsR l k i false out = (out, i, false) := by cases k <;> rfl
theorem thsR_stop {l : List Int} {k i : Nat} {out : List Thd} : thsR l k i false out = (out, i, false) := by cases k <;> rfl
theorem threadR_le {l : List Int} {i : Nat} {b : Bool} (h : i ≤ l.length) : (threadR l i b).2.1 ≤ l.length ∧ (threadR l i b).1.regs.length ≤ l.length ∧ (threadR l i b).1.buf.length ≤ l.length := by
  unfold threadR
  simp only
  have h1 := oneR_le (b := b) h
  generalize oneR l i b = a at h1 ⊢
  have h2 := oneR_le (b := a.2.2) h1
  generalize oneR l a.2.1 a.2.2 = e at h2 ⊢
  obtain ⟨h3, h4⟩ := rowsR_le (b := if e.1 ≠ 0 ∧ e.1 ≠ 1 then false else e.2.2) h2
  generalize rowsR l e.2.1 _ = r at h3 h4 ⊢
  obtain ⟨h5, h6, h7⟩ := manyR_le (b := r.2.2) h3
  generalize manyR l r.2.1 r.2.2 = n at h5 h6 h7 ⊢
  obtain ⟨h8, h9⟩ := wrtsR_le n.1.toNat n.2.1 n.2.2 [] h5
  refine ⟨h8, h4, ?_⟩
  simp only [List.length_nil] at h9
  omega
abbrev ofH (l m : List Int) (i : Nat) (b : Bool) (ths : List Thd) : Heap :=
  [some ⟨25, 2, [[.v (.slice none 0 0), .v (.slice none 0 0)]]⟩, some (tkO l i b), some ⟨25, 2, [[.hd 3 0 m.length, .hd 4 0 ths.length]]⟩, some ⟨3, 1, ints m⟩, some ⟨40, 4, thdsO ths⟩]
abbrev ofH2 (l m : List Int) (i : Nat) (b : Bool) (ths : List Thd) (t : Thd) : Heap :=
  ofH l m i b ths ++ [some ⟨40, 4, [[.v (.int .i64 t.pc), .hd 6 0 t.regs.length, .v (.bool t.eq), .hd 7 0 t.buf.length]]⟩, some ⟨3, 1, ints t.regs⟩, some ⟨37, 2, wrts t.buf⟩]
set_option maxHeartbeats 16000000 in
theorem refOf0 (l : List Int) (hl : l.length ≤ 2000) : HFn Tryz.prog 7 [.sl (ints l)] (.tu [staH (ofR l).1, .v (.bool (ofR l).2)]) := by
  refine HCalls.conv (Q := fun x _ => x = .tu [staH (ofR l).1, .v (.bool (ofR l).2)] ∨ ((ofR l) = (⟨[], []⟩, false) ∧ x = .tu [.ag [.v (.slice none 0 0), .v (.slice none 0 0)], .v (.bool false)])) (HCalls.mono (HCalls.shut (Q := fun x H' => (x = .tu [.ag [.ow 3 1 (ints (ofR l).1.mem), .ow 40 4 (thdsO (ofR l).1.ths)], .v (.bool (ofR l).2)] ∨ ((ofR l) = (⟨[], []⟩, false) ∧ x = .tu [.ag [.v (.slice none 0 0), .v (.slice none 0 0)], .v (.bool false)])) ∧ H' = []) ?_ ?_) ?_) ?_
  rotate_left
  · exact fun r H' h => ⟨rfl, h.2⟩
  · rintro x H' ⟨r0, ⟨rfl | ⟨h1, rfl⟩, rfl⟩, rfl⟩
    · exact .inl (by simp only [fzo, fzoL, ints_fzoR, thdsO_fzoR])
    · exact .inr ⟨h1, by simp only [fzo, fzoL]⟩
  · rintro x H' (rfl | ⟨h, rfl⟩)
    · exact ⟨_, rfl, .inl rfl⟩
    · rw [h]; exact ⟨_, rfl, .inr ⟨rfl, Conv.nilSta _⟩⟩
  have hof : ofR l = if (staR l).2.2 = true ∧ (staR l).2.1 = l.length ∧ numsB (staR l).1 = l then ((staR l).1, true) else (⟨[], []⟩, false) := rfl
  have hst : staR l = (⟨(rowsR l 0 true).1, (thsR l (manyR l (rowsR l 0 true).2.1 (rowsR l 0 true).2.2).1.toNat (manyR l (rowsR l 0 true).2.1 (rowsR l 0 true).2.2).2.1 (manyR l (rowsR l 0 true).2.1 (rowsR l 0 true).2.2).2.2 []).1⟩, (thsR l (manyR l (rowsR l 0 true).2.1 (rowsR l 0 true).2.2).1.toNat (manyR l (rowsR l 0 true).2.1 (rowsR l 0 true).2.2).2.1 (manyR l (rowsR l 0 true).2.1 (rowsR l 0 true).2.2).2.2 []).2) := rfl
  generalize ofR l = R at hof ⊢
  generalize staR l = S at hof hst
  refine HCalls_bodyC (fn := Tryz.f7) 107 [.cell 2 25, .tmp 3] (by kernel_rfl) rfl rfl (by kernel_rfl) (HW.run 400 (by kernel_rfl) ?_)
  simp (config := { decide := true }) only [go_sem, Int.reduceToNat, Nat.reduceAdd, Nat.reduceSub, Nat.reduceMul, Nat.reduceBEq, reduceIte, reduceCtorEq]
  refine ⟨_, tkRow [some ⟨25, 2, [[.v (.slice none 0 0), .v (.slice none 0 0)]]⟩, some (tkO l 0 true), some ⟨25, 2, [[.v (.slice none 0 0), .v (.slice none 0 0)]]⟩] 1 l 0 true rfl rfl (Nat.zero_le _) (by omega), ?_⟩
  rintro x H' ⟨rfl, rfl⟩ -
  obtain ⟨b1, b2⟩ := rowsR_le (l := l) (b := true) (Nat.zero_le _)
  generalize rowsR l 0 true = q at b1 b2 hst ⊢
  obtain ⟨m, i1, c1⟩ := q
  simp only at b1 b2 hst
  simp (config := { decide := true }) only [go_sem, Int.reduceToNat, Nat.reduceAdd, Nat.reduceSub, Nat.reduceMul, Nat.reduceBEq, reduceIte, reduceCtorEq]
  refine ⟨_, tkMany [some ⟨25, 2, [[.v (.slice none 0 0), .v (.slice none 0 0)]]⟩, some (tkO l i1 c1), some ⟨25, 2, [[.hd 3 0 m.length, .v (.slice none 0 0)]]⟩, some ⟨3, 1, ints m⟩] 1 l i1 c1 rfl (by simp (config := { decide := true }) only [go_sem, Nat.reduceBEq, reduceIte]) b1 (by omega), ?_⟩
  rintro x H' ⟨rfl, rfl⟩ -
  obtain ⟨b3, b4, b5⟩ := manyR_le (l := l) (b := c1) b1
  generalize manyR l i1 c1 = q at b3 b4 b5 hst ⊢
  obtain ⟨n, i2, c2⟩ := q
  simp only at b3 b4 b5 hst
  obtain ⟨n, rfl⟩ : ∃ k : Nat, n = k := ⟨n.toNat, by omega⟩
  simp only [Int.toNat_natCast] at hst
  simp (config := { decide := true }) only [go_sem, Int.reduceToNat, Nat.reduceAdd, Nat.reduceSub, Nat.reduceMul, Nat.reduceBEq, reduceIte, reduceCtorEq]
  refine HW.loopG (fun k T H => ∃ (a i : Nat) (b : Bool) (ths : List Thd), k = n - a ∧ a ≤ n ∧ ths.length = a ∧ i ≤ l.length ∧ (∀ t ∈ ths, t.regs.length ≤ l.length ∧ t.buf.length ≤ l.length) ∧ thsR l n i2 c2 [] = thsR l (n - a) i b ths ∧
    T 0 = .sl (ints l) ∧ T 2 = .pt 0 1 0 0 ∧ T 3 = .v (.bool false) ∧ T 4 = .pt 1 1 0 0 ∧ T 5 = .pt 2 1 0 0 ∧ T 6 = .v (.int .i64 n) ∧ T 7 = .v (.int .i64 a) ∧ H = ofH l m i b ths) n
    ⟨_, _, (Ghost.cell 2 0 1 (.ow 40 4 []) rfl rfl rfl rfl (Conv.nilOw _ _) (by simp)).trans (Ghost.open 2 0 1), 0, i2, c2, [], rfl, by omega, rfl, b3, by simp, rfl, rfl, rfl, rfl, rfl, rfl, rfl, rfl, ?_⟩ ?_
  · rfl
  rintro k T H ⟨a, i, b, ths, rfl, ha, hta, hi, htb, hrow, h0, h2, h3, h4, h5, h6, h7, rfl⟩
  refine HW.run 300 (by kernel_rfl) ?_
  by_cases hlt : a < n
  · have hlt' : ((a : Int) < (n : Int)) = True := by rw [int_ltE]; simp [hlt]
    cases b with
    | true =>
      have hro : thsR l (n - a) i true ths = thsR l (n - (a + 1)) (threadR l i true).2.1 (threadR l i true).2.2 (ths ++ [(threadR l i true).1]) := by
        rw [show n - a = (n - (a + 1)) + 1 by omega, thsR, if_pos rfl]
      rw [hro] at hrow
      have htl := threadR_le (b := true) hi
      have hT : threadR l i true = threadR l i true := rfl
      conv at hT => rhs; unfold threadR
      generalize threadR l i true = tr at hrow htl hT
      simp only at hT
      simp (config := { decide := true }) only [go_sem, Int.reduceToNat, Nat.reduceAdd, Nat.reduceSub, Nat.reduceMul, Nat.reduceBEq, reduceIte, reduceCtorEq, h0, h2, h3, h4, h5, h6, h7, hlt']
      refine ⟨_, tkOne (ofH l m i true ths ++ [some ⟨40, 4, [[.v (.int .i64 0), .v (.slice none 0 0), .v (.bool false), .v (.slice none 0 0)]]⟩]) 1 l i true rfl (by simp (config := { decide := true }) only [go_sem, Nat.reduceBEq, reduceIte]) hi (by omega), ?_⟩
      rintro x H' ⟨rfl, rfl⟩ -
      have d1 := oneR_le (b := true) hi
      generalize oneR l i true = q at d1 hT ⊢
      obtain ⟨pc, j1, e1⟩ := q
      simp only at d1 hT
      simp (config := { decide := true }) only [go_sem, Int.reduceToNat, Nat.reduceAdd, Nat.reduceSub, Nat.reduceMul, Nat.reduceBEq, reduceIte, reduceCtorEq, h0, h2, h3, h4, h5, h6, h7]
      refine ⟨_, tkOne (ofH l m j1 e1 ths ++ [some ⟨40, 4, [[.v (.int .i64 pc), .v (.slice none 0 0), .v (.bool false), .v (.slice none 0 0)]]⟩]) 1 l j1 e1 rfl (by simp (config := { decide := true }) only [go_sem, Nat.reduceBEq, reduceIte]) d1 (by omega), ?_⟩
      rintro x H' ⟨rfl, rfl⟩ -
      have d2 := oneR_le (b := e1) d1
      generalize oneR l j1 e1 = q at d2 hT ⊢
      obtain ⟨ev, j2, e2⟩ := q
      simp only at d2 hT
      have cases3 : ((ev = 0) = True ∧ (ev = 1) = False) ∨ ((ev = 0) = False ∧ (ev = 1) = True) ∨ ((ev = 0) = False ∧ (ev = 1) = False) := by
        by_cases k0 : ev = 0
        · exact .inl ⟨eq_true k0, eq_false (by omega)⟩
        · by_cases k1 : ev = 1
          · exact .inr (.inl ⟨eq_false k0, eq_true k1⟩)
          · exact .inr (.inr ⟨eq_false k0, eq_false k1⟩)
      obtain ⟨eqb, heqb⟩ : ∃ eqb : Bool, eqb = decide (ev = 1) := ⟨_, rfl⟩
      obtain ⟨e3, he3⟩ : ∃ e3 : Bool, e3 = if ev ≠ 0 ∧ ev ≠ 1 then false else e2 := ⟨_, rfl⟩
      rw [← heqb, ← he3] at hT
      rcases cases3 with ⟨k0, k1⟩ | ⟨k0, k1⟩ | ⟨k0, k1⟩
      all_goals
        simp only [k0, k1, ne_eq, not_true_eq_false, not_false_eq_true, and_true, true_and, and_self, and_false, false_and, if_true, if_false, decide_true, decide_false] at heqb he3
        subst heqb
        subst he3
        simp (config := { decide := true }) only [go_sem, Int.reduceToNat, Nat.reduceAdd, Nat.reduceSub, Nat.reduceMul, Nat.reduceBEq, reduceIte, reduceCtorEq, h0, h2, h3, h4, h5, h6, h7, k0, k1]
        refine ⟨_, tkRow (ofH l m j2 _ ths ++ [some ⟨40, 4, [[.v (.int .i64 pc), .v (.slice none 0 0), .v (.bool _), .v (.slice none 0 0)]]⟩]) 1 l j2 _ rfl (by simp (config := { decide := true }) only [go_sem, Nat.reduceBEq, reduceIte]) d2 (by omega), ?_⟩
        rintro x H' ⟨rfl, rfl⟩ -
        have d3 := fun b => rowsR_le (l := l) (b := b) d2
        obtain ⟨q, hq, d3⟩ : ∃ q, q = rowsR l j2 _ ∧ q.2.1 ≤ l.length ∧ q.1.length ≤ l.length := ⟨_, rfl, d3 _⟩
        rw [← hq] at hT ⊢
        obtain ⟨r, j3, e4⟩ := q
        simp only at hT d3
        simp (config := { decide := true }) only [go_sem, Int.reduceToNat, Nat.reduceAdd, Nat.reduceSub, Nat.reduceMul, Nat.reduceBEq, reduceIte, reduceCtorEq, h0, h2, h3, h4, h5, h6, h7]
        refine ⟨_, tkMany (ofH l m j3 e4 ths ++ [some ⟨40, 4, [[.v (.int .i64 pc), .hd 6 0 r.length, .v (.bool _), .v (.slice none 0 0)]]⟩, some ⟨3, 1, ints r⟩]) 1 l j3 e4 rfl (by simp (config := { decide := true }) only [go_sem, Nat.reduceBEq, reduceIte]) d3.1 (by omega), ?_⟩
        rintro x H' ⟨rfl, rfl⟩ -
        obtain ⟨d4, d5, d6⟩ := manyR_le (l := l) (b := e4) d3.1
        generalize manyR l j3 e4 = q at hT d4 d5 d6 ⊢
        obtain ⟨nn, j4, e5⟩ := q
        simp only at hT d4 d5 d6
        obtain ⟨nn, rfl⟩ : ∃ k : Nat, nn = k := ⟨nn.toNat, by omega⟩
        simp only [Int.toNat_natCast] at hT
        simp (config := { decide := true }) only [go_sem, Int.reduceToNat, Nat.reduceAdd, Nat.reduceSub, Nat.reduceMul, Nat.reduceBEq, reduceIte, reduceCtorEq, h0, h2, h3, h4, h5, h6, h7]
        refine HW.loopG (fun k T H => ∃ (j i' : Nat) (b' : Bool) (t : Thd), k = nn - j ∧ j ≤ nn ∧ t.buf.length = j ∧ t.regs.length ≤ l.length ∧ i' ≤ l.length ∧ tr = (⟨t.pc, t.regs, t.eq, (wrtsR l (nn - j) i' b' t.buf).1⟩, (wrtsR l (nn - j) i' b' t.buf).2.1, (wrtsR l (nn - j) i' b' t.buf).2.2) ∧
          T 0 = .sl (ints l) ∧ T 2 = .pt 0 1 0 0 ∧ T 3 = .v (.bool false) ∧ T 4 = .pt 1 1 0 0 ∧ T 5 = .pt 2 1 0 0 ∧ T 6 = .v (.int .i64 n) ∧ T 7 = .v (.int .i64 a) ∧ T 8 = .pt 5 1 0 0 ∧ T 10 = .v (.int .i64 nn) ∧ T 11 = .v (.int .i64 j) ∧ H = ofH2 l m i' b' ths t) nn
          ⟨_, _, (Ghost.cell 5 0 3 (.ow 37 2 []) rfl rfl rfl rfl (Conv.nilOw _ _) (by simp)).trans (Ghost.open 5 0 3), 0, j4, e5, ⟨pc, r, _, []⟩, rfl, by omega, rfl, d3.2, d4, hT, ?_, ?_, ?_, ?_, ?_, ?_, ?_, ?_, ?_, ?_, ?_⟩ ?_
        iterate 9 simp (config := { decide := true }) only [go_sem, Nat.reduceBEq, reduceIte, h0, h2, h3, h4, h5, h6, h7]
        · simp (config := { decide := true }) only [go_sem, Nat.reduceBEq, reduceIte]
          rfl
        · rfl
        clear h0 h2 h3 h4 h5 h6 h7 T hT
        rintro k T H ⟨j, i', b', t, rfl, hj, htj, htr, hi', hT, h0, h2, h3, h4, h5, h6, h7, h8, h10, h11, rfl⟩
        refine HW.run 300 (by kernel_rfl) ?_
        by_cases hjl : j < nn
        · have hjl' : ((j : Int) < (nn : Int)) = True := by rw [int_ltE]; simp [hjl]
          cases b' with
          | true =>
            rw [show nn - j = (nn - (j + 1)) + 1 by omega, wrtsR, if_pos rfl] at hT
            simp (config := { decide := true }) only [go_sem, Int.reduceToNat, Nat.reduceAdd, Nat.reduceSub, Nat.reduceMul, Nat.reduceBEq, reduceIte, reduceCtorEq, h0, h2, h3, h4, h5, h6, h7, h8, h10, h11, hjl']
            refine ⟨_, tkOne (ofH2 l m i' true ths t) 1 l i' true rfl (by simp (config := { decide := true }) only [go_sem, Nat.reduceBEq, reduceIte]) hi' (by omega), ?_⟩
            rintro x H' ⟨rfl, rfl⟩ -
            have d7 := oneR_le (b := true) hi'
            generalize oneR l i' true = q at d7 hT ⊢
            obtain ⟨x, j5, e6⟩ := q
            simp only at d7 hT
            simp (config := { decide := true }) only [go_sem, Int.reduceToNat, Nat.reduceAdd, Nat.reduceSub, Nat.reduceMul, Nat.reduceBEq, reduceIte, reduceCtorEq, h0, h2, h3, h4, h5, h6, h7, h8, h10, h11]
            refine ⟨_, tkOne (ofH2 l m j5 e6 ths t) 1 l j5 e6 rfl (by simp (config := { decide := true }) only [go_sem, Nat.reduceBEq, reduceIte]) d7 (by omega), ?_⟩
            rintro z H' ⟨rfl, rfl⟩ -
            have d8 := oneR_le (b := e6) d7
            generalize oneR l j5 e6 = q at d8 hT ⊢
            obtain ⟨y, j6, e7⟩ := q
            simp only at d8 hT
            simp (config := { decide := true }) only [go_sem, Int.reduceToNat, Nat.reduceAdd, Nat.reduceSub, Nat.reduceMul, Nat.reduceBEq, reduceIte, reduceCtorEq, h0, h2, h3, h4, h5, h6, h7, h8, h10, h11, htj]
            refine ⟨⟨by omega, by omega⟩, ?_⟩
            refine GQ.step (Ghost.trunc [0, 2, 3, 4, 5, 6, 7, 8, 10, 11] 8 (Nat.zero_le _) ?_ ?_) (GQ.done ⟨nn - (j + 1), by omega, j + 1, j6, e7, ⟨t.pc, t.regs, t.eq, t.buf ++ [(x, y)]⟩, rfl, by omega, by simp [htj], htr, d8, hT, ?_, ?_, ?_, ?_, ?_, ?_, ?_, ?_, ?_, ?_, ?_⟩)
            · simp (config := { decide := true }) only [go_sem, Nat.reduceBEq, reduceIte, h0, h2, h3, h4, h5, h6, h7, h8, h10, h11]
            · simp (config := { decide := true }) only [go_sem, Nat.reduceBEq, reduceIte, nmR_append]
            iterate 9 simp (config := { decide := true }) only [go_sem, Nat.reduceBEq, reduceIte, h0, h2, h3, h4, h5, h6, h7, h8, h10, h11]
            · simp (config := { decide := true }) only [go_sem, Nat.reduceBEq, reduceIte]
              rw [w64 (by omega) (by omega)]; rfl
            · simp (config := { decide := true }) only [go_sem, Nat.reduceBEq, reduceIte, List.length_append, htj]
          | false =>
            rw [wrtsR_stop] at hT
            simp (config := { decide := true }) only [go_sem, Int.reduceToNat, Nat.reduceAdd, Nat.reduceSub, Nat.reduceMul, Nat.reduceBEq, reduceIte, reduceCtorEq, h0, h2, h3, h4, h5, h6, h7, h8, h10, h11, hjl']
            refine ⟨⟨by omega, by omega⟩, ?_⟩
            have hln : (thdsO ths).length = ths.length := thdsO_length
            have hrl : ∀ X, (thdsO ths ++ [X])[ths.length]? = some X := fun X => row_last hln
            have hsl : ∀ X Y, (thdsO ths ++ [X]).set ths.length Y = thdsO ths ++ [Y] := fun X Y => set_last hln
            refine GQ.step (Ghost.absorb 4 ths.length 1) ?_
            simp (config := { decide := true }) only [go_sem, Int.reduceToNat, Nat.reduceAdd, Nat.reduceSub, Nat.reduceMul, Nat.reduceBEq, reduceIte, reduceCtorEq, hrl, hsl]
            refine GQ.step (Ghost.absorb 4 ths.length 3) ?_
            simp (config := { decide := true }) only [go_sem, Int.reduceToNat, Nat.reduceAdd, Nat.reduceSub, Nat.reduceMul, Nat.reduceBEq, reduceIte, reduceCtorEq, hrl, hsl]
            rw [hT] at hrow htl
            refine GQ.step (Ghost.trunc [0, 2, 3, 4, 5, 6, 7] 5 (by omega) ?_ ?_) (GQ.done ⟨n - (a + 1), by omega, a + 1, i', _, ths ++ [t], rfl, by omega, by simp [hta], hi', ?_, hrow, ?_, ?_, ?_, ?_, ?_, ?_, ?_, ?_⟩)
            · simp (config := { decide := true }) only [go_sem, Nat.reduceBEq, reduceIte, h0, h2, h3, h4, h5, h6, h7, h8, h10, h11]
            · simp (config := { decide := true }) only [go_sem, Nat.reduceBEq, reduceIte, nmR_append]
            · intro u hu
              rcases List.mem_append.1 hu with hu | hu
              · exact htb u hu
              · rw [List.mem_singleton.1 hu]; exact htl.2
            iterate 6 simp (config := { decide := true }) only [go_sem, Nat.reduceBEq, reduceIte, h0, h2, h3, h4, h5, h6, h7, h8, h10, h11]
            · simp (config := { decide := true }) only [go_sem, Nat.reduceBEq, reduceIte]
              rw [w64 (by omega) (by omega)]; rfl
            · simp (config := { decide := true }) only [go_sem, Int.reduceToNat, Nat.reduceAdd, Nat.reduceSub, Nat.reduceMul, Nat.reduceBEq, reduceIte, reduceCtorEq]
              rw [show ths.length + 1 = (ths ++ [t]).length by simp]
        · have hjl' : ((j : Int) < (nn : Int)) = False := by rw [int_ltE]; simp [hjl]
          rw [show nn - j = 0 by omega, wrtsR] at hT
          simp (config := { decide := true }) only [go_sem, Int.reduceToNat, Nat.reduceAdd, Nat.reduceSub, Nat.reduceMul, Nat.reduceBEq, reduceIte, reduceCtorEq, h0, h2, h3, h4, h5, h6, h7, h8, h10, h11, hjl']
          refine ⟨⟨by omega, by omega⟩, ?_⟩
          have hln : (thdsO ths).length = ths.length := thdsO_length
          have hrl : ∀ X, (thdsO ths ++ [X])[ths.length]? = some X := fun X => row_last hln
          have hsl : ∀ X Y, (thdsO ths ++ [X]).set ths.length Y = thdsO ths ++ [Y] := fun X Y => set_last hln
          refine GQ.step (Ghost.absorb 4 ths.length 1) ?_
          simp (config := { decide := true }) only [go_sem, Int.reduceToNat, Nat.reduceAdd, Nat.reduceSub, Nat.reduceMul, Nat.reduceBEq, reduceIte, reduceCtorEq, hrl, hsl]
          refine GQ.step (Ghost.absorb 4 ths.length 3) ?_
          simp (config := { decide := true }) only [go_sem, Int.reduceToNat, Nat.reduceAdd, Nat.reduceSub, Nat.reduceMul, Nat.reduceBEq, reduceIte, reduceCtorEq, hrl, hsl]
          rw [hT] at hrow htl
          refine GQ.step (Ghost.trunc [0, 2, 3, 4, 5, 6, 7] 5 (by omega) ?_ ?_) (GQ.done ⟨n - (a + 1), by omega, a + 1, i', _, ths ++ [t], rfl, by omega, by simp [hta], hi', ?_, hrow, ?_, ?_, ?_, ?_, ?_, ?_, ?_, ?_⟩)
          · simp (config := { decide := true }) only [go_sem, Nat.reduceBEq, reduceIte, h0, h2, h3, h4, h5, h6, h7, h8, h10, h11]
          · simp (config := { decide := true }) only [go_sem, Nat.reduceBEq, reduceIte, nmR_append]
          · intro u hu
            rcases List.mem_append.1 hu with hu | hu
            · exact htb u hu
            · rw [List.mem_singleton.1 hu]; exact htl.2
          iterate 6 simp (config := { decide := true }) only [go_sem, Nat.reduceBEq, reduceIte, h0, h2, h3, h4, h5, h6, h7, h8, h10, h11]
          · simp (config := { decide := true }) only [go_sem, Nat.reduceBEq, reduceIte]
            rw [w64 (by omega) (by omega)]; rfl
          · simp (config := { decide := true }) only [go_sem, Int.reduceToNat, Nat.reduceAdd, Nat.reduceSub, Nat.reduceMul, Nat.reduceBEq, reduceIte, reduceCtorEq]
            rw [show ths.length + 1 = (ths ++ [t]).length by simp]
    | false =>
      rw [thsR_stop] at hrow
      rw [hrow] at hst
      subst hst
      simp (config := { decide := true }) only [go_sem, Int.reduceToNat, Nat.reduceAdd, Nat.reduceSub, Nat.reduceMul, Nat.reduceBEq, reduceIte, reduceCtorEq, h0, h2, h3, h4, h5, h6, h7, hlt']
      exact .inr (by rw [hof, if_neg (by simp)])
  · have hlt' : ((a : Int) < (n : Int)) = False := by rw [int_ltE]; simp [hlt]
    rw [show n - a = 0 by omega, thsR] at hrow
    rw [hrow] at hst
    subst hst
    cases b with
    | false =>
      simp (config := { decide := true }) only [go_sem, Int.reduceToNat, Nat.reduceAdd, Nat.reduceSub, Nat.reduceMul, Nat.reduceBEq, reduceIte, reduceCtorEq, h0, h2, h3, h4, h5, h6, h7, hlt']
      exact .inr (by rw [hof, if_neg (by simp)])
    | true =>
      by_cases hil : i = l.length
      · have hil' : ((i : Int) = (l.length : Int)) = True := eq_true (by omega)
        have hsm : SmallS ⟨m, ths⟩ := ⟨by show m.length ≤ _; omega, by show ths.length ≤ _; omega, fun t ht => by have := htb t ht; omega⟩
        simp (config := { decide := true }) only [go_sem, Int.reduceToNat, Nat.reduceAdd, Nat.reduceSub, Nat.reduceMul, Nat.reduceBEq, reduceIte, reduceCtorEq, h0, h2, h3, h4, h5, h6, h7, hlt', hil']
        refine callX_fn 6 (refNums ⟨m, ths⟩ hsm) (by simp only [go_sem, thdsO_fz]) (by simp only [go_sem]) ?_
        simp (config := { decide := true }) only [go_sem, Int.reduceToNat, Nat.reduceAdd, Nat.reduceSub, Nat.reduceMul, Nat.reduceBEq, reduceIte, reduceCtorEq, h0, h2, h3, h4, h5, h6, h7]
        have hln := numsB_len hsm
        refine callX_fn 6 (refSameIntsM (numsB ⟨m, ths⟩) l (by omega)) (by simp only [go_sem]) rfl ?_
        by_cases hnl : numsB ⟨m, ths⟩ = l
        · rw [decide_eq_true hnl]
          simp (config := { decide := true }) only [go_sem, Int.reduceToNat, Nat.reduceAdd, Nat.reduceSub, Nat.reduceMul, Nat.reduceBEq, reduceIte, reduceCtorEq, h0, h2, h3, h4, h5, h6, h7]
          exact .inl (by rw [hof, if_pos ⟨rfl, hil, hnl⟩])
        · rw [decide_eq_false hnl]
          simp (config := { decide := true }) only [go_sem, Int.reduceToNat, Nat.reduceAdd, Nat.reduceSub, Nat.reduceMul, Nat.reduceBEq, reduceIte, reduceCtorEq, h0, h2, h3, h4, h5, h6, h7]
          exact .inr (by rw [hof, if_neg (fun h => hnl h.2.2)])
      · have hil' : ((i : Int) = (l.length : Int)) = False := eq_false (by omega)
        simp (config := { decide := true }) only [go_sem, Int.reduceToNat, Nat.reduceAdd, Nat.reduceSub, Nat.reduceMul, Nat.reduceBEq, reduceIte, reduceCtorEq, h0, h2, h3, h4, h5, h6, h7, hlt', hil']
        exact .inr (by rw [hof, if_neg (fun h => hil h.2.1)])
end Go.Proofs.YtokigghopmopbaaGreatDoor
namespace Go.Proofs.YtokigghopmopbaaGreatDoor
open Go.RowKit
set_option maxRecDepth 8000
section
variable {l r : List Int} {i : Nat}
theorem drop_lt {x : Int} (h : l.drop i = x :: r) : i < l.length := by
  rcases Nat.lt_or_ge i l.length with h1 | h1
  · exact h1
  · rw [List.drop_eq_nil_of_le h1] at h; cases h
theorem drop_add {xs : List Int} (h : l.drop i = xs ++ r) : l.drop (i + xs.length) = r := by
  rw [← List.drop_drop, h, List.drop_left]
theorem oneR_fwd {x : Int} (h : l.drop i = x :: r) : oneR l i true = (x, i + 1, true) ∧ l.drop (i + 1) = r := by
  have hlt := drop_lt h
  have hx : l.getD i 0 = x := by
    rw [List.getD_eq_getElem?_getD]
    have : (l.drop i)[0]? = some x := by rw [h]; rfl
    rw [List.getElem?_drop, Nat.add_zero] at this
    rw [this]; rfl
  refine ⟨?_, drop_add (xs := [x]) h⟩
  unfold oneR
  rw [if_pos ⟨rfl, hlt⟩, hx]
theorem rowR_fwd : ∀ (xs : List Int) (i : Nat) (out : List Int), l.drop i = xs ++ r → rowR l xs.length i true out = (out ++ xs, i + xs.length, true)
  | [], i, out, h => by simp [rowR]
  | x :: xs, i, out, h => by
    obtain ⟨h1, h2⟩ := oneR_fwd (r := xs ++ r) h
    rw [List.length_cons, rowR, h1]
    simp only
    rw [rowR_fwd xs (i + 1) (out ++ [x]) h2, List.append_assoc]
    refine Prod.ext rfl (Prod.ext ?_ rfl)
    simp only; omega
theorem manyR_fwd {n : Nat} (h : l.drop i = (n : Int) :: r) (hn : n ≤ r.length) : manyR l i true = ((n : Int), i + 1, true) := by
  have h2 := congrArg List.length h
  rw [List.length_drop, List.length_cons] at h2
  unfold manyR
  rw [(oneR_fwd h).1]
  simp only
  rw [if_neg (by omega)]
theorem rowsR_fwd {xs : List Int} (h : l.drop i = [(xs.length : Int)] ++ xs ++ r) : rowsR l i true = (xs, i + 1 + xs.length, true) := by
  have h' : l.drop i = (xs.length : Int) :: (xs ++ r) := by rw [h]; simp
  unfold rowsR
  rw [manyR_fwd h' (by simp)]
  simp only [Int.toNat_natCast]
  rw [rowR_fwd xs (i + 1) [] (oneR_fwd h').2]
  simp
theorem wrtsR_fwd : ∀ (ws : List (Int × Int)) (i : Nat) (out : List (Int × Int)), l.drop i = flatW ws ++ r → wrtsR l ws.length i true out = (out ++ ws, i + (flatW ws).length, true)
  | [], i, out, h => by simp [wrtsR, flatW]
  | w :: ws, i, out, h => by
    have h' : l.drop i = w.1 :: (w.2 :: (flatW ws ++ r)) := by rw [h]; simp [flatW]
    obtain ⟨h1, h2⟩ := oneR_fwd h'
    obtain ⟨h3, h4⟩ := oneR_fwd h2
    rw [List.length_cons, wrtsR, if_pos rfl, h1]
    simp only
    rw [h3]
    simp only
    rw [wrtsR_fwd ws (i + 1 + 1) (out ++ [(w.1, w.2)]) h4]
    refine Prod.ext (by simp) (Prod.ext ?_ rfl)
    simp only [flatW_len, List.length_cons]; omega
theorem threadR_fwd {t : Thd} (h : l.drop i = numsT t ++ r) : threadR l i true = (t, i + (numsT t).length, true) := by
  obtain ⟨q, hq⟩ : ∃ q : Int, q = if t.eq = true then 1 else 0 := ⟨_, rfl⟩
  have hl : (numsT t).length = 4 + t.regs.length + 2 * t.buf.length := by unfold numsT; simp [flatW_len]; omega
  have h0 : l.drop i = t.pc :: (q :: ([(t.regs.length : Int)] ++ t.regs ++ ((t.buf.length : Int) :: (flatW t.buf ++ r)))) := by rw [h, hq]; unfold numsT; simp
  obtain ⟨h1, h2⟩ := oneR_fwd h0
  obtain ⟨h3, h4⟩ := oneR_fwd h2
  have h5 := rowsR_fwd h4
  have h6 : l.drop (i + 1 + 1 + 1 + t.regs.length) = (t.buf.length : Int) :: (flatW t.buf ++ r) := by
    have := drop_add h4
    rw [List.length_append, List.length_singleton] at this
    rw [← this]; congr 1; omega
  have h7 := manyR_fwd h6 (by simp [flatW_len]; omega)
  have h8 := wrtsR_fwd t.buf _ [] (oneR_fwd h6).2
  unfold threadR
  rw [h1]; simp only
  rw [h3]; simp only
  have hq2 : ¬(q ≠ 0 ∧ q ≠ 1) := by rw [hq]; split <;> omega
  rw [if_neg hq2, h5]; simp only
  rw [h7]; simp only [Int.toNat_natCast]
  rw [h8]
  have hq3 : decide (q = 1) = t.eq := by
    rw [hq]
    cases t.eq <;> decide
  refine Prod.ext ?_ (Prod.ext ?_ rfl)
  · simp only [hq3, List.nil_append]
  · simp only [hl, flatW_len]; omega
theorem thsR_fwd : ∀ (ts : List Thd) (i : Nat) (out : List Thd), l.drop i = ts.flatMap numsT ++ r → thsR l ts.length i true out = (out ++ ts, i + (ts.flatMap numsT).length, true)
  | [], i, out, h => by simp [thsR]
  | t :: ts, i, out, h => by
    have h' : l.drop i = numsT t ++ (ts.flatMap numsT ++ r) := by rw [h]; simp
    rw [List.length_cons, thsR, if_pos rfl, threadR_fwd h']
    simp only
    rw [thsR_fwd ts _ (out ++ [t]) (drop_add h')]
    refine Prod.ext (by simp) (Prod.ext ?_ rfl)
    simp only [List.flatMap_cons, List.length_append]; omega
end
theorem staR_fwd (s : Sta) : staR (numsB s) = (s, (numsB s).length, true) := by
  have h0 : (numsB s).drop 0 = [(s.mem.length : Int)] ++ s.mem ++ ((s.ths.length : Int) :: (s.ths.flatMap numsT ++ [])) := by unfold numsB; simp
  have h1 := rowsR_fwd h0
  have h2 : (numsB s).drop (0 + 1 + s.mem.length) = (s.ths.length : Int) :: (s.ths.flatMap numsT ++ []) := by
    have := drop_add h0
    rw [List.length_append, List.length_singleton] at this
    rw [← this]; congr 1; omega
  have h3 := manyR_fwd h2 (by rw [List.append_nil]; exact flatMap_pos threadF_tells s.ths)
  have h4 := thsR_fwd s.ths _ [] (oneR_fwd h2).2
  unfold staR
  rw [h1]; simp only
  rw [h3]; simp only [Int.toNat_natCast]
  rw [h4]
  refine Prod.ext (by simp) (Prod.ext ?_ rfl)
  simp only
  unfold numsB; simp; omega
theorem ofR_eq (l : List Int) : ofR l = ofF l := by
  unfold ofR
  split
  · rename_i h
    have := of_nums (staR l).1
    rw [h.2.2] at this
    exact this.symm
  · rename_i h
    cases hf : (ofF l).2 with
    | false => exact Prod.ext (of_none hf).symm hf.symm
    | true =>
      exfalso
      have h1 := nums_of hf
      refine h ?_
      rw [← h1, staR_fwd]
      exact ⟨rfl, rfl, rfl⟩
theorem refOf (l : List Int) (hl : l.length ≤ 2000) : HFn Tryz.prog 7 [.sl (ints l)] (.tu [staH (ofF l).1, .v (.bool (ofF l).2)]) := ofR_eq l ▸ refOf0 l hl
theorem numB_in (s : List UInt8) : inI (numB s).1 := by
  cases h : (numB s).2 with
  | true => exact (numB_true h).1
  | false => rw [numB_false h]; unfold inI; omega
def readR (k : List UInt8) : Sta × Bool :=
  if (ofF ((wordsB k).map fun w => (numB w).1)).2 = true ∧ keyS (ofF ((wordsB k).map fun w => (numB w).1)).1 = k then ofF ((wordsB k).map fun w => (numB w).1) else (⟨[], []⟩, false)
theorem fit_of {k : List UInt8} (h : (ofF ((wordsB k).map fun w => (numB w).1)).2 = true) : FitS (ofF ((wordsB k).map fun w => (numB w).1)).1 := by
  intro n hn
  rw [nums_of h] at hn
  obtain ⟨w, _, rfl⟩ := List.mem_map.1 hn
  exact numB_in w
theorem readR_eq (k : List UInt8) : readR k = readS k := by
  unfold readR
  split
  · rename_i h
    have h1 := read_key (fit_of h.1)
    rw [h.2] at h1
    rw [h1]
    exact Prod.ext rfl h.1
  · rename_i h
    cases hf : (readS k).2 with
    | false => exact Prod.ext (read_none hf).symm hf.symm
    | true =>
      exfalso
      obtain ⟨h1, h2, _⟩ := key_read hf
      have h3 := words_key (readS k).1
      rw [h2] at h3
      have h4 : (wordsB k).map (fun w => (numB w).1) = numsB (readS k).1 := by
        rw [h3, List.map_map]
        conv => rhs; rw [← List.map_id (numsB (readS k).1)]
        exact List.map_congr_left fun n hn => by
          show (numB (textB n)).1 = n
          rw [numB_text (h1 n hn)]
      refine h ?_
      rw [h4, of_nums]
      exact ⟨rfl, h2⟩
end Go.Proofs.YtokigghopmopbaaGreatDoor
namespace Go.Proofs.YtokigghopmopbaaGreatDoor
open Go.RowKit
set_option maxRecDepth 8000
def keyA (ns : List Int) : List UInt8 := Lib.join (ns.map textB) [32]
theorem keyA_snoc (ns : List Int) (n : Int) : keyA (ns ++ [n]) = (if ns = [] then [] else keyA ns ++ [32]) ++ textB n := by
  unfold keyA
  induction ns with
  | nil => simp [Lib.join_one]
  | cons m ns ih =>
    rw [if_neg (by simp)]
    cases ns with
    | nil => simp [Lib.join_one, join_more]
    | cons p ns =>
      rw [if_neg (by simp)] at ih
      simp only [List.cons_append, List.map_cons] at ih ⊢
      rw [join_more, ih, join_more]
      simp
set_option maxHeartbeats 8000000 in
theorem refKeyE (s : Sta) (hs : SmallS s) (hl : (numsB s).length ≤ 10000) (hf : FitS s) : HFn Tryz.prog 14 [staH s] (.v (str (keyS s))) := by
  have hk : keyS s = keyA (numsB s) := rfl
  have hfit : ∀ n ∈ numsB s, inI n := hf
  refine HCalls_body (fn := Tryz.f14) 26 [2] (by kernel_rfl) rfl (by kernel_rfl) (HW.run 400 (by kernel_rfl) ?_)
  simp (config := { decide := true }) only [go_sem, Int.reduceToNat, Nat.reduceAdd, Nat.reduceSub, Nat.reduceMul, Nat.reduceBEq, reduceIte, reduceCtorEq]
  refine callX_nm ((refNums s hs).shut (R' := .sl (ints (numsB s))) (by simp only [fzo, ints_fzoR])) rfl rfl ?_
  rw [hk]
  generalize numsB s = ns at hl hfit ⊢
  have hfl : ∀ i, i ≤ ns.length → (keyA (ns.take i)).length ≤ 21 * i := by
    intro i hi
    have := join_len (l := (ns.take i).map textB) [32] 20 (by
      intro x hx
      obtain ⟨n, hn, rfl⟩ := List.mem_map.1 hx
      exact textB_length (hfit n (List.mem_of_mem_take hn)))
    rw [List.length_map, List.length_take] at this
    unfold keyA
    simp only [List.length_cons, List.length_nil] at this
    omega
  simp (config := { decide := true }) only [go_sem, Int.reduceToNat, Nat.reduceAdd, Nat.reduceSub, Nat.reduceMul, Nat.reduceBEq, reduceIte, reduceCtorEq]
  refine HW.loopG (fun j T H => ∃ i : Nat, j = ns.length - i ∧ i ≤ ns.length ∧ T 1 = .pt 0 1 0 0 ∧ T 3 = .sl (ints ns) ∧ T 4 = .v (str (keyA (ns.take i))) ∧ T 5 = .v (.int .i64 i) ∧
    H = [some ⟨25, 2, [[.sl (ints s.mem), .sl (thds s.ths)]]⟩]) ns.length ⟨_, _, Ghost.refl, 0, rfl, by omega, rfl, rfl, rfl, rfl, rfl⟩ ?_
  rintro j T H ⟨i, rfl, hi, h1, h3, h4, h5, rfl⟩
  refine HW.run 200 (by kernel_rfl) ?_
  by_cases hlt : i < ns.length
  · have hlt' : ((i : Int) < (ns.length : Int)) = True := by rw [int_ltE]; simp [hlt]
    have hx : ns[i]? = some ns[i] := List.getElem?_eq_getElem hlt
    have hin := hfit _ (List.getElem_mem hlt)
    have hb := hfl i hi
    have hn : keyA (ns.take (i + 1)) = (if ns.take i = [] then [] else keyA (ns.take i) ++ [32]) ++ textB ns[i] := by rw [List.take_add_one, hx]; exact keyA_snoc _ _
    generalize ns[i] = n at hx hin hn
    have ht := textB_length hin
    have hnil : ns.take i = [] ↔ i = 0 := by rw [← List.length_eq_zero_iff, List.length_take]; omega
    have hz : i = 0 → keyA (ns.take i) = [] := fun h => by rw [hnil.2 h]; rfl
    generalize keyA (ns.take i) = acc at h4 hb hn hz
    by_cases h0 : i = 0
    · rw [if_pos (hnil.2 h0)] at hn
      rw [hz h0] at h4
      have c0 : ((0 : Int) < (i : Int)) = False := eq_false (by omega)
      simp (config := { decide := true }) only [go_sem, Int.reduceToNat, Nat.reduceAdd, Nat.reduceSub, Nat.reduceMul, Nat.reduceBEq, reduceIte, reduceCtorEq, h1, h3, h4, h5, hlt', hx, c0]
      refine callX_fn 3 (refText n hin) (by simp only [go_sem]) rfl ?_
      simp (config := { decide := true }) only [go_sem, Int.reduceToNat, Nat.reduceAdd, Nat.reduceSub, Nat.reduceMul, Nat.reduceBEq, reduceIte, reduceCtorEq, h1, h3, h4, h5]
      refine ⟨by omega, ?_⟩
      refine ⟨_, _, Ghost.refl, ns.length - (i + 1), by omega, i + 1, rfl, by omega, ?_, ?_, ?_, ?_, rfl⟩
      · simp (config := { decide := true }) only [go_sem, Nat.reduceBEq, reduceIte, h1]
      · simp (config := { decide := true }) only [go_sem, Nat.reduceBEq, reduceIte, h3]
      · simp (config := { decide := true }) only [go_sem, Nat.reduceBEq, reduceIte]
        rw [hn]
        try rfl
      · simp (config := { decide := true }) only [go_sem, Nat.reduceBEq, reduceIte, h5]
        rw [w64 (by omega) (by omega)]; rfl
    · rw [if_neg (fun h => h0 (hnil.1 h))] at hn
      have c0 : ((0 : Int) < (i : Int)) = True := eq_true (by omega)
      simp (config := { decide := true }) only [go_sem, Int.reduceToNat, Nat.reduceAdd, Nat.reduceSub, Nat.reduceMul, Nat.reduceBEq, reduceIte, reduceCtorEq, h1, h3, h4, h5, hlt', hx, c0]
      refine ⟨by omega, ?_⟩
      refine callX_fn 3 (refText n hin) (by simp only [go_sem]) rfl ?_
      simp (config := { decide := true }) only [go_sem, Int.reduceToNat, Nat.reduceAdd, Nat.reduceSub, Nat.reduceMul, Nat.reduceBEq, reduceIte, reduceCtorEq, h1, h3, h4, h5]
      refine ⟨by omega, ?_⟩
      refine ⟨_, _, Ghost.refl, ns.length - (i + 1), by omega, i + 1, rfl, by omega, ?_, ?_, ?_, ?_, rfl⟩
      · simp (config := { decide := true }) only [go_sem, Nat.reduceBEq, reduceIte, h1]
      · simp (config := { decide := true }) only [go_sem, Nat.reduceBEq, reduceIte, h3]
      · simp (config := { decide := true }) only [go_sem, Nat.reduceBEq, reduceIte]
        rw [hn]
      · simp (config := { decide := true }) only [go_sem, Nat.reduceBEq, reduceIte, h5]
        rw [w64 (by omega) (by omega)]; rfl
  · have hlt' : ((i : Int) < (ns.length : Int)) = False := by rw [int_ltE]; simp [hlt]
    obtain rfl : i = ns.length := by omega
    rw [List.take_of_length_le (Nat.le_refl _)] at h4
    simp (config := { decide := true }) only [go_sem, Int.reduceToNat, Nat.reduceAdd, Nat.reduceSub, Nat.reduceMul, Nat.reduceBEq, reduceIte, reduceCtorEq, h1, h3, h4, h5, hlt']
set_option maxHeartbeats 8000000 in
theorem refReadE (k : List UInt8) (hk : k.length ≤ 1500) : HFn Tryz.prog 9 [.v (str k)] (.tu [staH (readS k).1, .v (.bool (readS k).2)]) := by
  rw [← readR_eq]
  refine HCalls.conv (Q := fun x _ => x = .tu [staH (readR k).1, .v (.bool (readR k).2)] ∨ (readR k = (⟨[], []⟩, false) ∧ x = .tu [.ag [.v (.slice none 0 0), .v (.slice none 0 0)], .v (.bool false)])) ?_ ?_
  rotate_left
  · rintro x H' (rfl | ⟨h, rfl⟩)
    · exact ⟨_, rfl, .inl rfl⟩
    · rw [h]; exact ⟨_, rfl, .inr ⟨rfl, Conv.nilSta _⟩⟩
  have hwl := wordsB_length k
  have hww := cutB_lens k
  have hfit := fit_of (k := k)
  have hrs : readR k = if (ofF ((wordsB k).map fun w => (numB w).1)).2 = true ∧ keyS (ofF ((wordsB k).map fun w => (numB w).1)).1 = k then ofF ((wordsB k).map fun w => (numB w).1) else (⟨[], []⟩, false) := rfl
  generalize readR k = rs at hrs ⊢
  refine HCalls_bodyC (fn := Tryz.f9) 46 [.cell 2 25, .tmp 3] (by kernel_rfl) rfl rfl (by kernel_rfl) (HW.run 400 (by kernel_rfl) ?_)
  simp (config := { decide := true }) only [go_sem, Int.reduceToNat, Nat.reduceAdd, Nat.reduceSub, Nat.reduceMul, Nat.reduceBEq, reduceIte, reduceCtorEq]
  refine callX_fn 3 (refWords k (by omega)) (by simp only [go_sem]) nz_owStrs ?_
  generalize wordsB k = ws at hwl hww hrs hfit ⊢
  simp (config := { decide := true }) only [go_sem, Int.reduceToNat, Nat.reduceAdd, Nat.reduceSub, Nat.reduceMul, Nat.reduceBEq, reduceIte, reduceCtorEq, owStrs]
  refine HW.loopG (fun j T H => ∃ i : Nat, j = ws.length - i ∧ i ≤ ws.length ∧ T 0 = .v (str k) ∧ T 2 = .pt 0 1 0 0 ∧ T 3 = .v (.bool false) ∧ T 4 = .hd 1 0 ws.length ∧ T 5 = .hd 2 0 i ∧ T 6 = .v (.int .i64 i) ∧
    H = [some ⟨25, 2, [[.v (.slice none 0 0), .v (.slice none 0 0)]]⟩, some ⟨9, 1, strs ws⟩, some ⟨3, 1, ints ((ws.take i).map fun w => (numB w).1)⟩]) ws.length ⟨_, _, Ghost.nil 5 3 1 rfl, 0, rfl, by omega, ?_, ?_, ?_, ?_, ?_, ?_, ?_⟩ ?_
  iterate 7 rfl
  rintro j T H ⟨i, rfl, hi, h0, h2, h3, h4, h5, h6, rfl⟩
  have hti : ((ws.take i).map fun w => (numB w).1).length = i := by rw [List.length_map, List.length_take]; omega
  by_cases hlt : i < ws.length
  · have hlt' : ((i : Int) < (ws.length : Int)) = True := by rw [int_ltE]; simp [hlt]
    have hx : ws[i]? = some ws[i] := List.getElem?_eq_getElem hlt
    have hwk := hww _ (List.getElem_mem hlt)
    have hsn : ((ws.take i).map fun w => (numB w).1) ++ [(numB ws[i]).1] = (ws.take (i + 1)).map fun w => (numB w).1 := by rw [List.take_add_one, hx, List.map_append]; rfl
    generalize ws[i] = x at hx hwk hsn
    refine HW.run 200 (by kernel_rfl) ?_
    simp (config := { decide := true }) only [go_sem, Int.reduceToNat, Nat.reduceAdd, Nat.reduceSub, Nat.reduceMul, Nat.reduceBEq, reduceIte, reduceCtorEq, h0, h2, h3, h4, h5, h6, hlt', hx]
    refine callX_fn 3 (refGet x (by omega)) (by simp only [go_sem]) rfl ?_
    simp (config := { decide := true }) only [go_sem, Int.reduceToNat, Nat.reduceAdd, Nat.reduceSub, Nat.reduceMul, Nat.reduceBEq, reduceIte, reduceCtorEq, h0, h2, h3, h4, h5, h6, hlt', hx, hti]
    refine ⟨by omega, ?_⟩
    refine ⟨_, _, Ghost.trunc [0, 2, 3, 4, 5, 6] 3 (Nat.zero_le _) ?_ ?_, ws.length - (i + 1), by omega, i + 1, rfl, by omega, ?_, ?_, ?_, ?_, ?_, ?_, ?_⟩
    · simp (config := { decide := true }) only [go_sem, Nat.reduceBEq, reduceIte, h0, h2, h3, h4, h5]
    · simp (config := { decide := true }) only [go_sem, Nat.reduceBEq, reduceIte, nmR_append]
    · simp (config := { decide := true }) only [go_sem, Nat.reduceBEq, reduceIte, h0]
    · simp (config := { decide := true }) only [go_sem, Nat.reduceBEq, reduceIte, h2]
    · simp (config := { decide := true }) only [go_sem, Nat.reduceBEq, reduceIte, h3]
    · simp (config := { decide := true }) only [go_sem, Nat.reduceBEq, reduceIte, h4]
    · simp (config := { decide := true }) only [go_sem, Nat.reduceBEq, reduceIte, h5]
    · simp (config := { decide := true }) only [go_sem, Nat.reduceBEq, reduceIte, h6]
      rw [w64 (by omega) (by omega)]; rfl
    · simp (config := { decide := true }) only [go_sem, Nat.reduceBEq, reduceIte]
      rw [← hsn]
      try simp [ints, irow]
  · have hlt' : ((i : Int) < (ws.length : Int)) = False := by rw [int_ltE]; simp [hlt]
    obtain rfl : i = ws.length := by omega
    rw [List.take_of_length_le (Nat.le_refl _)] at hti ⊢
    refine HW.ghost (Ghost.freezeHd 5 2 ws.length h5 (ob := ⟨3, 1, ints (ws.map fun w => (numB w).1)⟩) rfl (by rw [ints_length, hti])) ?_
    refine HW.run 200 (by kernel_rfl) ?_
    simp (config := { decide := true }) only [go_sem, Int.reduceToNat, Nat.reduceAdd, Nat.reduceSub, Nat.reduceMul, Nat.reduceBEq, reduceIte, reduceCtorEq, h0, h2, h3, h4, h5, h6, hlt', hti]
    have hO := refOf (ws.map fun w => (numB w).1) (by rw [hti]; omega)
    have hsm : (ofF (ws.map fun w => (numB w).1)).2 = true → (numsB (ofF (ws.map fun w => (numB w).1)).1).length ≤ 2000 := fun h => by rw [nums_of h, hti]; omega
    generalize ofF (ws.map fun w => (numB w).1) = o at hO hrs hfit hsm
    obtain ⟨s, is⟩ := o
    simp only at hO hrs hfit hsm
    refine callX_nm (hO) rfl rfl ?_
    cases is with
    | false =>
      simp (config := { decide := true }) only [go_sem, Int.reduceToNat, Nat.reduceAdd, Nat.reduceSub, Nat.reduceMul, Nat.reduceBEq, reduceIte, reduceCtorEq, h0, h2, h3]
      exact .inr (by rw [hrs, if_neg (by simp)])
    | true =>
      have hl2 := hsm rfl
      simp (config := { decide := true }) only [go_sem, Int.reduceToNat, Nat.reduceAdd, Nat.reduceSub, Nat.reduceMul, Nat.reduceBEq, reduceIte, reduceCtorEq, h0, h2, h3]
      refine callX_nm (refKeyE s (nums_small hl2) (by omega) (hfit rfl)) rfl rfl ?_
      by_cases he : keyS s = k
      · have he' : (keyS s = k) = True := eq_true he
        simp (config := { decide := true }) only [go_sem, Int.reduceToNat, Nat.reduceAdd, Nat.reduceSub, Nat.reduceMul, Nat.reduceBEq, reduceIte, reduceCtorEq, h0, h2, h3, he']
        exact .inl (by rw [hrs, if_pos ⟨rfl, he⟩])
      · have he' : (keyS s = k) = False := eq_false he
        simp (config := { decide := true }) only [go_sem, Int.reduceToNat, Nat.reduceAdd, Nat.reduceSub, Nat.reduceMul, Nat.reduceBEq, reduceIte, reduceCtorEq, h0, h2, h3, he']
        exact .inr (by rw [hrs, if_neg (fun h => he h.2)])
end Go.Proofs.YtokigghopmopbaaGreatDoor
namespace Go.Proofs.YtokigghopmopbaaGreatDoor
open Go.RowKit
set_option maxRecDepth 8000
set_option maxHeartbeats 16000000 in
theorem encTellsH (s : Sta) (l : List Int) (k : List UInt8) (hf : FitS s) : HFn Tryz.prog 3 [staH s, .sl (ints l), .v (str k)] (.v (.bool true)) := by
  refine HCalls_body (fn := Tryz.f3) 85 [6] (by kernel_rfl) rfl (by kernel_rfl) (HW.run 400 (by kernel_rfl) ?_)
  simp (config := { decide := true }) only [go_sem, Int.reduceToNat, Nat.reduceAdd, Nat.reduceSub, Nat.reduceMul, Nat.reduceBEq, reduceIte, reduceCtorEq]
  refine callX_fn 3 (lawHeadE) (by simp only [go_sem]) rfl ?_
  simp (config := { decide := true }) only [go_sem, Int.reduceToNat, Nat.reduceAdd, Nat.reduceSub, Nat.reduceMul, Nat.reduceBEq, reduceIte, reduceCtorEq]
  refine callX_nm (lawWide s) rfl rfl ?_
  cases hw : wideB s with
  | true =>
    simp (config := { decide := true }) only [go_sem, Int.reduceToNat, Nat.reduceAdd, Nat.reduceSub, Nat.reduceMul, Nat.reduceBEq, reduceIte, reduceCtorEq]
  | false =>
    rcases tfE ((300 : Int) < (l.length : Int)) with ⟨d1, c1⟩ | ⟨d1, c1⟩
    · simp (config := { decide := true }) only [go_sem, Int.reduceToNat, Nat.reduceAdd, Nat.reduceSub, Nat.reduceMul, Nat.reduceBEq, reduceIte, reduceCtorEq, c1]
    rcases tfE ((1500 : Int) < (k.length : Int)) with ⟨d2, c2⟩ | ⟨d2, c2⟩
    · simp (config := { decide := true }) only [go_sem, Int.reduceToNat, Nat.reduceAdd, Nat.reduceSub, Nat.reduceMul, Nat.reduceBEq, reduceIte, reduceCtorEq, c1, c2]
    obtain ⟨hs, hl⟩ := wide_small hw
    have zs : SmallS ⟨[], []⟩ := nums_small (by rw [noneS_nums]; decide)
    have h2 : SmallS (ofF l).1 := by
      cases h : (ofF l).2 with
      | false => rw [of_none h]; exact zs
      | true => exact nums_small (by rw [nums_of h]; omega)
    have h4 : SmallS (readS k).1 := by
      cases h : (readS k).2 with
      | false => rw [read_none h]; exact zs
      | true =>
        obtain ⟨_, _, g3⟩ := key_read h
        have := wordsB_length k
        exact nums_small (by omega)
    simp (config := { decide := true }) only [go_sem, Int.reduceToNat, Nat.reduceAdd, Nat.reduceSub, Nat.reduceMul, Nat.reduceBEq, reduceIte, reduceCtorEq, c1, c2]
    refine callX_nm (encOf l (by omega)) rfl rfl ?_
    simp (config := { decide := true }) only [go_sem, Int.reduceToNat, Nat.reduceAdd, Nat.reduceSub, Nat.reduceMul, Nat.reduceBEq, reduceIte, reduceCtorEq]
    refine callX_nm (refOf l (by omega)) rfl rfl ?_
    simp (config := { decide := true }) only [go_sem, Int.reduceToNat, Nat.reduceAdd, Nat.reduceSub, Nat.reduceMul, Nat.reduceBEq, reduceIte, reduceCtorEq]
    refine callX_nm (encRead k (by omega)) rfl rfl ?_
    simp (config := { decide := true }) only [go_sem, Int.reduceToNat, Nat.reduceAdd, Nat.reduceSub, Nat.reduceMul, Nat.reduceBEq, reduceIte, reduceCtorEq]
    refine callX_nm (refReadE k (by omega)) rfl rfl ?_
    generalize ofF l = a at h2 ⊢
    generalize readS k = b at h4 ⊢
    obtain ⟨a, is⟩ := a
    obtain ⟨b, it⟩ := b
    simp only at h2 h4
    simp (config := { decide := true }) only [go_sem, Int.reduceToNat, Nat.reduceAdd, Nat.reduceSub, Nat.reduceMul, Nat.reduceBEq, reduceIte, reduceCtorEq]
    refine HW.tree 1 (.light 0 (.light 1 (.light 2 (.light 4 (.heavy 3 [4] (.heavy 5 [] (.heavy 6 [] (.light 7 (.light 8 (.light 9 (.light 11 (.heavy 10 [11] (.heavy 12 [] (.light 13 (.light 14 (.light 15 (.light 16 (.light 17 (.heavy 18 [] (.light 19 (.light 20 (.light 21 (.light 22 (.light 23 (.light 24 (.light 25 (.light 26 (.light 27 (.heavy 28 [] (.light 29 (.light 30 (.light 31 (.light 32 (.light 33 (.light 34 (.light 35 .leaf))))))) .stop)))))))))) .stop)))))) .stop) .stop))))) .stop) .stop) .stop))))) follows (by kernel_rfl) (by kernel_rfl) ?_
    simp (config := { decide := true }) only [go_sem, Int.reduceToNat, Nat.reduceAdd, Nat.reduceSub, Nat.reduceMul, Nat.reduceBEq, reduceIte, reduceCtorEq]
    refine callX_nm (encNumsS s hs) rfl rfl ?_
    simp (config := { decide := true }) only [go_sem, Int.reduceToNat, Nat.reduceAdd, Nat.reduceSub, Nat.reduceMul, Nat.reduceBEq, reduceIte, reduceCtorEq]
    refine callX_nm ((refNums s hs).shut (R' := .sl (ints (numsB s))) (by simp only [fzo, ints_fzoR])) rfl rfl ?_
    simp (config := { decide := true }) only [go_sem, Int.reduceToNat, Nat.reduceAdd, Nat.reduceSub, Nat.reduceMul, Nat.reduceBEq, reduceIte, reduceCtorEq]
    refine callX_nm (refSameInts (numsB s) (numsB s) (by omega)) rfl rfl ?_
    rw [decide_eq_true rfl]
    simp (config := { decide := true }) only [go_sem, Int.reduceToNat, Nat.reduceAdd, Nat.reduceSub, Nat.reduceMul, Nat.reduceBEq, reduceIte, reduceCtorEq]
    refine callX_nm (encKey s hs hf) rfl rfl ?_
    simp (config := { decide := true }) only [go_sem, Int.reduceToNat, Nat.reduceAdd, Nat.reduceSub, Nat.reduceMul, Nat.reduceBEq, reduceIte, reduceCtorEq]
    refine callX_nm (refKeyE s hs hl hf) rfl rfl ?_
    simp (config := { decide := true }) only [go_sem, Int.reduceToNat, Nat.reduceAdd, Nat.reduceSub, Nat.reduceMul, Nat.reduceBEq, reduceIte, reduceCtorEq]
    refine callX_nm (same_self a h2) rfl rfl ?_
    simp (config := { decide := true }) only [go_sem, Int.reduceToNat, Nat.reduceAdd, Nat.reduceSub, Nat.reduceMul, Nat.reduceBEq, reduceIte, reduceCtorEq]
    refine callX_nm (same_self b h4) rfl rfl ?_
    simp (config := { decide := true }) only [go_sem, Int.reduceToNat, Nat.reduceAdd, Nat.reduceSub, Nat.reduceMul, Nat.reduceBEq, reduceIte, reduceCtorEq]
end Go.Proofs.YtokigghopmopbaaGreatDoor
