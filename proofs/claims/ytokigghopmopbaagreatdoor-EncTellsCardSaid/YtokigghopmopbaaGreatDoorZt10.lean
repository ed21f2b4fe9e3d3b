/- Parts of the proof: Ei, Ej, Ek, Em, En, Eq, LyJoin, Wp, Wa, Wb, Wc, Wd, We, Eo, Wf, Wg, Wh, Wi, Wj, Wk. -/
import Derived.Test.YtokigghopmopbaaGreatDoorZt09
import Derived.Test.YtokigghopmopbaaGreatDoorZt07
import Derived.Shelf.Lays
import Derived.Test.YtokigghopmopbaaGreatDoorProg
import Derived.KernelRfl
import Derived.Test.YtokigghopmopbaaGreatDoorZt05
import Derived.Test.YtokigghopmopbaaGreatDoorZt08
import Derived.Shelf.Strings.OnBuilder
import Derived.Shelf.Strings.Cut
import Derived.Lib.IndexMore
import Derived.Test.YtokigghopmopbaaGreatDoorZt06
import Derived.Shelf.GgClosure.StringsIndexFuncTop
import Derived.Lib.TrimUEq
set_option linter.unusedSectionVars false
set_option linter.unusedVariables false
set_option linter.unusedSimpArgs false
namespace Go.Proofs.YtokigghopmopbaaGreatDoor
open Go.RowKit
set_option maxRecDepth 8000
set_option maxHeartbeats 8000000 in
theorem rdManyW (H : Heap) (r : Nat) (l : List Int) (e : Nat) (hr : H[r]? = some (some (rdO l e))) (hn : nmH H.length H = true) (hl : l.length ≤ 1000000) :
    HCalls Tryz.prog 34 H [.pt r 1 0 0, .fn (4294967296 + 35) [.pt r 1 0 0]] (fun x H' => x = .sl (wrts (manyG writeF l e).1) ∧ H' = H.set r (some (rdO (manyG writeF l e).2.1 (manyG writeF l e).2.2))) := by
  have hlt := (List.getElem?_eq_some_iff.1 hr).1
  have hgs : ∀ o, getO (H.set r (some o)) r = some o := fun o => getO_iff.2 (by rw [List.getElem?_set_self hlt])
  refine HCalls.conv (Q := fun x H' => (∃ r0, (r0 = .ow 37 2 (wrts (manyG writeF l e).1) ∨ ((manyG writeF l e).1 = [] ∧ r0 = .v (.slice none 0 0))) ∧ x = fzo r0) ∧ H' = H.set r (some (rdO (manyG writeF l e).2.1 (manyG writeF l e).2.2))) (HCalls.mono (HCalls.shutO (Q := fun x H' => (x = .ow 37 2 (wrts (manyG writeF l e).1) ∨ ((manyG writeF l e).1 = [] ∧ x = .v (.slice none 0 0))) ∧ H' = H.set r (some (rdO (manyG writeF l e).2.1 (manyG writeF l e).2.2))) ?_) ?_) ?_
  rotate_left
  · rintro x H' ⟨r0, ⟨h1, h2⟩, rfl⟩
    exact ⟨⟨r0, h1, rfl⟩, h2⟩
  · rintro x H' ⟨⟨r0, rfl | ⟨h, rfl⟩, rfl⟩, rfl⟩
    · exact ⟨_, ⟨rfl, rfl⟩, .inl (by simp only [fzo, wrts_fzoR])⟩
    · exact ⟨_, ⟨rfl, rfl⟩, .inr ⟨rfl, by rw [h]; exact Conv.nilSl⟩⟩
  refine HCalls_body (fn := Tryz.f34) 49 [4] rfl rfl (by kernel_rfl) (HW.run 400 (by kernel_rfl) ?_)
  simp (config := { decide := true }) only [go_sem, Int.reduceToNat, Nat.reduceAdd, Nat.reduceSub, Nat.reduceMul, Nat.reduceBEq, reduceIte, reduceCtorEq]
  refine ⟨_, rdNext H r l e hr hn, ?_⟩
  rintro x H' ⟨rfl, rfl⟩ -
  have he := nextF_err (l := l) (e := e)
  have hq := nextF_len (l := l) (e := e)
  unfold manyG
  generalize nextF l e = q at he hq ⊢
  obtain ⟨n, l2, e2⟩ := q
  simp only at he hq
  have hm := fun e => rdO_nm H.length l2 e
  rcases tfE (n < 0) with ⟨d0, c0⟩ | ⟨d0, c0⟩
  · obtain rfl : e2 = 0 := he (by omega)
    simp (config := { decide := true }) only [go_sem, Int.reduceToNat, Nat.reduceAdd, Nat.reduceSub, Nat.reduceMul, Nat.reduceBEq, reduceIte, reduceCtorEq, c0, hgs, List.length_set]
    repeat (with_reducible refine And.intro ?_ ?_; · (with_reducible and_intros) <;> omega)
    refine HW.mixed 80 8 (H.length, 0) [] follows (by kernel_rfl) (by decide) ?_
    simp (config := { decide := true }) only [go_sem, Int.reduceToNat, Nat.reduceAdd, Nat.reduceSub, Nat.reduceMul, Nat.reduceBEq, reduceIte, reduceCtorEq, c0, hgs, List.length_set, errH_zero, hlt]
    refine callN_nm (errJoin 0) rfl rfl ?_
    simp (config := { decide := true }) only [go_sem, Int.reduceToNat, Nat.reduceAdd, Nat.reduceSub, Nat.reduceMul, Nat.reduceBEq, reduceIte, reduceCtorEq, c0, hgs, List.length_set, errH_zero, hlt]
    refine HW.loopG (fun k T H' => T 7 = .v (.int .i64 0) ∧ T 5 = .v (.int .i64 n) ∧ T 0 = .pt r 1 0 0 ∧ T 6 = .v (.slice none 0 0) ∧ H' = H.set r (some (rdO l2 2))) 0 ⟨_, _, Ghost.refl, rfl, rfl, rfl, rfl, by rw [List.set_set]; rfl⟩ ?_
    rintro k T H' ⟨h7, h5, h0, h6, rfl⟩
    refine HW.run 400 (by kernel_rfl) ?_
    have c1 : ((0 : Int) < n) = False := eq_false (by omega)
    simp (config := { decide := true }) only [go_sem, Int.reduceToNat, Nat.reduceAdd, Nat.reduceSub, Nat.reduceMul, Nat.reduceBEq, reduceIte, reduceCtorEq, h7, h5, h0, h6, c1, hgs, List.length_set, hlt]
    have hz2 : rowG writeF n.toNat l2 (if True ∨ (l2.length : Int) < n then 2 else 0) [] = ([], l2, 2) := by rw [if_pos (.inl trivial), rowG_bad (by decide)]
    rw [hz2]
    exact endP_set hn (hm 2) ⟨.inr ⟨rfl, rfl⟩, rfl⟩
  · rcases tfE ((l2.length : Int) < n) with ⟨d1, c1⟩ | ⟨d1, c1⟩
    · obtain rfl : e2 = 0 := he (by omega)
      simp (config := { decide := true }) only [go_sem, Int.reduceToNat, Nat.reduceAdd, Nat.reduceSub, Nat.reduceMul, Nat.reduceBEq, reduceIte, reduceCtorEq, c0, c1, hgs, List.length_set]
      repeat (with_reducible refine And.intro ?_ ?_; · (with_reducible and_intros) <;> omega)
      refine HW.mixed 80 8 (H.length, 0) [] follows (by kernel_rfl) (by decide) ?_
      simp (config := { decide := true }) only [go_sem, Int.reduceToNat, Nat.reduceAdd, Nat.reduceSub, Nat.reduceMul, Nat.reduceBEq, reduceIte, reduceCtorEq, c0, hgs, List.length_set, errH_zero, hlt]
      refine callN_nm (errJoin 0) rfl rfl ?_
      simp (config := { decide := true }) only [go_sem, Int.reduceToNat, Nat.reduceAdd, Nat.reduceSub, Nat.reduceMul, Nat.reduceBEq, reduceIte, reduceCtorEq, c0, hgs, List.length_set, errH_zero, hlt]
      refine HW.loopG (fun k T H' => T 7 = .v (.int .i64 0) ∧ T 5 = .v (.int .i64 n) ∧ T 0 = .pt r 1 0 0 ∧ T 6 = .v (.slice none 0 0) ∧ H' = H.set r (some (rdO l2 2))) 0 ⟨_, _, Ghost.refl, rfl, rfl, rfl, rfl, by rw [List.set_set]; rfl⟩ ?_
      rintro k T H' ⟨h7, h5, h0, h6, rfl⟩
      refine HW.run 400 (by kernel_rfl) ?_
      have c2 : ((0 : Int) < n) = True := eq_true (by omega)
      have hg2 : getO (H.set r (some (rdO l2 2))) r = some ⟨45, 2, [[.sl (ints l2), joinH 0]]⟩ := hgs _
      simp (config := { decide := true }) only [go_sem, Int.reduceToNat, Nat.reduceAdd, Nat.reduceSub, Nat.reduceMul, Nat.reduceBEq, reduceIte, reduceCtorEq, h7, h5, h0, h6, c2, hg2, List.length_set, hlt]
      rw [rowG_bad (by decide)]
      exact endP_set hn (hm 2) ⟨.inr ⟨rfl, rfl⟩, rfl⟩
    · simp (config := { decide := true }) only [go_sem, Int.reduceToNat, Nat.reduceAdd, Nat.reduceSub, Nat.reduceMul, Nat.reduceBEq, reduceIte, reduceCtorEq, c0, c1, hgs, List.length_set]
      refine HW.loopG (fun k T H' => ∃ (i : Nat) (l3 : List Int) (e3 : Nat) (out : List (Int × Int)), k = n.toNat - i ∧ i ≤ n.toNat ∧ out.length ≤ i ∧ l3.length ≤ l2.length ∧ rowG writeF n.toNat l2 e2 [] = rowG writeF (n.toNat - i) l3 e3 out ∧ T 0 = .pt r 1 0 0 ∧ T 1 = .fn (4294967296 + 35) [.pt r 1 0 0] ∧ T 5 = .v (.int .i64 n) ∧ T 6 = .hd H.length 0 out.length ∧ T 7 = .v (.int .i64 i) ∧
        H' = H.set r (some (rdO l3 e3)) ++ [some ⟨37, 2, wrts out⟩]) n.toNat ⟨_, _, Ghost.nil 6 37 2 rfl, 0, l2, e2, [], rfl, by omega, by simp, Nat.le_refl _, rfl, rfl, rfl, rfl, ?_, rfl, rfl⟩ ?_
      · simp (config := { decide := true }) only [go_sem, Nat.reduceBEq, reduceIte, List.length_set]
      rintro k T H' ⟨i, l3, e3, out, rfl, hi, hout, hl3, hrow, h0, h1, h5, h6, h7, rfl⟩
      refine HW.run 400 (by kernel_rfl) ?_
      have hlen : ∀ o, (H.set r o).length = H.length := fun o => List.length_set
      have hgf : ∀ o B, getO (H.set r (some o) ++ B) r = some o := fun o B => getO_iff.2 (get_front (List.getElem?_set_self hlt))
      have hnr : ∀ e l, nmH H.length (H.set r (some (rdO l e))) = true := fun e l => nmH_set (rdO_nm _ _ _) hn
      have g0 : ∀ o (B : Heap), getO (H.set r o ++ B) H.length = getO B 0 := fun o B => getO_behind0 (hlen o)
      have g1 : ∀ o (j : Nat) (B : Heap), getO (H.set r o ++ B) (H.length + j) = getO B j := fun o j B => getO_behind (hlen o)
      have s0 : ∀ o (B : Heap) x, (H.set r o ++ B).set H.length x = H.set r o ++ B.set 0 x := fun o B x => set_behind0 (hlen o)
      have hat : ∀ o x, (H.set r o ++ [x])[H.length]? = some x := fun o x => by rw [List.getElem?_append_right (by rw [hlen]; exact Nat.le_refl _), hlen, Nat.sub_self]; rfl
      have hzz : (H.length < H.length) = False := eq_false (Nat.lt_irrefl _)
      have s1 : ∀ o (j : Nat) (B : Heap) x, (H.set r o ++ B).set (H.length + j) x = H.set r o ++ B.set j x := fun o j B x => set_behind (hlen o)
      by_cases hlt2 : (i : Int) < n
      · have c2 : ((i : Int) < n) = True := eq_true hlt2
        by_cases h30 : e3 = 0
        · subst h30
          simp (config := { decide := true }) only [go_sem, Int.reduceToNat, Nat.reduceAdd, Nat.reduceSub, Nat.reduceMul, Nat.reduceBEq, reduceIte, reduceCtorEq, h0, h1, h5, h6, h7, c2, hgf, List.length_set, hlt, errH_zero]
          refine ⟨_, rdWrite (H.set r (some (rdO l3 0)) ++ [some ⟨37, 2, wrts out⟩]) r l3 0 (get_front (List.getElem?_set_self hlt)) (nmH_app (by rw [hlen]; exact hnr 0 l3) wrts_nmR), ?_⟩
          rintro x H' ⟨rfl, rfl⟩ -
          rw [List.set_append_left _ _ (by rw [List.length_set]; exact hlt), List.set_set]
          have hlo := writeF_leE l3 0 (by omega)
          have hro : rowG writeF (n.toNat - i) l3 0 out = rowG writeF (n.toNat - (i + 1)) (writeF l3 0).2.1 (writeF l3 0).2.2 (out ++ [(writeF l3 0).1]) := by
            rw [show n.toNat - i = (n.toNat - (i + 1)) + 1 by omega, rowG, if_pos rfl]
          rw [hro] at hrow
          generalize writeF l3 0 = q at hlo hrow
          obtain ⟨v, l4, e4⟩ := q
          simp only at hlo hrow
          simp (config := { decide := true }) only [go_sem, Int.reduceToNat, Nat.reduceAdd, Nat.reduceSub, Nat.reduceMul, Nat.reduceBEq, reduceIte, reduceCtorEq, h0, h1, h5, h6, h7, hgf, hlen, hlt, g0, g1, s0, s1, List.append_assoc, List.length_append]
          refine ⟨⟨by omega, by omega⟩, ?_⟩
          have t1 : ∀ o (B : Heap), (H.set r o ++ B).take (H.length + 1) = H.set r o ++ B.take 1 := fun o B => take_behind3 (hlen o)
          refine ⟨_, _, Ghost.trunc [0, 1, 5, 6, 7] (H.length + 1) (by omega) ?_ (nmH_behind (hlen _) (hnr _ _) ?_), n.toNat - (i + 1), by omega, i + 1, l4, e4, out ++ [v], rfl, by omega, by simp; omega, by omega, hrow, ?_, ?_, ?_, ?_, ?_, ?_⟩
          · simp (config := { decide := true }) only [go_sem, Nat.reduceBEq, reduceIte, h0, h1, h5, List.all_cons, List.all_nil]
            simp [nm, nmL]; omega
          · simp (config := { decide := true }) only [go_sem, Nat.reduceBEq, reduceIte, List.set_cons_zero, List.take_succ_cons, List.take_zero, List.all_cons, List.all_nil]
          · simp (config := { decide := true }) only [go_sem, Nat.reduceBEq, reduceIte, h0]
          · simp (config := { decide := true }) only [go_sem, Nat.reduceBEq, reduceIte, h1]
          · simp (config := { decide := true }) only [go_sem, Nat.reduceBEq, reduceIte, h5]
          · simp (config := { decide := true }) only [go_sem, Nat.reduceBEq, reduceIte]
            try simp
          · simp (config := { decide := true }) only [go_sem, Nat.reduceBEq, reduceIte]; rw [w64 (by omega) (by omega)]; rfl
          · rw [t1]; rfl
        · obtain ⟨t, x, ht⟩ := errH_ic h30
          have hg3 : ∀ B, getO (H.set r (some (rdO l3 e3)) ++ B) r = some ⟨45, 2, [[.sl (ints l3), .ic t x]]⟩ := fun B => by rw [← ht]; exact hgf _ B
          simp (config := { decide := true }) only [go_sem, Int.reduceToNat, Nat.reduceAdd, Nat.reduceSub, Nat.reduceMul, Nat.reduceBEq, reduceIte, reduceCtorEq, h0, h1, h5, h6, h7, c2, hg3, List.length_set, hlt, g0, hat, hzz, s0]
          rw [rowG_bad h30] at hrow
          rw [hrow]
          refine endP_behind (hlen _) (hnr _ _) ?_
          exact ⟨.inl rfl, rfl⟩
      · have c2 : ((i : Int) < n) = False := eq_false hlt2
        simp (config := { decide := true }) only [go_sem, Int.reduceToNat, Nat.reduceAdd, Nat.reduceSub, Nat.reduceMul, Nat.reduceBEq, reduceIte, reduceCtorEq, h0, h1, h5, h6, h7, c2, hgf, List.length_set, hlt, g0, hat, hzz, s0]
        have hni : n.toNat - i = 0 := by omega
        rw [hni] at hrow
        rw [hrow, rowG]
        refine endP_behind (hlen _) (hnr _ _) ?_
        exact ⟨.inl rfl, rfl⟩
end Go.Proofs.YtokigghopmopbaaGreatDoor
namespace Go.Proofs.YtokigghopmopbaaGreatDoor
open Go.RowKit
set_option maxRecDepth 8000
def threadF (l : List Int) (e : Nat) : Thd × List Int × Nat :=
  let a := nextF l e
  let b := truthF a.2.1 a.2.2
  let c := manyG nextF b.2.1 b.2.2
  let d := manyG writeF c.2.1 c.2.2
  (⟨a.1, c.1, b.1, d.1⟩, d.2.1, d.2.2)
theorem truthF_len {l : List Int} {e : Nat} : (truthF l e).2.1.length ≤ l.length := nextF_len
theorem writeF_len {l : List Int} {e : Nat} : (writeF l e).2.1.length ≤ l.length := Nat.le_trans nextF_len nextF_len
theorem threadF_len (l : List Int) (e : Nat) : (threadF l e).2.1.length ≤ l.length :=
  Nat.le_trans (manyG_len (fun _ _ => writeF_len) _ _) (Nat.le_trans (manyG_len (fun _ _ => nextF_len) _ _) (Nat.le_trans truthF_len nextF_len))
theorem threadF_leE (l : List Int) (e : Nat) (h : l.length ≤ 1000000) : (threadF l e).2.1.length ≤ l.length := threadF_len l e
abbrev thC (t : List HV) : HObj := ⟨40, 4, [t]⟩
abbrev thZ : List HV := [.v (.int .i64 0), .v (.slice none 0 0), .v (.bool false), .v (.slice none 0 0)]
set_option maxHeartbeats 8000000 in
theorem rdThread (H : Heap) (r : Nat) (l : List Int) (e : Nat) (hr : H[r]? = some (some (rdO l e))) (hn : nmH H.length H = true) (hl : l.length ≤ 1000000) :
    HCalls Tryz.prog 19 H [.pt r 1 0 0] (fun x H' => x = .ag (throw (threadF l e).1) ∧ H' = H.set r (some (rdO (threadF l e).2.1 (threadF l e).2.2))) := by
  have hlt := (List.getElem?_eq_some_iff.1 hr).1
  have hlen : ∀ o, (H.set r o).length = H.length := fun o => List.length_set
  have hnr : ∀ e l, nmH H.length (H.set r (some (rdO l e))) = true := fun e l => nmH_set (rdO_nm _ _ _) hn
  have hap : ∀ e l, nmH (H.set r (some (rdO l e)) ++ [some (thC thZ)]).length (H.set r (some (rdO l e)) ++ [some (thC thZ)]) = true := fun e l => nmH_app (by rw [hlen]; exact hnr e l) rfl
  have hgf : ∀ l e (B : Heap), (H.set r (some (rdO l e)) ++ B)[r]? = some (some (rdO l e)) := fun l e B => get_front (List.getElem?_set_self hlt)
  have hss : ∀ l e l' e' (B : Heap), (H.set r (some (rdO l e)) ++ B).set r (some (rdO l' e')) = H.set r (some (rdO l' e')) ++ B := fun l e l' e' B => by
    rw [List.set_append_left _ _ (by rw [hlen]; exact hlt), List.set_set]
  refine HCalls_bodyC (fn := Tryz.f19) 16 [.cell 2 40] (by kernel_rfl) rfl rfl (by kernel_rfl) (HW.run 400 (by kernel_rfl) ?_)
  simp (config := { decide := true }) only [go_sem, Int.reduceToNat, Nat.reduceAdd, Nat.reduceSub, Nat.reduceMul, Nat.reduceBEq, reduceIte, reduceCtorEq, hlt]
  refine ⟨_, rdNext (H ++ [some (thC thZ)]) r l e (get_front hr) (nmH_app hn rfl), ?_⟩
  rintro x H' ⟨rfl, rfl⟩ -
  rw [List.set_append_left _ _ hlt]
  unfold threadF
  have b1 := nextF_len (l := l) (e := e)
  generalize nextF l e = q at b1 ⊢
  obtain ⟨n, l1, e1⟩ := q
  simp only at b1
  simp (config := { decide := true }) only [go_sem, Int.reduceToNat, Nat.reduceAdd, Nat.reduceSub, Nat.reduceMul, Nat.reduceBEq, reduceIte, reduceCtorEq, hlt]
  refine ⟨_, rdTruth _ r l1 e1 (hgf l1 e1 _) (hap e1 l1), ?_⟩
  rintro x H' ⟨rfl, rfl⟩ -
  rw [hss]
  have b2 := truthF_len (l := l1) (e := e1)
  generalize truthF l1 e1 = q at b2 ⊢
  obtain ⟨b, l2, e2⟩ := q
  simp only at b2
  simp (config := { decide := true }) only [go_sem, Int.reduceToNat, Nat.reduceAdd, Nat.reduceSub, Nat.reduceMul, Nat.reduceBEq, reduceIte, reduceCtorEq, hlt]
  refine ⟨_, rdManyI _ r l2 e2 (hgf l2 e2 _) (hap e2 l2) (by omega), ?_⟩
  rintro x H' ⟨rfl, rfl⟩ -
  rw [hss]
  have b3 := manyG_len (one := nextF) (fun _ _ => nextF_len) l2 e2
  generalize manyG nextF l2 e2 = q at b3 ⊢
  obtain ⟨rs, l3, e3⟩ := q
  simp only at b3
  simp (config := { decide := true }) only [go_sem, Int.reduceToNat, Nat.reduceAdd, Nat.reduceSub, Nat.reduceMul, Nat.reduceBEq, reduceIte, reduceCtorEq, hlt]
  refine ⟨_, rdManyW _ r l3 e3 (hgf l3 e3 _) (hap e3 l3) (by omega), ?_⟩
  rintro x H' ⟨rfl, rfl⟩ -
  rw [hss]
  generalize manyG writeF l3 e3 = q
  obtain ⟨ws, l4, e4⟩ := q
  have hsb : ∀ x y : Option HObj, (H.set r (some (rdO l4 e4)) ++ [x]).set H.length y = H.set r (some (rdO l4 e4)) ++ [y] := fun x y => by rw [List.set_append_right _ _ (by rw [hlen]; exact Nat.le_refl _), hlen]; simp
  simp (config := { decide := true }) only [go_sem, Int.reduceToNat, Nat.reduceAdd, Nat.reduceSub, Nat.reduceMul, Nat.reduceBEq, reduceIte, reduceCtorEq, hlt, getO_behind0 (hlen _), hsb, retL, onR, rv, onR_some]
  refine endP_behind (hlen _) (hnr e4 l4) ?_
  exact ⟨rfl, rfl⟩
end Go.Proofs.YtokigghopmopbaaGreatDoor
namespace Go.Proofs.YtokigghopmopbaaGreatDoor
open Go.RowKit
set_option maxRecDepth 8000
set_option maxHeartbeats 8000000 in
theorem rdManyT (H : Heap) (r : Nat) (l : List Int) (e : Nat) (hr : H[r]? = some (some (rdO l e))) (hn : nmH H.length H = true) (hl : l.length ≤ 1000000) :
    HCalls Tryz.prog 18 H [.pt r 1 0 0, .fn (4294967296 + 19) [.pt r 1 0 0]] (fun x H' => x = .sl (thds (manyG threadF l e).1) ∧ H' = H.set r (some (rdO (manyG threadF l e).2.1 (manyG threadF l e).2.2))) := by
  have hlt := (List.getElem?_eq_some_iff.1 hr).1
  have hgs : ∀ o, getO (H.set r (some o)) r = some o := fun o => getO_iff.2 (by rw [List.getElem?_set_self hlt])
  refine HCalls.conv (Q := fun x H' => (∃ r0, (r0 = .ow 40 4 (thds (manyG threadF l e).1) ∨ ((manyG threadF l e).1 = [] ∧ r0 = .v (.slice none 0 0))) ∧ x = fzo r0) ∧ H' = H.set r (some (rdO (manyG threadF l e).2.1 (manyG threadF l e).2.2))) (HCalls.mono (HCalls.shutO (Q := fun x H' => (x = .ow 40 4 (thds (manyG threadF l e).1) ∨ ((manyG threadF l e).1 = [] ∧ x = .v (.slice none 0 0))) ∧ H' = H.set r (some (rdO (manyG threadF l e).2.1 (manyG threadF l e).2.2))) ?_) ?_) ?_
  rotate_left
  · rintro x H' ⟨r0, ⟨h1, h2⟩, rfl⟩
    exact ⟨⟨r0, h1, rfl⟩, h2⟩
  · rintro x H' ⟨⟨r0, rfl | ⟨h, rfl⟩, rfl⟩, rfl⟩
    · exact ⟨_, ⟨rfl, rfl⟩, .inl (by simp only [fzo, thds_fzoR])⟩
    · exact ⟨_, ⟨rfl, rfl⟩, .inr ⟨rfl, by rw [h]; exact Conv.nilSl⟩⟩
  refine HCalls_body (fn := Tryz.f18) 49 [4] rfl rfl (by kernel_rfl) (HW.run 400 (by kernel_rfl) ?_)
  simp (config := { decide := true }) only [go_sem, Int.reduceToNat, Nat.reduceAdd, Nat.reduceSub, Nat.reduceMul, Nat.reduceBEq, reduceIte, reduceCtorEq]
  refine ⟨_, rdNext H r l e hr hn, ?_⟩
  rintro x H' ⟨rfl, rfl⟩ -
  have he := nextF_err (l := l) (e := e)
  have hq := nextF_len (l := l) (e := e)
  unfold manyG
  generalize nextF l e = q at he hq ⊢
  obtain ⟨n, l2, e2⟩ := q
  simp only at he hq
  have hm := fun e => rdO_nm H.length l2 e
  rcases tfE (n < 0) with ⟨d0, c0⟩ | ⟨d0, c0⟩
  · obtain rfl : e2 = 0 := he (by omega)
    simp (config := { decide := true }) only [go_sem, Int.reduceToNat, Nat.reduceAdd, Nat.reduceSub, Nat.reduceMul, Nat.reduceBEq, reduceIte, reduceCtorEq, c0, hgs, List.length_set]
    repeat (with_reducible refine And.intro ?_ ?_; · (with_reducible and_intros) <;> omega)
    refine HW.mixed 80 8 (H.length, 0) [] follows (by kernel_rfl) (by decide) ?_
    simp (config := { decide := true }) only [go_sem, Int.reduceToNat, Nat.reduceAdd, Nat.reduceSub, Nat.reduceMul, Nat.reduceBEq, reduceIte, reduceCtorEq, c0, hgs, List.length_set, errH_zero, hlt]
    refine callN_nm (errJoin 0) rfl rfl ?_
    simp (config := { decide := true }) only [go_sem, Int.reduceToNat, Nat.reduceAdd, Nat.reduceSub, Nat.reduceMul, Nat.reduceBEq, reduceIte, reduceCtorEq, c0, hgs, List.length_set, errH_zero, hlt]
    refine HW.loopG (fun k T H' => T 7 = .v (.int .i64 0) ∧ T 5 = .v (.int .i64 n) ∧ T 0 = .pt r 1 0 0 ∧ T 6 = .v (.slice none 0 0) ∧ H' = H.set r (some (rdO l2 2))) 0 ⟨_, _, Ghost.refl, rfl, rfl, rfl, rfl, by rw [List.set_set]; rfl⟩ ?_
    rintro k T H' ⟨h7, h5, h0, h6, rfl⟩
    refine HW.run 400 (by kernel_rfl) ?_
    have c1 : ((0 : Int) < n) = False := eq_false (by omega)
    simp (config := { decide := true }) only [go_sem, Int.reduceToNat, Nat.reduceAdd, Nat.reduceSub, Nat.reduceMul, Nat.reduceBEq, reduceIte, reduceCtorEq, h7, h5, h0, h6, c1, hgs, List.length_set, hlt]
    have hz2 : rowG threadF n.toNat l2 (if True ∨ (l2.length : Int) < n then 2 else 0) [] = ([], l2, 2) := by rw [if_pos (.inl trivial), rowG_bad (by decide)]
    rw [hz2]
    exact endP_set hn (hm 2) ⟨.inr ⟨rfl, rfl⟩, rfl⟩
  · rcases tfE ((l2.length : Int) < n) with ⟨d1, c1⟩ | ⟨d1, c1⟩
    · obtain rfl : e2 = 0 := he (by omega)
      simp (config := { decide := true }) only [go_sem, Int.reduceToNat, Nat.reduceAdd, Nat.reduceSub, Nat.reduceMul, Nat.reduceBEq, reduceIte, reduceCtorEq, c0, c1, hgs, List.length_set]
      repeat (with_reducible refine And.intro ?_ ?_; · (with_reducible and_intros) <;> omega)
      refine HW.mixed 80 8 (H.length, 0) [] follows (by kernel_rfl) (by decide) ?_
      simp (config := { decide := true }) only [go_sem, Int.reduceToNat, Nat.reduceAdd, Nat.reduceSub, Nat.reduceMul, Nat.reduceBEq, reduceIte, reduceCtorEq, c0, hgs, List.length_set, errH_zero, hlt]
      refine callN_nm (errJoin 0) rfl rfl ?_
      simp (config := { decide := true }) only [go_sem, Int.reduceToNat, Nat.reduceAdd, Nat.reduceSub, Nat.reduceMul, Nat.reduceBEq, reduceIte, reduceCtorEq, c0, hgs, List.length_set, errH_zero, hlt]
      refine HW.loopG (fun k T H' => T 7 = .v (.int .i64 0) ∧ T 5 = .v (.int .i64 n) ∧ T 0 = .pt r 1 0 0 ∧ T 6 = .v (.slice none 0 0) ∧ H' = H.set r (some (rdO l2 2))) 0 ⟨_, _, Ghost.refl, rfl, rfl, rfl, rfl, by rw [List.set_set]; rfl⟩ ?_
      rintro k T H' ⟨h7, h5, h0, h6, rfl⟩
      refine HW.run 400 (by kernel_rfl) ?_
      have c2 : ((0 : Int) < n) = True := eq_true (by omega)
      have hg2 : getO (H.set r (some (rdO l2 2))) r = some ⟨45, 2, [[.sl (ints l2), joinH 0]]⟩ := hgs _
      simp (config := { decide := true }) only [go_sem, Int.reduceToNat, Nat.reduceAdd, Nat.reduceSub, Nat.reduceMul, Nat.reduceBEq, reduceIte, reduceCtorEq, h7, h5, h0, h6, c2, hg2, List.length_set, hlt]
      rw [rowG_bad (by decide)]
      exact endP_set hn (hm 2) ⟨.inr ⟨rfl, rfl⟩, rfl⟩
    · simp (config := { decide := true }) only [go_sem, Int.reduceToNat, Nat.reduceAdd, Nat.reduceSub, Nat.reduceMul, Nat.reduceBEq, reduceIte, reduceCtorEq, c0, c1, hgs, List.length_set]
      refine HW.loopG (fun k T H' => ∃ (i : Nat) (l3 : List Int) (e3 : Nat) (out : List Thd), k = n.toNat - i ∧ i ≤ n.toNat ∧ out.length ≤ i ∧ l3.length ≤ l2.length ∧ rowG threadF n.toNat l2 e2 [] = rowG threadF (n.toNat - i) l3 e3 out ∧ T 0 = .pt r 1 0 0 ∧ T 1 = .fn (4294967296 + 19) [.pt r 1 0 0] ∧ T 5 = .v (.int .i64 n) ∧ T 6 = .hd H.length 0 out.length ∧ T 7 = .v (.int .i64 i) ∧
        H' = H.set r (some (rdO l3 e3)) ++ [some ⟨40, 4, thds out⟩]) n.toNat ⟨_, _, Ghost.nil 6 40 4 rfl, 0, l2, e2, [], rfl, by omega, by simp, Nat.le_refl _, rfl, rfl, rfl, rfl, ?_, rfl, rfl⟩ ?_
      · simp (config := { decide := true }) only [go_sem, Nat.reduceBEq, reduceIte, List.length_set]
      rintro k T H' ⟨i, l3, e3, out, rfl, hi, hout, hl3, hrow, h0, h1, h5, h6, h7, rfl⟩
      refine HW.run 400 (by kernel_rfl) ?_
      have hlen : ∀ o, (H.set r o).length = H.length := fun o => List.length_set
      have hgf : ∀ o B, getO (H.set r (some o) ++ B) r = some o := fun o B => getO_iff.2 (get_front (List.getElem?_set_self hlt))
      have hnr : ∀ e l, nmH H.length (H.set r (some (rdO l e))) = true := fun e l => nmH_set (rdO_nm _ _ _) hn
      have g0 : ∀ o (B : Heap), getO (H.set r o ++ B) H.length = getO B 0 := fun o B => getO_behind0 (hlen o)
      have g1 : ∀ o (j : Nat) (B : Heap), getO (H.set r o ++ B) (H.length + j) = getO B j := fun o j B => getO_behind (hlen o)
      have s0 : ∀ o (B : Heap) x, (H.set r o ++ B).set H.length x = H.set r o ++ B.set 0 x := fun o B x => set_behind0 (hlen o)
      have hat : ∀ o x, (H.set r o ++ [x])[H.length]? = some x := fun o x => by rw [List.getElem?_append_right (by rw [hlen]; exact Nat.le_refl _), hlen, Nat.sub_self]; rfl
      have hzz : (H.length < H.length) = False := eq_false (Nat.lt_irrefl _)
      have s1 : ∀ o (j : Nat) (B : Heap) x, (H.set r o ++ B).set (H.length + j) x = H.set r o ++ B.set j x := fun o j B x => set_behind (hlen o)
      by_cases hlt2 : (i : Int) < n
      · have c2 : ((i : Int) < n) = True := eq_true hlt2
        by_cases h30 : e3 = 0
        · subst h30
          simp (config := { decide := true }) only [go_sem, Int.reduceToNat, Nat.reduceAdd, Nat.reduceSub, Nat.reduceMul, Nat.reduceBEq, reduceIte, reduceCtorEq, h0, h1, h5, h6, h7, c2, hgf, List.length_set, hlt, errH_zero]
          refine ⟨_, rdThread (H.set r (some (rdO l3 0)) ++ [some ⟨40, 4, thds out⟩]) r l3 0 (get_front (List.getElem?_set_self hlt)) (nmH_app (by rw [hlen]; exact hnr 0 l3) thds_nmR) (by omega), ?_⟩
          rintro x H' ⟨rfl, rfl⟩ -
          rw [List.set_append_left _ _ (by rw [List.length_set]; exact hlt), List.set_set]
          have hlo := threadF_leE l3 0 (by omega)
          have hro : rowG threadF (n.toNat - i) l3 0 out = rowG threadF (n.toNat - (i + 1)) (threadF l3 0).2.1 (threadF l3 0).2.2 (out ++ [(threadF l3 0).1]) := by
            rw [show n.toNat - i = (n.toNat - (i + 1)) + 1 by omega, rowG, if_pos rfl]
          rw [hro] at hrow
          generalize threadF l3 0 = q at hlo hrow
          obtain ⟨v, l4, e4⟩ := q
          simp only at hlo hrow
          simp (config := { decide := true }) only [go_sem, Int.reduceToNat, Nat.reduceAdd, Nat.reduceSub, Nat.reduceMul, Nat.reduceBEq, reduceIte, reduceCtorEq, h0, h1, h5, h6, h7, hgf, hlen, hlt, g0, g1, s0, s1, List.append_assoc, List.length_append]
          refine ⟨⟨by omega, by omega⟩, ?_⟩
          have t1 : ∀ o (B : Heap), (H.set r o ++ B).take (H.length + 1) = H.set r o ++ B.take 1 := fun o B => take_behind3 (hlen o)
          refine ⟨_, _, Ghost.trunc [0, 1, 5, 6, 7] (H.length + 1) (by omega) ?_ (nmH_behind (hlen _) (hnr _ _) ?_), n.toNat - (i + 1), by omega, i + 1, l4, e4, out ++ [v], rfl, by omega, by simp; omega, by omega, hrow, ?_, ?_, ?_, ?_, ?_, ?_⟩
          · simp (config := { decide := true }) only [go_sem, Nat.reduceBEq, reduceIte, h0, h1, h5, List.all_cons, List.all_nil]
            simp [nm, nmL]; omega
          · simp (config := { decide := true }) only [go_sem, Nat.reduceBEq, reduceIte, List.set_cons_zero, List.take_succ_cons, List.take_zero, List.all_cons, List.all_nil]
          · simp (config := { decide := true }) only [go_sem, Nat.reduceBEq, reduceIte, h0]
          · simp (config := { decide := true }) only [go_sem, Nat.reduceBEq, reduceIte, h1]
          · simp (config := { decide := true }) only [go_sem, Nat.reduceBEq, reduceIte, h5]
          · simp (config := { decide := true }) only [go_sem, Nat.reduceBEq, reduceIte]
            try simp
          · simp (config := { decide := true }) only [go_sem, Nat.reduceBEq, reduceIte]; rw [w64 (by omega) (by omega)]; rfl
          · rw [t1]; rfl
        · obtain ⟨t, x, ht⟩ := errH_ic h30
          have hg3 : ∀ B, getO (H.set r (some (rdO l3 e3)) ++ B) r = some ⟨45, 2, [[.sl (ints l3), .ic t x]]⟩ := fun B => by rw [← ht]; exact hgf _ B
          simp (config := { decide := true }) only [go_sem, Int.reduceToNat, Nat.reduceAdd, Nat.reduceSub, Nat.reduceMul, Nat.reduceBEq, reduceIte, reduceCtorEq, h0, h1, h5, h6, h7, c2, hg3, List.length_set, hlt, g0, hat, hzz, s0]
          rw [rowG_bad h30] at hrow
          rw [hrow]
          refine endP_behind (hlen _) (hnr _ _) ?_
          exact ⟨.inl rfl, rfl⟩
      · have c2 : ((i : Int) < n) = False := eq_false hlt2
        simp (config := { decide := true }) only [go_sem, Int.reduceToNat, Nat.reduceAdd, Nat.reduceSub, Nat.reduceMul, Nat.reduceBEq, reduceIte, reduceCtorEq, h0, h1, h5, h6, h7, c2, hgf, List.length_set, hlt, g0, hat, hzz, s0]
        have hni : n.toNat - i = 0 := by omega
        rw [hni] at hrow
        rw [hrow, rowG]
        refine endP_behind (hlen _) (hnr _ _) ?_
        exact ⟨.inl rfl, rfl⟩
end Go.Proofs.YtokigghopmopbaaGreatDoor
namespace Go.Proofs.YtokigghopmopbaaGreatDoor
open Go.RowKit
set_option maxRecDepth 8000
section
variable {Z : Nat → Prop} {G : List (Option OG)} {FP : Nat → List Nat} {H : Heap} {w : World}
theorem gv_at (hi : Globs Z w) {b : Nat} (hb : globE b = true) {y : Value} {fp : List Nat} (h : RV Z G w (.ic globT (.gv b)) y fp) :
    ∃ a c t, y = .iface globT (.pointer (some a)) ∧ w.cell? ⟨b, 0, none⟩ = some (.iface globT (.pointer (some a))) ∧ w.heap[a.block]? = some (.cells c t (0, 0)) := by
  obtain ⟨h1, a, c, t, h2, h3, h4⟩ := hi.err b hb
  simp only [RV] at h
  obtain ⟨_, z, rfl, _, _, _, t', h5⟩ := h
  rw [h2] at h5
  cases h5
  exact ⟨a, c, t, rfl, h2, h4⟩
theorem join_at (hi : Globs Z w) {b : Nat} (hb : globE b = true) {y : Value} {fp : List Nat} (h : RV Z G w (joinH b) y fp) :
    ∃ pb po eb eo c a c' t, y = .iface 86 (.pointer (some ⟨pb, po, none⟩)) ∧ w.cell? ⟨pb, po, none⟩ = some (.slice (some ⟨eb, eo, none⟩) 1 c) ∧ w.cell? ⟨eb, eo, none⟩ = some (.iface globT (.pointer (some a))) ∧ w.cell? ⟨b, 0, none⟩ = some (.iface globT (.pointer (some a))) ∧ w.heap[a.block]? = some (.cells c' t (0, 0)) := by
  rw [RV] at h
  obtain ⟨_, z, rfl, h⟩ := h
  rw [RV] at h
  obtain ⟨_, pb, po, rfl, _, _, h⟩ := h
  simp only [RR, RC] at h
  obtain ⟨f1, f2, _, ⟨y, g1, g2, _, h1, _, h2, _⟩, _⟩ := h
  rw [RV] at h2
  obtain ⟨_, ad, c, rfl, _, _, h2⟩ := h2
  rcases h2 with h2 | ⟨eb, eo, rfl, _, _, h2⟩
  · cases h2
  simp only [RR, RC] at h2
  obtain ⟨k1, k2, _, ⟨y, l1, l2, _, h3, _, h4, _⟩, _⟩ := h2
  obtain ⟨a, c', t, rfl, h5, h6⟩ := gv_at hi hb h4
  exact ⟨pb, po, eb, eo, c, a, c', t, rfl, h1, h3, h5, h6⟩
end
def isB : Nat → Bool → Bool
  | 0, _ => false
  | 1, s => s
  | 2, s => s
  | _, s => !s
def errG (s : Bool) : Nat := if s = true then 0 else 1
theorem errG_glob (s : Bool) : globE (errG s) = true := by cases s <;> rfl
theorem errG_inj {s t : Bool} (h : errG s = errG t) : s = t := by cases s <;> cases t <;> first | rfl | cases h
theorem HFn_quiet {P : Program} {f : FuncId} {args : List HV} {x : Value} (h0 : ∀ vals w, (callFunc f vals).run P w = .ok (.enter f vals) w)
    (h : ∀ Z G FP w vals, HInv Z G FP [] w → RL Z G w args vals [] → Calls P f vals.toArray w fun e w' => e = .returned x ∧ w' = w) : HFn P f args (.v x) := by
  refine ⟨h0, fun Z G FP w vals hi ha => Calls.mono (h Z G FP w vals hi ha) ?_⟩
  rintro e w' ⟨rfl, rfl⟩
  exact ⟨x, .v x, [], Z, G, FP, [], rfl, rfl, rfl, hi, by simp [RV], by simp, by simp, by simp, GLe.refl _, Evo.refl _ _ _⟩
theorem errIs (e : Nat) (s : Bool) : HFn Tryz.prog 20 [errH e, .ic globT (.gv (errG s))] (.v (.bool (isB e s))) := by
  refine HFn_quiet (fun vals w => by simp [callFunc, Tryz.func20, Tryz.f20]) ?_
  intro Z G FP w vals hi ha
  have hg := hi.glob
  have two : ∀ (x : HV) (vals : List Value), RL Z G w [x, .ic globT (.gv (errG s))] vals [] → ∃ y y2, vals = [y, y2] ∧ RV Z G w x y [] ∧ RV Z G w (.ic globT (.gv (errG s))) y2 [] := fun x vals h => by
    simp only [RL] at h
    obtain ⟨y, ys, f1, f2, rfl, hf, h1, y2, ys2, f3, f4, rfl, hf2, h2, rfl, rfl⟩ := h
    obtain ⟨rfl, rfl⟩ := List.append_eq_nil_iff.1 hf.symm
    obtain ⟨rfl, _⟩ := List.append_eq_nil_iff.1 hf2.symm
    exact ⟨y, y2, rfl, h1, h2⟩
  obtain ⟨y, y2, rfl, h1, h2⟩ := two _ _ ha
  obtain ⟨b, c, t, rfl, hb1, hb2⟩ := gv_at hg (errG_glob s) h2
  have leaf : ∀ s', RV Z G w (.ic globT (.gv (errG s'))) y [] → Calls Tryz.prog 20 #[y, .iface globT (.pointer (some b))] w fun e w' => e = .returned (.bool (decide (s' = s))) ∧ w' = w := fun s' h => by
    obtain ⟨a, c', t', rfl, ha1, ha2⟩ := gv_at hg (errG_glob s') h
    by_cases hs : s' = s
    · subst hs
      have e : a = b := by have := ha1.symm.trans hb1; simpa using this
      subst e
      rw [decide_eq_true rfl]
      exact is_same _ _
    · rw [decide_eq_false hs]
      have hne : a ≠ b := fun hab => hs (errG_inj (hg.apart _ _ b (errG_glob _) (errG_glob _) (hab ▸ ha1) hb1))
      exact is_other a b c' c t' t w hne ha2 hb2
  have join : ∀ s', RV Z G w (joinH (errG s')) y [] → Calls Tryz.prog 20 #[y, .iface globT (.pointer (some b))] w fun e w' => e = .returned (.bool (decide (s' = s))) ∧ w' = w := fun s' h => by
    obtain ⟨pb, po, eb, eo, c1, a, c', t', rfl, k1, k2, ha1, ha2⟩ := join_at hg (errG_glob s') h
    by_cases hs : s' = s
    · subst hs
      have e : a = b := by have := ha1.symm.trans hb1; simpa using this
      subst e
      rw [decide_eq_true rfl]
      exact is_join_same _ _ pb po eb eo c1 k1 k2
    · rw [decide_eq_false hs]
      have hne : a ≠ b := fun hab => hs (errG_inj (hg.apart _ _ b (errG_glob _) (errG_glob _) (hab ▸ ha1) hb1))
      exact is_join_other a b c' c t' t w pb po eb eo c1 k1 k2 hne ha2 hb2
  match e, h1 with
  | 0, h1 =>
    have : y = .nilIface := by simpa [errH, RV] using h1
    subst this
    exact is_nil b w
  | 1, h1 => cases s with
    | true => exact leaf true h1
    | false => exact leaf true h1
  | 2, h1 => cases s with
    | true => exact join true h1
    | false => exact join true h1
  | n + 3, h1 => cases s with
    | true => exact join false h1
    | false => exact join false h1
end Go.Proofs.YtokigghopmopbaaGreatDoor
namespace Go.Proofs.YtokigghopmopbaaGreatDoor
open Go.RowKit
set_option maxRecDepth 8000
def readF (l : List Int) : Sta × List Int × Nat :=
  let a := manyG nextF l 0
  let b := manyG threadF a.2.1 a.2.2
  (⟨a.1, b.1⟩, b.2.1, b.2.2)
def ofF (l : List Int) : Sta × Bool :=
  if (readF l).2.2 = 0 ∧ (readF l).2.1 = [] then ((readF l).1, true) else (⟨[], []⟩, false)
theorem Conv.nilSta (b : HV) : Conv (.tu [.ag [.v (.slice none 0 0), .v (.slice none 0 0)], b]) (.tu [.ag [.sl [], .sl []], b]) := fun Z G w y h => by
  have one : ∀ y fp, RV Z G w (.v (.slice none 0 0)) y fp → RV Z G w (.sl []) y fp := fun y fp h => by
    simp only [RV, true_and, List.length_nil] at h ⊢
    obtain ⟨h1, rfl⟩ := h
    exact ⟨h1, none, 0, rfl, Nat.le_refl _, Nat.zero_le _, .inl trivial⟩
  rw [RV] at h ⊢
  simp only [RL] at h ⊢
  obtain ⟨ys, rfl, y1, ys1, f1, f2, h1, hf, h2, h5⟩ := h
  refine ⟨ys, rfl, y1, ys1, f1, f2, h1, hf, ?_, h5⟩
  rw [RV] at h2 ⊢
  simp only [RL] at h2 ⊢
  obtain ⟨ys, rfl, y1, ys1, f1, f2, h1, hf, h3, y2, ys2, f3, f4, h4, hf2, h6, h7⟩ := h2
  exact ⟨ys, rfl, y1, ys1, f1, f2, h1, hf, one _ _ h3, y2, ys2, f3, f4, h4, hf2, one _ _ h6, h7⟩
theorem errH_nm (e : Nat) (b : Nat) : nmL 0 [errH e, .ic globT (.gv b)] = true := by
  match e with
  | 0 => rfl
  | 1 => rfl
  | 2 => rfl
  | n + 3 => rfl
theorem errH_tv (e : Nat) : tv (errH e) = true := by
  match e with
  | 0 => rfl
  | 1 => rfl
  | 2 => rfl
  | n + 3 => rfl
theorem isB_zero {e : Nat} (h1 : isB e true = false) (h2 : isB e false = false) : e = 0 := by
  match e, h1, h2 with
  | 0, _, _ => rfl
  | n + 3, h1, h2 => cases h2
theorem isB_pos {e : Nat} {s : Bool} (h : isB e s = true) : e ≠ 0 := by
  rintro rfl; cases h
set_option maxHeartbeats 8000000 in
theorem encOf (l : List Int) (hl : l.length ≤ 1000000) : HFn Tryz.prog 6 [.sl (ints l)] (.tu [staH (ofF l).1, .v (.bool (ofF l).2)]) := by
  refine HCalls.conv (Q := fun x _ => x = .tu [staH (ofF l).1, .v (.bool (ofF l).2)] ∨ ((ofF l) = (⟨[], []⟩, false) ∧ x = .tu [.ag [.v (.slice none 0 0), .v (.slice none 0 0)], .v (.bool false)])) ?_ ?_
  rotate_left
  · rintro x H' (rfl | ⟨h, rfl⟩)
    · exact ⟨_, rfl, .inl rfl⟩
    · rw [h]; exact ⟨_, rfl, .inr ⟨rfl, Conv.nilSta _⟩⟩
  refine HCalls_bodyC (fn := Tryz.f6) 42 [.cell 2 25, .tmp 3] (by kernel_rfl) rfl rfl (by kernel_rfl) (HW.run 400 (by kernel_rfl) ?_)
  simp (config := { decide := true }) only [go_sem, Int.reduceToNat, Nat.reduceAdd, Nat.reduceSub, Nat.reduceMul, Nat.reduceBEq, reduceIte, reduceCtorEq]
  refine ⟨_, rdManyI [some ⟨25, 2, [[.v (.slice none 0 0), .v (.slice none 0 0)]]⟩, some (rdO l 0)] 1 l 0 rfl rfl hl, ?_⟩
  rintro x H' ⟨rfl, rfl⟩ -
  unfold ofF readF
  have b1 := manyG_len (one := nextF) (fun _ _ => nextF_len) l 0
  generalize manyG nextF l 0 = q at b1 ⊢
  obtain ⟨m, l1, e1⟩ := q
  simp only at b1
  simp (config := { decide := true }) only [go_sem, Int.reduceToNat, Nat.reduceAdd, Nat.reduceSub, Nat.reduceMul, Nat.reduceBEq, reduceIte, reduceCtorEq]
  refine ⟨_, rdManyT [some ⟨25, 2, [[.v (.slice none 0 0), .v (.slice none 0 0)]]⟩, some (rdO l1 e1)] 1 l1 e1 rfl ?_ (by omega), ?_⟩
  · exact nmH_app (A := [some ⟨25, 2, [[.v (.slice none 0 0), .v (.slice none 0 0)]]⟩]) rfl (rdO_nm _ _ _)
  rintro x H' ⟨rfl, rfl⟩ -
  generalize manyG threadF l1 e1 = q
  obtain ⟨ts, l2, e2⟩ := q
  simp (config := { decide := true }) only [go_sem, Int.reduceToNat, Nat.reduceAdd, Nat.reduceSub, Nat.reduceMul, Nat.reduceBEq, reduceIte, reduceCtorEq]
  refine HW.tree 1 (.light 0 (.light 1 (.light 2 (.light 3 (.light 4 (.heavy 5 [] (.light 6 (.light 7 (.light 8 (.light 9 (.light 10 (.light 11 (.heavy 12 [] (.light 13 (.light 14 (.light 15 (.light 16 (.light 17 (.light 18 (.light 19 (.light 20 (.light 21 .leaf))))))))) .stop))))))) .stop)))))) follows (by kernel_rfl) (by kernel_rfl) ?_
  simp (config := { decide := true }) only [go_sem, Int.reduceToNat, Nat.reduceAdd, Nat.reduceSub, Nat.reduceMul, Nat.reduceBEq, reduceIte, reduceCtorEq, errH_tv]
  refine callX_nm (errIs e2 true) rfl (errH_nm _ _) ?_
  cases h1 : isB e2 true with
  | true =>
    simp (config := { decide := true }) only [go_sem, Int.reduceToNat, Nat.reduceAdd, Nat.reduceSub, Nat.reduceMul, Nat.reduceBEq, reduceIte, reduceCtorEq]
    exact .inr (if_neg fun h => isB_pos h1 h.1)
  | false =>
    simp (config := { decide := true }) only [go_sem, Int.reduceToNat, Nat.reduceAdd, Nat.reduceSub, Nat.reduceMul, Nat.reduceBEq, reduceIte, reduceCtorEq, errH_tv]
    refine callX_nm (errIs e2 false) rfl (errH_nm _ _) ?_
    cases h2 : isB e2 false with
    | true =>
      simp (config := { decide := true }) only [go_sem, Int.reduceToNat, Nat.reduceAdd, Nat.reduceSub, Nat.reduceMul, Nat.reduceBEq, reduceIte, reduceCtorEq]
      exact .inr (if_neg fun h => isB_pos h2 h.1)
    | false =>
      obtain rfl := isB_zero h1 h2
      cases l2 with
      | nil =>
        simp (config := { decide := true }) only [go_sem, Int.reduceToNat, Nat.reduceAdd, Nat.reduceSub, Nat.reduceMul, Nat.reduceBEq, reduceIte, reduceCtorEq]
        exact .inl trivial
      | cons x l2 =>
        have hc : ((0 : Int) < ((l2.length + 1 : Nat) : Int)) = True := eq_true (by omega)
        simp (config := { decide := true }) only [go_sem, Int.reduceToNat, Nat.reduceAdd, Nat.reduceSub, Nat.reduceMul, Nat.reduceBEq, reduceIte, reduceCtorEq, hc]
        exact .inr trivial
end Go.Proofs.YtokigghopmopbaaGreatDoor
namespace Go.Proofs.YtokigghopmopbaaGreatDoor
open Go.RowKit
set_option maxRecDepth 8000
structure Tells {α : Type} (one : List Int → Nat → α × List Int × Nat) (enc : α → List Int) : Prop where
  fwd : ∀ x r, one (enc x ++ r) 0 = (x, r, 0)
  bwd : ∀ l e, (one l e).2.2 = 0 → e = 0 ∧ l = enc (one l e).1 ++ (one l e).2.1
  pos : ∀ x, 1 ≤ (enc x).length
theorem nextF_tells : Tells nextF (fun n => [n]) where
  fwd := fun x r => rfl
  bwd := fun l e h => by
    unfold nextF at h ⊢
    split at h
    · rename_i he
      rw [if_pos he]
      cases l with
      | nil => cases h
      | cons n r => exact ⟨he, rfl⟩
    · rename_i he; exact absurd h he
  pos := fun x => by simp
section
variable {α : Type} {one : List Int → Nat → α × List Int × Nat} {enc : α → List Int}
theorem rowG_fwd (h : Tells one enc) : ∀ (xs : List α) (r : List Int) (out : List α), rowG one xs.length (xs.flatMap enc ++ r) 0 out = (out ++ xs, r, 0)
  | [], r, out => by simp [rowG]
  | x :: xs, r, out => by
    rw [List.length_cons, rowG, if_pos rfl, List.flatMap_cons, List.append_assoc, h.fwd]
    simp only
    rw [rowG_fwd h xs r (out ++ [x]), List.append_assoc]; rfl
theorem flatMap_pos (h : Tells one enc) (xs : List α) : xs.length ≤ (xs.flatMap enc).length := by
  induction xs with
  | nil => simp
  | cons x xs ih =>
    have := h.pos x
    rw [List.flatMap_cons, List.length_append, List.length_cons]; omega
theorem manyG_fwd (h : Tells one enc) (xs : List α) (r : List Int) : manyG one ([(xs.length : Int)] ++ xs.flatMap enc ++ r) 0 = (xs, r, 0) := by
  have hp := flatMap_pos h xs
  unfold manyG
  have : nextF ([(xs.length : Int)] ++ xs.flatMap enc ++ r) 0 = ((xs.length : Int), xs.flatMap enc ++ r, 0) := by rw [List.append_assoc]; exact nextF_tells.fwd _ _
  rw [this]
  simp only
  rw [if_neg (by rw [List.length_append]; omega), Int.toNat_natCast, rowG_fwd h xs r []]
  rfl
theorem rowG_bwd (h : Tells one enc) : ∀ (k : Nat) (l : List Int) (e : Nat) (out : List α), (rowG one k l e out).2.2 = 0 → e = 0 ∧ ∃ xs : List α, xs.length = k ∧ (rowG one k l e out).1 = out ++ xs ∧ l = xs.flatMap enc ++ (rowG one k l e out).2.1
  | 0, l, e, out, h0 => ⟨h0, [], rfl, by simp [rowG], by simp [rowG]⟩
  | k + 1, l, e, out, h0 => by
    rw [rowG] at h0 ⊢
    split at h0
    · rename_i he
      rw [if_pos he]
      obtain ⟨h1, xs, h2, h3, h4⟩ := rowG_bwd h k _ _ _ h0
      obtain ⟨_, h5⟩ := h.bwd l e h1
      refine ⟨he, (one l e).1 :: xs, by simp [h2], by rw [h3, List.append_assoc]; rfl, ?_⟩
      rw [List.flatMap_cons, List.append_assoc, ← h4]; exact h5
    · rename_i he; exact absurd h0 he
theorem manyG_bwd (h : Tells one enc) (l : List Int) (e : Nat) (h0 : (manyG one l e).2.2 = 0) : e = 0 ∧ l = [((manyG one l e).1.length : Int)] ++ (manyG one l e).1.flatMap enc ++ (manyG one l e).2.1 := by
  unfold manyG at h0 ⊢
  simp only at h0 ⊢
  obtain ⟨h1, xs, h2, h3, h4⟩ := rowG_bwd h _ _ _ _ h0
  split at h1
  · cases h1
  · rename_i hc
    rw [if_neg hc] at h3 h4 ⊢
    obtain ⟨h5, h6⟩ := nextF_tells.bwd l e h1
    refine ⟨h5, ?_⟩
    rw [h3, List.nil_append, h2, List.append_assoc, ← h4]
    have : ((nextF l e).1.toNat : Int) = (nextF l e).1 := by omega
    rw [this]; exact h6
end
theorem truthF_tells : Tells truthF (fun b => [if b = true then 1 else 0]) where
  fwd := fun x r => by cases x <;> rfl
  bwd := fun l e h => by
    unfold truthF at h ⊢
    simp only at h ⊢
    split at h
    · cases h
    · rename_i hc
      obtain ⟨h1, h2⟩ := nextF_tells.bwd l e h
      refine ⟨h1, ?_⟩
      have : (if decide ((nextF l e).1 = 1) = true then (1 : Int) else 0) = (nextF l e).1 := by
        by_cases h1 : (nextF l e).1 = 1
        · rw [decide_eq_true h1, h1]; rfl
        · rw [decide_eq_false h1]
          simp only [Bool.false_eq_true, if_false]
          omega
      rw [this]; exact h2
  pos := fun x => by simp
theorem writeF_tells : Tells writeF (fun w => [w.1, w.2]) where
  fwd := fun x r => rfl
  bwd := fun l e h => by
    unfold writeF at h ⊢
    simp only at h ⊢
    obtain ⟨h1, h2⟩ := nextF_tells.bwd _ _ h
    obtain ⟨h3, h4⟩ := nextF_tells.bwd l e h1
    refine ⟨h3, ?_⟩
    rw [h2] at h4
    exact h4
  pos := fun x => by simp
theorem flatI (l : List Int) : l.flatMap (fun n => [n]) = l := by induction l <;> simp [*]
theorem threadF_tells : Tells threadF numsT where
  fwd := fun x r => by
    have e1 : numsT x ++ r = [x.pc] ++ ([if x.eq = true then 1 else 0] ++ ([(x.regs.length : Int)] ++ x.regs.flatMap (fun n => [n]) ++ ([(x.buf.length : Int)] ++ x.buf.flatMap (fun w => [w.1, w.2]) ++ r))) := by
      rw [flatI]; unfold numsT flatW; simp
    rw [e1]
    unfold threadF
    rw [nextF_tells.fwd]; simp only
    rw [truthF_tells.fwd]; simp only
    rw [manyG_fwd nextF_tells]; simp only
    rw [manyG_fwd writeF_tells]
  bwd := fun l e h => by
    unfold threadF at h ⊢
    simp only at h ⊢
    obtain ⟨h1, g1⟩ := manyG_bwd writeF_tells _ _ h
    obtain ⟨h2, g2⟩ := manyG_bwd nextF_tells _ _ h1
    obtain ⟨h3, g3⟩ := truthF_tells.bwd _ _ h2
    obtain ⟨h4, g4⟩ := nextF_tells.bwd _ _ h3
    refine ⟨h4, ?_⟩
    rw [g1] at g2
    rw [g2] at g3
    rw [g3, flatI] at g4
    refine g4.trans ?_
    unfold numsT flatW; simp
  pos := fun x => by unfold numsT; simp
theorem readF_fwd (s : Sta) (r : List Int) : readF (numsB s ++ r) = (s, r, 0) := by
  have e1 : numsB s ++ r = [(s.mem.length : Int)] ++ s.mem.flatMap (fun n => [n]) ++ ([(s.ths.length : Int)] ++ s.ths.flatMap numsT ++ r) := by
    rw [flatI]; unfold numsB; simp
  rw [e1]
  unfold readF
  rw [manyG_fwd nextF_tells]; simp only
  rw [manyG_fwd threadF_tells]
theorem readF_bwd {l : List Int} (h : (readF l).2.2 = 0) : l = numsB (readF l).1 ++ (readF l).2.1 := by
  unfold readF at h ⊢
  simp only at h ⊢
  obtain ⟨h1, g1⟩ := manyG_bwd threadF_tells _ _ h
  obtain ⟨_, g2⟩ := manyG_bwd nextF_tells _ _ h1
  rw [g1, flatI] at g2
  refine g2.trans ?_
  unfold numsB; simp
theorem of_nums (s : Sta) : ofF (numsB s) = (s, true) := by
  have := readF_fwd s []
  rw [List.append_nil] at this
  unfold ofF
  rw [this, if_pos ⟨rfl, rfl⟩]
theorem nums_of {l : List Int} (h : (ofF l).2 = true) : numsB (ofF l).1 = l := by
  unfold ofF at h ⊢
  split at h
  · rename_i hc
    rw [if_pos hc]
    have := readF_bwd hc.1
    rw [hc.2, List.append_nil] at this
    exact this.symm
  · cases h
theorem of_none {l : List Int} (h : (ofF l).2 = false) : (ofF l).1 = ⟨[], []⟩ := by
  unfold ofF at h ⊢
  split at h
  · cases h
  · rename_i hc; rw [if_neg hc]
theorem numsB_pos (s : Sta) : 2 ≤ (numsB s).length := by unfold numsB; simp; omega
end Go.Proofs.YtokigghopmopbaaGreatDoor
namespace Go.Proofs.YtokigghopmopbaaGreatDoor
open Go.Shelf
set_option maxRecDepth 100000
def laysJoin_ren : Go.Shelf.Ren := ⟨fun | 156 => 26 | 165 => 41 | 166 => 42 | 169 => 43 | 240 => 50 | 241 => 51 | 276 => 58 | 277 => 59 | n => n, fun | 31 => 55 | 9 => 9 | 3 => 3 | 4 => 4 | 0 => 0 | 20 => 20 | 72 => 78 | 76 => 72 | 70 => 75 | 37 => 76 | 75 => 43 | 127 => 102 | 164 => 109 | 5 => 5 | 80 => 80 | n => n, fun | n => n⟩
theorem laysJoin : Go.Proofs.Lays.n156 Tryz.prog laysJoin_ren where
  mixed := by kernel_rfl
  f156 := Tryz.func26.trans (congrArg some (by kernel_rfl))
  f165 := Tryz.func41.trans (congrArg some (by kernel_rfl))
  f166 := Tryz.func42.trans (congrArg some (by kernel_rfl))
  f169 := Tryz.func43.trans (congrArg some (by kernel_rfl))
  f240 := Tryz.func50.trans (congrArg some (by kernel_rfl))
  f241 := Tryz.func51.trans (congrArg some (by kernel_rfl))
  f276 := Tryz.func58.trans (congrArg some (by kernel_rfl))
  f277 := Tryz.func59.trans (congrArg some (by kernel_rfl))
  t0 := Tryz.underlying0
  a0 := Tryz.isAgg0
  z0 := Tryz.sizeOf0
  v0 := Tryz.zeroValue0
  t3 := Tryz.underlying3
  a3 := Tryz.isAgg3
  z3 := Tryz.sizeOf3
  v3 := Tryz.zeroValue3
  t4 := Tryz.underlying4
  a4 := Tryz.isAgg4
  z4 := Tryz.sizeOf4
  v4 := Tryz.zeroValue4
  t9 := Tryz.underlying9
  a9 := Tryz.isAgg9
  z9 := Tryz.sizeOf9
  v9 := Tryz.zeroValue9
  t20 := Tryz.underlying20
  a20 := Tryz.isAgg20
  z20 := Tryz.sizeOf20
  v20 := Tryz.zeroValue20
  t31 := Tryz.underlying55
  a31 := Tryz.isAgg55
  z31 := Tryz.sizeOf55
  v31 := Tryz.zeroValue55
  t37 := Tryz.underlying76
  a37 := Tryz.isAgg76
  z37 := Tryz.sizeOf76
  v37 := Tryz.zeroValue76
  t70 := Tryz.underlying75
  a70 := Tryz.isAgg75
  z70 := Tryz.sizeOf75
  v70 := Tryz.zeroValue75
  t72 := Tryz.underlying78
  a72 := Tryz.isAgg78
  z72 := Tryz.sizeOf78
  v72 := Tryz.zeroValue78
  t75 := Tryz.underlying43
  a75 := Tryz.isAgg43
  z75 := Tryz.sizeOf43
  v75 := Tryz.zeroValue43
  t76 := Tryz.underlying72
  a76 := Tryz.isAgg72
  z76 := Tryz.sizeOf72
  v76 := Tryz.zeroValue72
  t127 := Tryz.underlying102
  a127 := Tryz.isAgg102
  z127 := Tryz.sizeOf102
  v127 := Tryz.zeroValue102
  t164 := Tryz.underlying109
  a164 := Tryz.isAgg109
  z164 := Tryz.sizeOf109
  v164 := Tryz.zeroValue109
end Go.Proofs.YtokigghopmopbaaGreatDoor
namespace Go.Proofs.YtokigghopmopbaaGreatDoor
set_option maxRecDepth 8000
def cutB (c : UInt8) : List UInt8 → List (List UInt8)
  | [] => [[]]
  | b :: s => if b = c then [] :: cutB c s else (match cutB c s with | [] => [[b]] | w :: r => (b :: w) :: r)
theorem cutB_ne (c : UInt8) : ∀ s, cutB c s ≠ []
  | [] => by simp [cutB]
  | b :: s => by
    unfold cutB
    split
    · simp
    · split <;> simp
theorem cutB_plain {c : UInt8} : ∀ {p : List UInt8}, c ∉ p → cutB c p = [p]
  | [], _ => rfl
  | b :: p, h => by
    have h1 : b ≠ c := fun e => h (by simp [e])
    have h2 : cutB c p = [p] := cutB_plain (fun e => h (by simp [e]))
    simp [cutB, h1, h2]
theorem cutB_sep {c : UInt8} : ∀ {p r : List UInt8}, c ∉ p → cutB c (p ++ c :: r) = p :: cutB c r
  | [], r, _ => by simp [cutB]
  | b :: p, r, h => by
    have h1 : b ≠ c := fun e => h (by simp [e])
    have h2 : cutB c (p ++ c :: r) = p :: cutB c r := cutB_sep (fun e => h (by simp [e]))
    simp [cutB, h1, h2]
theorem cutB_length (c : UInt8) : ∀ s, (cutB c s).length ≤ s.length + 1
  | [] => by simp [cutB]
  | b :: s => by
    have := cutB_length c s
    unfold cutB
    split
    · simp; omega
    · split
      · simp
      · rename_i w r e; rw [e] at this; simp at this ⊢; omega
def wordsB (s : List UInt8) : List (List UInt8) := (cutB 32 s).filter fun w => !w.isEmpty
end Go.Proofs.YtokigghopmopbaaGreatDoor
namespace Go.Proofs.YtokigghopmopbaaGreatDoor
open Go.RowKit
set_option maxRecDepth 8000
end Go.Proofs.YtokigghopmopbaaGreatDoor
namespace Go.Proofs.YtokigghopmopbaaGreatDoor
open Go.RowKit
set_option maxRecDepth 8000
end Go.Proofs.YtokigghopmopbaaGreatDoor
namespace Go.Proofs.YtokigghopmopbaaGreatDoor
open Go.RowKit
set_option maxRecDepth 8000
theorem byteEq {b c : UInt8} : ((b.toNat : Int) = (c.toNat : Int)) = (b = c) := by
  simp only [eq_iff_iff]
  constructor
  · intro h; exact UInt8.toNat_inj.1 (by omega)
  · rintro rfl; rfl
theorem refCut (s : List UInt8) (c : UInt8) (hs : s.length ≤ 1000000) : HFn Tryz.prog 44 [.v (str s), .v (.int .u8 (c.toNat : Int))] (owStrs (cutB c s)) := by
  refine HCalls_body (fn := Tryz.f44) 34 [4] (by kernel_rfl) rfl (by kernel_rfl) (HW.run 200 (by kernel_rfl) ?_)
  simp (config := { decide := true }) only [go_sem, Nat.reduceAdd, Nat.reduceSub, Nat.reduceMul, Nat.reduceBEq, reduceIte, reduceCtorEq]
  refine HW.loopG (fun k T H => ∃ (i from' : Nat) (out : List (List UInt8)), k = s.length - i ∧ i ≤ s.length ∧ from' ≤ i ∧ out.length ≤ from' ∧ cutB c s = out ++ cutB c (s.drop from') ∧ c ∉ (s.take i).drop from' ∧
    T 0 = .v (str s) ∧ T 1 = .v (.int .u8 (c.toNat : Int)) ∧ T 5 = .hd 0 0 out.length ∧ T 6 = .v (.int .i64 from') ∧ T 7 = .v (.int .i64 i) ∧ H = [some ⟨9, 1, strs out⟩]) s.length
    ⟨_, _, Ghost.nil 5 9 1 rfl, 0, 0, [], by simp, by omega, by omega, by simp, by simp, by simp, rfl, rfl, rfl, rfl, rfl, rfl⟩ ?_
  rintro k T H ⟨i, fr, out, rfl, hi, hfr, hout, hcut, hno, h0, h1, h5, h6, h7, rfl⟩
  refine HW.run 200 (by kernel_rfl) ?_
  rcases Nat.lt_or_ge i s.length with hlt | hge
  · have hlt' : (i : Int) < (s.length : Int) := by omega
    have hx : s[i]? = some s[i] := by simp [hlt]
    simp (config := { decide := true }) only [go_sem, Nat.reduceAdd, Nat.reduceSub, Nat.reduceMul, Nat.reduceBEq, reduceIte, reduceCtorEq, h0, h1, h5, h6, h7, hlt', hx, byteEq]
    refine ⟨fun he => ⟨by omega, by omega, _, _, Ghost.trunc [0, 1, 5, 6, 7] 1 (by omega) ?_ ?_, s.length - (i + 1), by omega, i + 1, i + 1, out ++ [(s.take i).drop fr], rfl, by omega, by omega, by simp; omega, ?_, ?_, ?_, ?_, ?_, ?_, ?_, ?_⟩,
      fun hne => ⟨_, _, Ghost.refl, s.length - (i + 1), by omega, i + 1, fr, out, rfl, by omega, by omega, by omega, hcut, ?_, ?_, ?_, ?_, ?_, ?_, rfl⟩⟩
    · simp (config := { decide := true }) only [go_sem, Nat.reduceBEq, reduceIte, h0, h1]
    · simp (config := { decide := true }) only [go_sem, Nat.reduceBEq, reduceIte]
    · have e : s.drop fr = (s.take i).drop fr ++ c :: s.drop (i + 1) := by
        have h1 : s.drop fr = (s.take i).drop fr ++ s.drop i := by
          conv => lhs; rw [← List.take_append_drop i s]
          rw [List.drop_append_of_le_length (by simp; omega)]
        rw [h1, List.drop_eq_getElem_cons hlt, he]
      rw [hcut, e, cutB_sep hno]
      simp
    · simp
    iterate 5
      · first | rfl | (simp (config := { decide := true }) only [go_sem, Nat.reduceBEq, reduceIte, h0, h1]; done) | (simp (config := { decide := true }) only [go_sem, Nat.reduceBEq, reduceIte]; rw [w64 (by omega) (by omega)]; rfl)
    · rfl
    · have e : (s.take (i + 1)).drop fr = (s.take i).drop fr ++ [s[i]] := by
        rw [List.take_add_one, hx, List.drop_append_of_le_length (by simp; omega)]
        rfl
      rw [e]
      simp only [List.mem_append, List.mem_singleton]
      rintro (h | h)
      · exact hno h
      · exact hne h.symm
    all_goals first | rfl | (simp (config := { decide := true }) only [go_sem, Nat.reduceBEq, reduceIte, h0, h1, h5, h6]; done) | (simp (config := { decide := true }) only [go_sem, Nat.reduceBEq, reduceIte]; rw [w64 (by omega) (by omega)]; rfl)
  · have hge' : ¬ (i : Int) < (s.length : Int) := by omega
    simp (config := { decide := true }) only [go_sem, Nat.reduceAdd, Nat.reduceSub, Nat.reduceMul, Nat.reduceBEq, reduceIte, reduceCtorEq, h0, h1, h5, h6, h7, hge']
    refine ⟨by omega, by omega, ?_⟩
    have e : i = s.length := by omega
    rw [e, List.take_length] at hno
    rw [hcut, cutB_plain hno]
    rfl
end Go.Proofs.YtokigghopmopbaaGreatDoor
namespace Go.Proofs.YtokigghopmopbaaGreatDoor
open Go.RowKit
set_option maxRecDepth 8000
theorem refWords (s : List UInt8) (hs : s.length ≤ 1000000) : HFn Tryz.prog 27 [.v (str s)] (owStrs (wordsB s)) := by
  refine HCalls_body (fn := Tryz.f27) 27 [2] (by kernel_rfl) rfl (by kernel_rfl) (HW.run 200 (by kernel_rfl) ?_)
  simp (config := { decide := true }) only [go_sem, Nat.reduceAdd, Nat.reduceSub, Nat.reduceMul, Nat.reduceBEq, reduceIte, reduceCtorEq]
  refine callX_fn 3 (refCut s 32 hs) (by simp only [go_sem]; rfl) nz_owStrs ?_
  have hlen := cutB_length 32 s
  have hw : wordsB s = (cutB 32 s).filter fun w => !w.isEmpty := rfl
  generalize cutB 32 s = l at hlen hw ⊢
  simp (config := { decide := true }) only [go_sem, owStrs, Nat.reduceAdd, Nat.reduceSub, Nat.reduceMul, Nat.reduceBEq, reduceIte, reduceCtorEq]
  refine HW.loopG (fun k T H => ∃ (i : Nat), k = l.length - i ∧ i ≤ l.length ∧
    T 4 = .hd 0 0 l.length ∧ T 3 = .hd 1 0 ((l.take i).filter fun w => !w.isEmpty).length ∧ T 5 = .v (.int .i64 i) ∧ H = [some ⟨9, 1, strs l⟩, some ⟨9, 1, strs ((l.take i).filter fun w => !w.isEmpty)⟩]) l.length
    ⟨_, _, Ghost.nil 3 9 1 rfl, 0, by simp, by omega, rfl, rfl, rfl, rfl⟩ ?_
  rintro k T H ⟨i, rfl, hi, h4, h3, h5, rfl⟩
  have hfl : ((l.take i).filter fun w => !w.isEmpty).length ≤ i := Nat.le_trans (List.length_filter_le _ _) (by simp; omega)
  refine HW.run 200 (by kernel_rfl) ?_
  rcases Nat.lt_or_ge i l.length with hlt | hge
  · have hlt' : (i : Int) < (l.length : Int) := by omega
    have hx : l[i]? = some l[i] := by simp [hlt]
    have ht : l.take (i + 1) = l.take i ++ [l[i]] := by rw [List.take_add_one, hx]; rfl
    simp (config := { decide := true }) only [go_sem, Nat.reduceAdd, Nat.reduceSub, Nat.reduceMul, Nat.reduceBEq, reduceIte, reduceCtorEq, h4, h3, h5, hlt', hx]
    have hf : ¬ l[i] = [] → (l.take (i + 1)).filter (fun w => !w.isEmpty) = ((l.take i).filter fun w => !w.isEmpty) ++ [l[i]] := fun hne => by
      rw [ht, List.filter_append]
      simp [List.filter_cons, hne]
    have hf2 : l[i] = [] → (l.take (i + 1)).filter (fun w => !w.isEmpty) = ((l.take i).filter fun w => !w.isEmpty) := fun he => by
      rw [ht, List.filter_append]
      simp [List.filter_cons, he]
    refine ⟨fun hne => ⟨by omega, _, _, Ghost.trunc [3, 4, 5] 2 (by omega) ?_ ?_, l.length - (i + 1), by omega, i + 1, rfl, by omega, ?_, ?_, ?_, ?_⟩,
      fun he => ⟨_, _, Ghost.refl, l.length - (i + 1), by omega, i + 1, rfl, by omega, ?_, ?_, ?_, ?_⟩⟩
    · simp (config := { decide := true }) only [go_sem, Nat.reduceBEq, reduceIte, h4]
    · simp (config := { decide := true }) only [go_sem, Nat.reduceBEq, reduceIte]
    · simp (config := { decide := true }) only [go_sem, Nat.reduceBEq, reduceIte, h4]
    · rw [hf hne]
      simp (config := { decide := true }) only [go_sem, Nat.reduceBEq, reduceIte]
    · simp (config := { decide := true }) only [go_sem, Nat.reduceBEq, reduceIte]
      rw [w64 (by omega) (by omega)]; rfl
    · rw [hf hne]; rfl
    · simp (config := { decide := true }) only [go_sem, Nat.reduceBEq, reduceIte, h4]
    · rw [hf2 he]
      simp (config := { decide := true }) only [go_sem, Nat.reduceBEq, reduceIte, h3]
    · simp (config := { decide := true }) only [go_sem, Nat.reduceBEq, reduceIte]
      rw [w64 (by omega) (by omega)]; rfl
    · rw [hf2 he]
  · have ei : i = l.length := by omega
    subst ei
    rw [List.take_length] at h3
    simp (config := { decide := true }) only [go_sem, Nat.reduceAdd, Nat.reduceSub, Nat.reduceMul, Nat.reduceBEq, reduceIte, reduceCtorEq, h4, h3, h5, hw, Int.lt_irrefl]
end Go.Proofs.YtokigghopmopbaaGreatDoor
namespace Go.Proofs.YtokigghopmopbaaGreatDoor
open Go.RowKit
set_option maxRecDepth 8000
end Go.Proofs.YtokigghopmopbaaGreatDoor
namespace Go.Proofs.YtokigghopmopbaaGreatDoor
open Go.RowKit Go.Shelf
set_option maxRecDepth 8000
theorem joinExtra : Builder.Extra Tryz.prog laysJoin_ren where
  sizeBuilder := by kernel_rfl
  liesBuilder := by kernel_rfl
  t5 := by kernel_rfl
  a5 := Tryz.isAgg5
  z5 := Tryz.sizeOf5
  v5 := Tryz.zeroValue5
  infoByte := by kernel_rfl
  cellsByte := by kernel_rfl
  sizeByte := by kernel_rfl
  neB5 := by decide
theorem RR_strs {Z : Nat → Prop} {G : List (Option OG)} {w : World} {b : Nat} : ∀ (l : List (List UInt8)) (k : Nat) (fp : List Nat), RR Z G w (strs l) b k fp → ∀ (j : Nat) (x : List UInt8), l[j]? = some x → w.cell? ⟨b, k + j, none⟩ = some (str x)
  | [], k, fp, _, j, x, h => by simp at h
  | y :: l, k, fp, hr, j, x, h => by
    show w.cell? ⟨b, k + j, none⟩ = some (str x)
    have hr' : RR Z G w ([.v (str y)] :: strs l) b k fp := hr
    simp only [RR, RC, RV] at hr'
    obtain ⟨f1, f2, _, ⟨z, g1, g2, _, h1, _, ⟨_, h2⟩, _⟩, h3⟩ := hr'
    cases j with
    | zero =>
      simp only [List.getElem?_cons_zero, Option.some.injEq] at h
      subst h
      rw [Nat.add_zero, h1, h2]
    | succ j =>
      have := RR_strs l (k + 1) f2 h3 j x (by simpa using h)
      rw [show k + (j + 1) = k + 1 + j by omega]
      exact this
theorem stringsJoin (l : List (List UInt8)) (sep : List UInt8) (hl : l.length ≤ 140737488355328) (hj : (Lib.join l sep).length ≤ 140737488355328) : HFn Tryz.prog 26 [.sl (strs l), .v (str sep)] (.v (str (Lib.join l sep))) := by
  refine ⟨fun vals w => by simp [callFunc, Tryz.func26, Tryz.f26], fun Z G FP w vals hi ha => ?_⟩
  have hmap : (l.map fun s => (⟨s.toArray⟩ : ByteArray)).map (·.data.toList) = l := by
    rw [List.map_map]
    have : ((fun x : ByteArray => x.data.toList) ∘ fun s : List UInt8 => (⟨s.toArray⟩ : ByteArray)) = id := by funext s; rfl
    rw [this, List.map_id]
  have post : ∀ e w', (e = .returned (str (Lib.join l sep)) ∧ Below w.heap.size w w') → Post Z G FP [] w (fun r _ => r = .v (str (Lib.join l sep))) e w' := by
    rintro e w' ⟨rfl, hB⟩
    refine ⟨_, _, [], Z, G, FP, [], rfl, rfl, rfl, hi.keep hB.size (fun b hb => hB.block b ?_), by simp [RV], by simp, by simp, by simp, GLe.refl _, ⟨hB.os, hB.tape, hB.output, hB.size, fun b hb _ => hB.block b hb, fun _ h => h, fun _ h => .inl h, fun id b hb => .inr ⟨id, hb⟩⟩⟩
    rcases hb with hb | ⟨id, hb⟩
    · exact hi.zlt b hb
    · exact hi.flt id b hb
  rw [RL.eq_def] at ha
  simp only at ha
  obtain ⟨y1, ys1, f1, f2, rfl, hf, h1, h2⟩ := ha
  simp only [RL, RV] at h2
  obtain ⟨y2, ys2, f3, f4, rfl, hf2, ⟨_, rfl⟩, rfl, _⟩ := h2
  rw [RV] at h1
  obtain ⟨_, a, c, rfl, hc, hm, h1⟩ := h1
  have hlen : (strs l).length = l.length := strs_length
  rw [hlen] at hc ⊢
  rcases h1 with h1 | ⟨b, o, rfl, hz, _, hr⟩
  · have h0 : l = [] := by
      have : (strs l).length = 0 := by rw [h1]; rfl
      rw [hlen] at this
      exact List.length_eq_zero_iff.1 this
    subst h0
    refine Calls.mono (Any.strings_Join_none laysJoin joinExtra a c ⟨sep.toArray⟩ w) ?_
    rintro e w' ⟨he, rfl⟩
    exact post _ _ ⟨he, Below.refl _ _⟩
  · have hcell := RR_strs l o [] hr
    have := Any.strings_Join laysJoin joinExtra b o c (l.map fun s => (⟨s.toArray⟩ : ByteArray)) ⟨sep.toArray⟩ w (fun j x hx => by
      rw [List.getElem?_map] at hx
      obtain ⟨s, hs, rfl⟩ := Option.map_eq_some_iff.1 hx
      exact hcell j s hs) (hi.zlt b hz) (by rw [List.length_map]; exact hl) (by rw [List.length_map]; exact hc) (by rw [hmap]; exact hj)
    rw [hmap, List.length_map] at this
    exact Calls.mono this post
end Go.Proofs.YtokigghopmopbaaGreatDoor
namespace Go.Proofs.YtokigghopmopbaaGreatDoor
open Go.RowKit Go.Shelf
set_option maxRecDepth 8000
def renCut : Ren where
  f := fun n => if n = 145 then 47 else if n = 217 then 65 else if n = 219 then 60 else if n = 220 then 52 else if n = 224 then 67 else if n = 225 then 66 else if n = 266 then 72 else if n = 267 then 68 else if n = 314 then 73 else 0
  t := fun n => if n = 3 then 3 else if n = 4 then 4 else if n = 5 then 5 else if n = 9 then 9 else if n = 46 then 116 else if n = 51 then 127 else if n = 59 then 99 else if n = 146 then 128 else 0
  g := fun n => if n = 1 then 4 else 0
theorem agg_no {P : Program} {t : TypeId} {d : TypeDesc} (h : P.underlying t = some d) (hd : (match d with | .struct _ | .array _ _ => true | _ => false) = false) : ∀ w, (isAgg t).run P w = .ok false w := by
  intro w
  unfold isAgg
  simp only [Sem.run_bind, run_underlying h, Result.andThen_ok]
  cases d <;> simp_all
theorem laysCut : Lays.n145 Tryz.prog renCut where
  mixed := by kernel_rfl
  f145 := by kernel_rfl
  f217 := by kernel_rfl
  f219 := by kernel_rfl
  f220 := by kernel_rfl
  f224 := by kernel_rfl
  f225 := by kernel_rfl
  f266 := by kernel_rfl
  f267 := by kernel_rfl
  f314 := by kernel_rfl
  t3 := by kernel_rfl
  a3 := agg_no (P := Tryz.prog) (t := renCut.t 3) (d := .int .i64) (by kernel_rfl) rfl
  z3 := fun w => by kernel_rfl
  v3 := fun w => by kernel_rfl
  t4 := by kernel_rfl
  a4 := agg_no (P := Tryz.prog) (t := renCut.t 4) (d := .bool) (by kernel_rfl) rfl
  z4 := fun w => by kernel_rfl
  v4 := fun w => by kernel_rfl
  t5 := by kernel_rfl
  a5 := agg_no (P := Tryz.prog) (t := renCut.t 5) (d := .int .u8) (by kernel_rfl) rfl
  z5 := fun w => by kernel_rfl
  v5 := fun w => by kernel_rfl
  t9 := by kernel_rfl
  a9 := agg_no (P := Tryz.prog) (t := renCut.t 9) (d := .string) (by kernel_rfl) rfl
  z9 := fun w => by kernel_rfl
  v9 := fun w => by kernel_rfl
  t46 := by kernel_rfl
  a46 := agg_no (P := Tryz.prog) (t := renCut.t 46) (d := .int .u64) (by kernel_rfl) rfl
  z46 := fun w => by kernel_rfl
  v46 := fun w => by kernel_rfl
  t51 := by kernel_rfl
  a51 := agg_no (P := Tryz.prog) (t := renCut.t 51) (d := .int .u32) (by kernel_rfl) rfl
  z51 := fun w => by kernel_rfl
  v51 := fun w => by kernel_rfl
  t59 := by kernel_rfl
  a59 := agg_no (P := Tryz.prog) (t := renCut.t 59) (d := .tuple #[renCut.t 9, renCut.t 9, renCut.t 4]) (by kernel_rfl) rfl
  z59 := fun w => by kernel_rfl
  v59 := fun w => by kernel_rfl
  t146 := by kernel_rfl
  a146 := agg_no (P := Tryz.prog) (t := renCut.t 146) (d := .tuple #[renCut.t 51, renCut.t 51]) (by kernel_rfl) rfl
  z146 := fun w => by kernel_rfl
  v146 := fun w => by kernel_rfl
  g1 := by kernel_rfl
theorem enters {P : Program} {f : FuncId} {fn : Func} {c : Code} (hf : P.funcs[f]? = some fn) (hb : fn.body = some c) (hn : (fn.name == "runtime.NumGoroutine") = false) (vals : Array Value) (w : World) : (callFunc f vals).run P w = .ok (.enter f vals) w := by
  have hne : ¬ fn.name = "runtime.NumGoroutine" := by simpa using hn
  simp [callFunc, hf, hne, hb]
theorem stringsCut (s sep : List UInt8) (hs : s.length < 4294967281) : HFn Tryz.prog 47 [.v (str s), .v (str sep)] (.tu [.v (str (Lib.cut s sep).1), .v (str (Lib.cut s sep).2.1), .v (.bool (Lib.cut s sep).2.2)]) := by
  refine ⟨enters (fn := Tryz.f47) rfl rfl rfl, fun Z G FP w vals hi ha => ?_⟩
  simp only [RL, RV] at ha
  obtain ⟨y1, ys1, f1, f2, rfl, hf, ⟨_, rfl⟩, y2, ys2, f3, f4, rfl, hf2, ⟨_, rfl⟩, rfl, _⟩ := ha
  obtain ⟨_, m, hm⟩ := hi.glob.int 4 rfl
  have hsz : (⟨s.toArray⟩ : ByteArray).size < 4294967281 := by simpa [ByteArray.size] using hs
  refine Calls.mono (Any.strings_Cut laysCut ⟨s.toArray⟩ ⟨sep.toArray⟩ m w hsz hm) ?_
  rintro e w' ⟨rfl, n, rfl⟩
  have hh : (w.drewN n).heap = w.heap := rfl
  refine ⟨_, _, [], Z, G, FP, [], rfl, rfl, rfl, hi.keep (by rw [hh]; exact Nat.le_refl _) (fun _ _ => by rw [hh]), ?_, by simp, by simp, by simp, GLe.refl _, ⟨rfl, rfl, rfl, by rw [hh]; exact Nat.le_refl _, fun _ _ _ => by rw [hh], fun _ h => h, fun _ h => .inl h, fun id b hb => .inr ⟨id, hb⟩⟩⟩
  simp only [RV, RL]
  refine ⟨_, rfl, _, _, [], [], rfl, rfl, ⟨rfl, ?_⟩, _, _, [], [], rfl, rfl, ⟨rfl, ?_⟩, _, _, [], [], rfl, rfl, ⟨rfl, ?_⟩, rfl, rfl⟩ <;> simp [str]
end Go.Proofs.YtokigghopmopbaaGreatDoor
namespace Go.Proofs.YtokigghopmopbaaGreatDoor
set_option maxRecDepth 8000
theorem index1 (c : UInt8) : ∀ s : List UInt8, (∃ p r, s = p ++ c :: r ∧ c ∉ p ∧ Lib.index s [c] = (p.length : Int)) ∨ (c ∉ s ∧ Lib.index s [c] = -1)
  | [] => .inr ⟨by simp, by simp [Lib.index]⟩
  | b :: l => by
    by_cases hb : c = b
    · subst hb
      exact .inl ⟨[], l, rfl, by simp, by simp [Lib.index, List.isPrefixOf]⟩
    · have hp : ([c] : List UInt8).isPrefixOf (b :: l) = false := by simp [List.isPrefixOf, hb]
      rcases index1 c l with ⟨p, r, rfl, h1, h2⟩ | ⟨h1, h2⟩
      · refine .inl ⟨b :: p, r, rfl, by simp [hb, h1], ?_⟩
        have hne : (p.length : Int) ≠ -1 := by omega
        simp only [Lib.index, hp, h2]
        simp [hne]
      · refine .inr ⟨by simp [hb, h1], ?_⟩
        simp only [Lib.index, hp, h2]
        simp
theorem cut1 (c : UInt8) (s : List UInt8) : (∃ p r, s = p ++ c :: r ∧ c ∉ p ∧ Lib.cut s [c] = (p, r, true)) ∨ (c ∉ s ∧ Lib.cut s [c] = (s, [], false)) := by
  rcases index1 c s with ⟨p, r, rfl, h1, h2⟩ | ⟨h1, h2⟩
  · refine .inl ⟨p, r, rfl, h1, ?_⟩
    unfold Lib.cut
    rw [h2, if_pos (by omega)]
    simp
  · refine .inr ⟨h1, ?_⟩
    unfold Lib.cut
    rw [h2, if_neg (by omega)]
end Go.Proofs.YtokigghopmopbaaGreatDoor
namespace Go.Proofs.YtokigghopmopbaaGreatDoor
open Go.RowKit
set_option maxRecDepth 8000
end Go.Proofs.YtokigghopmopbaaGreatDoor
namespace Go.Proofs.YtokigghopmopbaaGreatDoor
open Go.RowKit
set_option maxRecDepth 8000
theorem wordsB_nil : wordsB [] = [] := by decide
theorem wordsB_step {s : List UInt8} (hs : s ≠ []) : wordsB s = (if (Lib.cut s [32]).1 = [] then [] else [(Lib.cut s [32]).1]) ++ wordsB (Lib.cut s [32]).2.1 ∧ (Lib.cut s [32]).2.1.length < s.length := by
  rcases cut1 32 s with ⟨p, r, rfl, h1, h2⟩ | ⟨h1, h2⟩
  · rw [h2]
    refine ⟨?_, by simp; omega⟩
    unfold wordsB
    rw [cutB_sep h1]
    by_cases hp : p = []
    · simp [hp]
    · simp [hp]
  · rw [h2]
    refine ⟨?_, by simpa using List.length_pos_iff.2 hs⟩
    unfold wordsB
    rw [cutB_plain h1]
    simp [cutB, hs]
def WordsI (s : List UInt8) (m id : Nat) (J : Nat → Heap → Prop) (k : Nat) (T : Nat → HV) (H : Heap) : Prop := ∃ i cur Hq, k = cur.length ∧ J i Hq ∧ Hq.length = m ∧ (wordsB s).drop i = wordsB cur ∧ i ≤ (wordsB s).length ∧ cur.length ≤ 1000000 ∧
  T 0 = .yl id ∧ T 1 = .pt m 1 0 0 ∧ H = Hq ++ [some ⟨9, 1, [[.v (str cur)]]⟩]
theorem words1 (s : List UInt8) (hs : s.length ≤ 1000000) (Hc : Heap) (n : Nat) (hn : Hc[n]? = some (some ⟨9, 1, [[.v (str s)]]⟩)) :
    HSeq Tryz.prog 46 Hc [.pt n 1 0 0] (Hc.set n none) ((wordsB s).map srow) := by
  intro id J K hid hJ hK hY h0
  refine HCalls_body (fn := Tryz.f46) 23 [] rfl rfl (by kernel_rfl) (HW.ghost (Ghost.move 1 n 1 0 0 _ rfl hn) (HW.run 60 (by kernel_rfl) ?_))
  simp (config := { decide := true }) only [go_sem, Nat.reduceAdd, Nat.reduceSub, Nat.reduceMul, Nat.reduceBEq, reduceIte, reduceCtorEq]
  refine HW.loopG (WordsI s Hc.length id J) s.length ⟨_, _, Ghost.refl, 0, s, _, rfl, h0, by simp, rfl, by omega, hs, rfl, rfl, rfl⟩ ?_
  rintro k T H ⟨i, cur, Hq, rfl, hJi, hlen, hw, hi, hb, h0, h1, rfl⟩
  have g0 : ∀ B : Heap, getO (Hq ++ B) Hc.length = getO B 0 := fun B => getO_behind0 hlen
  have g1 : ∀ (B : Heap) x, (Hq ++ B).set Hc.length x = Hq ++ B.set 0 x := fun B x => set_behind0 hlen
  refine HW.run 200 (by kernel_rfl) ?_
  by_cases hc : cur = []
  · subst hc
    simp (config := { decide := true }) only [go_sem, Nat.reduceAdd, Nat.reduceSub, Nat.reduceMul, Nat.reduceBEq, reduceIte, reduceCtorEq, h0, h1, g0, g1]
    refine endP_behind hlen (hJ _ _ hJi).2 (.inl ?_)
    have : (wordsB s).length ≤ i := by
      have h := congrArg List.length hw
      rw [wordsB_nil, List.length_drop, List.length_nil] at h
      omega
    have e : ((wordsB s).map srow).length = i := by simp; omega
    rw [e]; exact hJi
  · simp (config := { decide := true }) only [go_sem, Nat.reduceAdd, Nat.reduceSub, Nat.reduceMul, Nat.reduceBEq, reduceIte, reduceCtorEq, h0, h1, g0, g1, hc]
    obtain ⟨hst, hlt⟩ := wordsB_step hc
    refine callX_fn 3 (stringsCut cur [32] (by omega)) (by simp only [go_sem]) rfl ?_
    generalize Lib.cut cur [32] = ct at hst hlt ⊢
    obtain ⟨ln, rs, fd⟩ := ct
    simp only at hst hlt
    have next : ∀ (T' : Nat → HV) (i' : Nat) (Hq' : Heap), Hq'.length = Hc.length → J i' Hq' → i' ≤ (wordsB s).length → (wordsB s).drop i' = wordsB rs → T' 0 = .yl id → T' 1 = .pt Hc.length 1 0 0 →
        GQ 23 Hc.length (fun T' H' => ∃ k', k' < cur.length ∧ WordsI s Hc.length id J k' T' H') T' (Hq' ++ [some ⟨9, 1, [[.v (str rs)]]⟩]) :=
      fun T' i' Hq' hl' hj' hi' hd' t0 t1 => ⟨_, _, Ghost.refl, rs.length, hlt, i', rs, Hq', rfl, hj', hl', hd', hi', by omega, t0, t1, rfl⟩
    by_cases he : ln = []
    · rw [if_pos he, List.nil_append] at hst
      simp (config := { decide := true }) only [go_sem, Nat.reduceAdd, Nat.reduceSub, Nat.reduceMul, Nat.reduceBEq, reduceIte, reduceCtorEq, h0, h1, g0, g1, he]
      refine next _ i Hq hlen hJi hi (hw.trans hst) ?_ ?_ <;> simp (config := { decide := true }) only [go_sem, Nat.reduceBEq, reduceIte, h0, h1]
    · rw [if_neg he] at hst
      simp (config := { decide := true }) only [go_sem, Nat.reduceAdd, Nat.reduceSub, Nat.reduceMul, Nat.reduceBEq, reduceIte, reduceCtorEq, h0, h1, g0, g1, he]
      have hget : (wordsB s)[i]? = some ln := by
        have h := congrArg (fun l => l[0]?) (hw.trans hst)
        simpa using h
      have hdrop : (wordsB s).drop (i + 1) = wordsB rs := by
        have h := congrArg (fun l => l.drop 1) (hw.trans hst)
        simpa [List.drop_drop] using h
      have hlt2 : i < (wordsB s).length := (List.getElem?_eq_some_iff.1 hget).1
      refine yieldX_at hlen hid (hJ _ _ hJi).2 rfl (hY i _ Hq (by rw [List.getElem?_map, hget]; rfl) hJi) ?_
      intro b Hq' hb' hlen'
      have g0 : ∀ B : Heap, getO (Hq' ++ B) Hc.length = getO B 0 := fun B => getO_behind0 hlen'
      cases b with
      | true =>
        simp only [if_true] at hb'
        simp (config := { decide := true }) only [go_sem, Nat.reduceAdd, Nat.reduceSub, Nat.reduceMul, Nat.reduceBEq, reduceIte, reduceCtorEq, h0, h1, g0, he]
        refine next _ (i + 1) Hq' hlen' hb' hlt2 hdrop ?_ ?_ <;> simp (config := { decide := true }) only [go_sem, Nat.reduceBEq, reduceIte, h0, h1]
      | false =>
        simp only [Bool.false_eq_true, if_false] at hb'
        simp (config := { decide := true }) only [go_sem, Nat.reduceAdd, Nat.reduceSub, Nat.reduceMul, Nat.reduceBEq, reduceIte, reduceCtorEq, h0, h1, g0, he]
        exact endP_behind hlen' (hK _ _ hb') (.inr ⟨_, hb'⟩)
theorem wordsIt (s : List UInt8) : HFn Tryz.prog 38 [.v (str s)] (.fn 46 [.bx 9 1 [.v (str s)]]) := by
  refine HCalls_body (fn := Tryz.f38) 4 [2] (by kernel_rfl) rfl (by kernel_rfl) (HW.run 200 (by kernel_rfl) ?_)
  simp (config := { decide := true }) only [go_sem, Nat.reduceAdd, Nat.reduceSub, Nat.reduceMul, Nat.reduceBEq, reduceIte, reduceCtorEq]
theorem wordsPr (s : List UInt8) (hs : s.length ≤ 1000000) : HFn Tryz.prog 24 [.v (str s)] (owStrs (wordsB s)) := by
  refine HCalls_body (fn := Tryz.f24) 13 [2] (by kernel_rfl) rfl (by kernel_rfl) (HW.run 200 (by kernel_rfl) ?_)
  simp (config := { decide := true }) only [go_sem, Nat.reduceAdd, Nat.reduceSub, Nat.reduceMul, Nat.reduceBEq, reduceIte, reduceCtorEq]
  refine callX_fn 3 (wordsIt s) (by simp only [go_sem]) rfl ?_
  simp (config := { decide := true }) only [go_sem, Nat.reduceAdd, Nat.reduceSub, Nat.reduceMul, Nat.reduceBEq, reduceIte, reduceCtorEq]
  refine HW.ghost (Ghost.cell 0 0 0 (.ow 9 1 []) rfl rfl rfl rfl (Conv.nilOw _ _) (by simp)) ?_
  refine HW.rangeFunc rfl (by decide) rfl ((wordsB s).map srow) [some ⟨55, 1, [[.ow 9 1 (strs [])]]⟩, none] (fun i Hi => Hi = [some ⟨55, 1, [[.ow 9 1 (strs ((wordsB s).take i))]]⟩, none]) (fun _ _ => False)
    (SubH.spec (And.intro rfl trivial)) ?_ (fun o => words1 s hs _ 1 rfl) rfl ?_ ?_ (fun _ _ _ h => h.elim)
  · intro x hx
    obtain ⟨y, _, rfl⟩ := List.mem_map.1 hx
    exact ⟨rfl, rfl⟩
  · rintro i x Hi hx - rfl
    have hlen : (wordsB s).length ≤ s.length + 1 := Nat.le_trans (List.length_filter_le _ _) (cutB_length 32 s)
    have hil : ((wordsB s).take i).length ≤ s.length + 1 := Nat.le_trans (List.length_take_le' _ _) hlen
    rw [List.getElem?_map] at hx
    obtain ⟨y, hy, rfl⟩ := Option.map_eq_some_iff.1 hx
    refine HW.run 60 (by kernel_rfl) ?_
    simp (config := { decide := true }) only [go_sem, Nat.reduceAdd, Nat.reduceSub, Nat.reduceMul, Nat.reduceBEq, reduceIte, reduceCtorEq]
    refine HW.run 60 (by kernel_rfl) ?_
    simp (config := { decide := true }) only [go_sem, Nat.reduceAdd, Nat.reduceSub, Nat.reduceMul, Nat.reduceBEq, reduceIte, reduceCtorEq]
    refine ⟨by omega, _, _, (Ghost.absorb 0 0 0).trans (Ghost.trunc [] 2 (by omega) rfl ?_), ?_⟩
    · simp (config := { decide := true }) only [go_sem, Nat.reduceAdd, Nat.reduceSub, Nat.reduceMul, Nat.reduceBEq, reduceIte, reduceCtorEq]
    · simp (config := { decide := true }) only [go_sem, Nat.reduceAdd, Nat.reduceSub, Nat.reduceMul, Nat.reduceBEq, reduceIte, reduceCtorEq]
      rw [List.take_add_one, hy]
      rfl
  · rintro Hf - rfl
    simp (config := { decide := true }) only [go_sem, Nat.reduceAdd, Nat.reduceSub, Nat.reduceMul, Nat.reduceBEq, reduceIte, reduceCtorEq]
    rw [List.take_of_length_le (by simp)]
    rfl
end Go.Proofs.YtokigghopmopbaaGreatDoor
namespace Go.Proofs.YtokigghopmopbaaGreatDoor
open Go.RowKit Go.Shelf
set_option maxRecDepth 8000
end Go.Proofs.YtokigghopmopbaaGreatDoor
namespace Go.Proofs.YtokigghopmopbaaGreatDoor
open Go.RowKit
set_option maxRecDepth 8000
end Go.Proofs.YtokigghopmopbaaGreatDoor
