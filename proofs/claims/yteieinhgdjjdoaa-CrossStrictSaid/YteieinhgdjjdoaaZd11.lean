/- Parts of the proof: Cc, Cd, Ck, Dd, Su, Sv, Cb, Cn. -/
import Derived.Test.YteieinhgdjjdoaaZd10
import Derived.Test.YteieinhgdjjdoaaZd08
import Derived.Test.YteieinhgdjjdoaaZd09
set_option linter.unusedSectionVars false
set_option linter.unusedVariables false
set_option linter.unusedSimpArgs false
namespace Go.Proofs.Yteieinhgdjjdoaa
open Go.RowKit
set_option maxRecDepth 8000
theorem wrts_zero (n : Nat) : List.replicate n [HV.v (.int .i64 0), HV.v (.int .i64 0)] = wrts (List.replicate n (0, 0)) := by simp [wrts, wrow]
set_option maxHeartbeats 4000000 in
theorem bufPush (b : List (Int × Int)) (l n : Int) (hb : b.length ≤ 100000) : HFn Try.prog 79 [.sl (wrts b), .ag [.v (.int .i64 l), .v (.int .i64 n)]] (owWrts (b ++ [(l, n)])) := by
  refine HCalls_body (fn := Try.f79) 19 [4] (by kernel_rfl) rfl (by kernel_rfl) (HW.run 400 (by kernel_rfl) ?_)
  have e1 : IntKind.i64.wrap ((b.length : Int) + 1) = ((b.length + 1 : Nat) : Int) := by rw [w64 (by omega) (by omega)]; rfl
  simp (config := { decide := true }) only [go_sem, Int.reduceToNat, Nat.reduceAdd, Nat.reduceSub, Nat.reduceMul, Nat.reduceBEq, reduceIte, reduceCtorEq, e1, wrts_zero, List.length_replicate]
  (with_reducible and_intros) <;> first | omega | rfl
set_option maxHeartbeats 4000000 in
theorem bufDrain (b : List (Int × Int)) (mem : List Int) (hb : b.length ≤ 100000) (hm : mem.length ≤ 100000) : HFn Try.prog 76 [.sl (wrts b), .sl (ints mem)] (.tu [owWrts (drainB b mem).1, owInts (drainB b mem).2.1, .v (.bool (drainB b mem).2.2)]) := by
  refine HCalls_body (fn := Try.f76) 46 [4, 5, 6] (by kernel_rfl) rfl (by kernel_rfl) (HW.run 400 (by kernel_rfl) ?_)
  simp (config := { decide := true }) only [go_sem, Int.reduceToNat, Nat.reduceAdd, Nat.reduceSub, Nat.reduceMul, Nat.reduceBEq, reduceIte, reduceCtorEq]
  refine callX_nm (cloneInts mem (by omega)) rfl rfl ?_
  cases b with
  | nil =>
    simp (config := { decide := true }) only [go_sem, Int.reduceToNat, Nat.reduceAdd, Nat.reduceSub, Nat.reduceMul, Nat.reduceBEq, reduceIte, reduceCtorEq]
    refine callX_nm (cloneWrts [] (by simp)) rfl rfl ?_
    simp (config := { decide := true }) only [go_sem, Int.reduceToNat, Nat.reduceAdd, Nat.reduceSub, Nat.reduceMul, Nat.reduceBEq, reduceIte, reduceCtorEq, drainB]
    rfl
  | cons w r =>
    rw [List.length_cons] at hb
    have c0 : (((r.length + 1 : Nat) : Int) = 0) = False := by simp only [eq_iff_iff, iff_false]; omega
    have c0' : ((0 : Int) < ((r.length + 1 : Nat) : Int)) = True := by simp only [eq_iff_iff, iff_true]; omega
    have c1s : ((1 : Int) ≤ ((r.length + 1 : Nat) : Int)) = True := by simp only [eq_iff_iff, iff_true]; omega
    have hx : (w :: r)[(0 : Int).toNat]? = some w := rfl
    by_cases c1 : 0 ≤ w.1
    case neg =>
      have c1' : (w.1 < 0) = True := by simp only [eq_iff_iff, iff_true]; omega
      have e := drainB_no (r := r) (fun h => c1 h.1 : ¬ (0 ≤ w.1 ∧ w.1 < mem.length))
      simp (config := { decide := true }) only [go_sem, Int.reduceToNat, Nat.reduceAdd, Nat.reduceSub, Nat.reduceMul, Nat.reduceBEq, reduceIte, reduceCtorEq, c0, c0', hx, c1', e]
      refine callX_nm (cloneWrts (w :: r) (by simp; omega)) rfl rfl ?_
      simp (config := { decide := true }) only [go_sem, Int.reduceToNat, Nat.reduceAdd, Nat.reduceSub, Nat.reduceMul, Nat.reduceBEq, reduceIte, reduceCtorEq, c0, c0', hx, c1', e]
    have c1' : (w.1 < 0) = False := by simp only [eq_iff_iff, iff_false]; omega
    by_cases c2 : w.1 < mem.length
    case neg =>
      have c2' : ((mem.length : Int) ≤ w.1) = True := by simp only [eq_iff_iff, iff_true]; omega
      have e := drainB_no (r := r) (fun h => c2 h.2 : ¬ (0 ≤ w.1 ∧ w.1 < mem.length))
      simp (config := { decide := true }) only [go_sem, Int.reduceToNat, Nat.reduceAdd, Nat.reduceSub, Nat.reduceMul, Nat.reduceBEq, reduceIte, reduceCtorEq, c0, c0', hx, c1', c2', e]
      refine callX_nm (cloneWrts (w :: r) (by simp; omega)) rfl rfl ?_
      simp (config := { decide := true }) only [go_sem, Int.reduceToNat, Nat.reduceAdd, Nat.reduceSub, Nat.reduceMul, Nat.reduceBEq, reduceIte, reduceCtorEq, c0, c0', hx, c1', c2', e]
    have c2' : ((mem.length : Int) ≤ w.1) = False := by simp only [eq_iff_iff, iff_false]; omega
    have c2t : (w.1 < (mem.length : Int)) = True := by simp only [eq_iff_iff, iff_true]; omega
    have c1t : (0 ≤ w.1) = True := by simp only [eq_iff_iff, iff_true]; omega
    have e := drainB_yes (r := r) ⟨c1, c2⟩
    have hy : mem[w.1.toNat]? = some (mem[w.1.toNat]'(by omega)) := List.getElem?_eq_getElem (by omega)
    simp (config := { decide := true }) only [go_sem, Int.reduceToNat, Nat.reduceAdd, Nat.reduceSub, Nat.reduceMul, Nat.reduceBEq, reduceIte, reduceCtorEq, c0, c0', hx, c1', c2', c2t, c1t, c1s, e]
    refine HW.mixed 80 9 (0, 0) [] follows (by kernel_rfl) (by decide) ?_
    simp (config := { decide := true }) only [go_sem, Int.reduceToNat, Nat.reduceAdd, Nat.reduceSub, Nat.reduceMul, Nat.reduceBEq, reduceIte, reduceCtorEq, c0, c0', hx, c1', c2', c2t, c1t, c1s, e, hy, Nat.add_sub_cancel, List.length_set]
    refine callX_nm (cloneWrts r (by omega)) rfl rfl ?_
    simp (config := { decide := true }) only [go_sem, Int.reduceToNat, Nat.reduceAdd, Nat.reduceSub, Nat.reduceMul, Nat.reduceBEq, reduceIte, reduceCtorEq, c0, c0', hx, c1', c2', c2t, c1t, c1s, e, hy, Nat.add_sub_cancel, List.length_set, setI]
end Go.Proofs.Yteieinhgdjjdoaa
namespace Go.Proofs.Yteieinhgdjjdoaa
open Go.RowKit
set_option maxRecDepth 8000
def backX (b : List (Int × Int)) : List (List HV) := b.zipIdx.reverse.map fun w => [.v (.int .i64 w.2), .ag [.v (.int .i64 w.1.1), .v (.int .i64 w.1.2)]]
theorem backX_length (b : List (Int × Int)) : (backX b).length = b.length := by simp [backX]
theorem backX_get {b : List (Int × Int)} {j : Nat} (h : j < b.length) : (backX b)[j]? = some [.v (.int .i64 ((b.length - 1 - j : Nat) : Int)), .ag [.v (.int .i64 (b[b.length - 1 - j]'(by omega)).1), .v (.int .i64 (b[b.length - 1 - j]'(by omega)).2)]] := by
  unfold backX
  rw [List.getElem?_map, List.getElem?_reverse (by simpa using h), List.getElem?_zipIdx]
  simp only [List.length_zipIdx]
  rw [List.getElem?_eq_getElem (show b.length - 1 - j < b.length by omega)]
  simp
def BackI (b : List (Int × Int)) (m id : Nat) (J : Nat → Heap → Prop) (k : Nat) (T : Nat → HV) (H : Heap) : Prop := ∃ j Hq, k = b.length - j ∧ j ≤ b.length ∧ J j Hq ∧ Hq.length = m ∧
  T 0 = .yl id ∧ T 1 = .pt m 1 0 0 ∧ T 3 = .v (.int .i64 ((b.length : Int) - 1 - j)) ∧ H = Hq ++ [some ⟨143, 1, [[.sl (wrts b)]]⟩]
set_option maxHeartbeats 4000000 in
theorem backward1 (b : List (Int × Int)) (hb : b.length ≤ 1000000) (Hc : Heap) (n : Nat) (hn : Hc[n]? = some (some ⟨143, 1, [[.sl (wrts b)]]⟩)) :
    HSeq Try.prog 105 Hc [.pt n 1 0 0] (Hc.set n none) (backX b) := by
  intro id J K hid hJ hK hY h0
  refine HCalls_body (fn := Try.f105) 19 [] rfl rfl (by kernel_rfl) (HW.ghost (Ghost.move 1 n 1 0 0 _ rfl hn) (HW.run 60 (by kernel_rfl) ?_))
  have hl0 : (Hc.set n none).length = Hc.length := List.length_set
  have g0 : ∀ B : Heap, getO (Hc.set n none ++ B) Hc.length = getO B 0 := fun B => getO_behind0 hl0
  simp (config := { decide := true }) only [go_sem, Int.reduceToNat, Nat.reduceAdd, Nat.reduceSub, Nat.reduceMul, Nat.reduceBEq, reduceIte, reduceCtorEq, g0]
  refine HW.loopG (BackI b Hc.length id J) b.length ⟨_, _, Ghost.refl, 0, _, rfl, by omega, h0, hl0, rfl, rfl, ?_, rfl⟩ ?_
  · simp (config := { decide := true }) only [go_sem, Nat.reduceBEq, reduceIte]
    rw [w64 (by omega) (by omega)]; simp
  rintro k T H ⟨j, Hq, rfl, hj, hJj, hlen, h0, h1, h3, rfl⟩
  have g0 : ∀ B : Heap, getO (Hq ++ B) Hc.length = getO B 0 := fun B => getO_behind0 hlen
  refine HW.run 200 (by kernel_rfl) ?_
  by_cases hlt : j < b.length
  · have e1 : (0 ≤ (b.length : Int) - 1 - j) = True := by simp only [eq_iff_iff, iff_true]; omega
    have e2 : ((b.length : Int) - 1 - j < b.length) = True := by simp only [eq_iff_iff, iff_true]; omega
    have e3 : ((b.length : Int) - 1 - j).toNat = b.length - 1 - j := by omega
    have hx : b[b.length - 1 - j]? = some (b[b.length - 1 - j]'(by omega)) := List.getElem?_eq_getElem (by omega)
    have hX := backX_get hlt
    have e4 : ((b.length - 1 - j : Nat) : Int) = (b.length : Int) - 1 - j := by omega
    rw [e4] at hX
    generalize b[b.length - 1 - j]'(by omega) = x at hx hX
    simp (config := { decide := true }) only [go_sem, Int.reduceToNat, Nat.reduceAdd, Nat.reduceSub, Nat.reduceMul, Nat.reduceBEq, reduceIte, reduceCtorEq, h0, h1, h3, g0, e1, e2, e3, hx]
    refine yieldX_at hlen hid (hJ _ _ hJj).2 rfl (hY j _ Hq hX hJj) ?_
    intro c Hq' hc' hlen'
    have g0 : ∀ B : Heap, getO (Hq' ++ B) Hc.length = getO B 0 := fun B => getO_behind0 hlen'
    cases c with
    | true =>
      simp only [if_true] at hc'
      simp (config := { decide := true }) only [go_sem, Int.reduceToNat, Nat.reduceAdd, Nat.reduceSub, Nat.reduceMul, Nat.reduceBEq, reduceIte, reduceCtorEq, h0, h1, h3, g0]
      refine ⟨_, _, Ghost.refl, b.length - (j + 1), by omega, j + 1, Hq', rfl, by omega, hc', hlen', ?_, ?_, ?_, rfl⟩
      · simp (config := { decide := true }) only [go_sem, Nat.reduceBEq, reduceIte, h0]
      · simp (config := { decide := true }) only [go_sem, Nat.reduceBEq, reduceIte, h1]
      · simp (config := { decide := true }) only [go_sem, Nat.reduceBEq, reduceIte, h3]; rw [w64 (by omega) (by omega)]; congr 2; omega
    | false =>
      simp only [Bool.false_eq_true, if_false] at hc'
      simp (config := { decide := true }) only [go_sem, Int.reduceToNat, Nat.reduceAdd, Nat.reduceSub, Nat.reduceMul, Nat.reduceBEq, reduceIte, reduceCtorEq, h0, h1, h3, g0]
      exact endP_behind hlen' (hK _ _ hc') (.inr ⟨_, hc'⟩)
  · have e1 : (0 ≤ (b.length : Int) - 1 - j) = False := by simp only [eq_iff_iff, iff_false]; omega
    have e : j = (backX b).length := by rw [backX_length]; omega
    simp (config := { decide := true }) only [go_sem, Int.reduceToNat, Nat.reduceAdd, Nat.reduceSub, Nat.reduceMul, Nat.reduceBEq, reduceIte, reduceCtorEq, h0, h1, h3, g0, e1]
    exact endP_behind hlen (hJ _ _ hJj).2 (.inl (e ▸ hJj))
theorem backward (b : List (Int × Int)) : HFn Try.prog 104 [.sl (wrts b)] (.fn 105 [.bx 143 1 [.sl (wrts b)]]) := by
  refine HCalls_body (fn := Try.f104) 4 [2] (by kernel_rfl) rfl (by kernel_rfl) (HW.run 400 (by kernel_rfl) ?_)
  simp (config := { decide := true }) only [go_sem, Int.reduceToNat, Nat.reduceAdd, Nat.reduceSub, Nat.reduceMul, Nat.reduceBEq, reduceIte, reduceCtorEq]
def rowX (b : List (Int × Int)) : List (List HV) := b.reverse.map fun w => [.ag [.v (.int .i64 w.1), .v (.int .i64 w.2)]]
theorem backX_at {b : List (Int × Int)} {i : Nat} {x : List HV} (h : (backX b)[i]? = some x) : ∃ (q : Int) (w : Int × Int), b.reverse[i]? = some w ∧ x = [.v (.int .i64 q), .ag [.v (.int .i64 w.1), .v (.int .i64 w.2)]] := by
  have hlt : i < b.length := by have := (List.getElem?_eq_some_iff.1 h).1; rwa [backX_length] at this
  rw [backX_get hlt] at h
  cases h
  refine ⟨_, _, ?_, rfl⟩
  rw [List.getElem?_reverse hlt, List.getElem?_eq_getElem (show b.length - 1 - i < b.length by omega)]
theorem take_behind3 {A B : Heap} {m k : Nat} (h : A.length = m) : (A ++ B).take (m + k) = A ++ B.take k := by
  subst h
  rw [List.take_append, List.take_of_length_le (by omega), Nat.add_sub_cancel_left]
theorem nmH_behind {A B : Heap} {m k : Nat} (h : A.length = m) (hA : nmH m A = true) (hB : ((B.take k).all fun o => match o with | some ob => nmR (m + k) ob.rows | none => true) = true) : nmH (m + k) (A ++ B) = true := by
  unfold nmH at hA ⊢
  rw [take_behind3 h, List.all_append, Bool.and_eq_true]
  rw [← h, List.take_length] at hA
  refine ⟨?_, hB⟩
  rw [List.all_eq_true] at hA ⊢
  intro o ho
  have := hA o ho
  cases o with
  | none => rfl
  | some ob => exact nmR_mono (by omega) _ this
set_option maxHeartbeats 4000000 in
theorem back1 (b : List (Int × Int)) (hb : b.length ≤ 1000000) (Hc : Heap) (n : Nat) (hn : Hc[n]? = some (some ⟨143, 1, [[.sl (wrts b)]]⟩)) :
    HSeq Try.prog 103 Hc [.pt n 1 0 0] (Hc.set n none) (rowX b) := by
  intro id J K hid hJ hK hY h0
  refine HCalls_body (fn := Try.f103) 13 [] rfl rfl (by kernel_rfl) (HW.ghost (Ghost.move 1 n 1 0 0 _ rfl hn) (HW.run 60 (by kernel_rfl) ?_))
  have hl0 : (Hc.set n none).length = Hc.length := List.length_set
  generalize Hc.set n none = A at h0 hl0 ⊢
  have g0 : ∀ B : Heap, getO (A ++ B) Hc.length = getO B 0 := fun B => getO_behind0 hl0
  have g1 : ∀ (j : Nat) (B : Heap), getO (A ++ B) (Hc.length + j) = getO B j := fun j B => getO_behind hl0
  simp (config := { decide := true }) only [go_sem, Int.reduceToNat, Nat.reduceAdd, Nat.reduceSub, Nat.reduceMul, Nat.reduceBEq, reduceIte, reduceCtorEq, g0, g1, List.append_assoc]
  refine callX_nm (backward b) rfl rfl ?_
  simp (config := { decide := true }) only [go_sem, Int.reduceToNat, Nat.reduceAdd, Nat.reduceSub, Nat.reduceMul, Nat.reduceBEq, reduceIte, reduceCtorEq, g0, g1, List.append_assoc, hl0]
  have rest : ∀ (Hq : Heap) (z : Option HObj), Hq.length = Hc.length → (Hq ++ [some ⟨143, 1, [[.sl (wrts b)]]⟩, some ⟨148, 1, [[.yl id]]⟩, z]).length = Hc.length + 3 := fun Hq z h => by simp [h]
  refine HW.rangeFunc rfl (by decide) rfl (backX b) (A ++ [some ⟨143, 1, [[.sl (wrts b)]]⟩, some ⟨148, 1, [[.yl id]]⟩, none])
    (fun j Hi => ∃ Hq, Hi = Hq ++ [some ⟨143, 1, [[.sl (wrts b)]]⟩, some ⟨148, 1, [[.yl id]]⟩, none] ∧ Hq.length = Hc.length ∧ J j Hq)
    (fun c Hi => c = .ret ∧ ∃ Hq i, Hi = Hq ++ [some ⟨143, 1, [[.sl (wrts b)]]⟩, some ⟨148, 1, [[.yl id]]⟩, none] ∧ Hq.length = Hc.length ∧ K i Hq)
    ⟨by simp, fun j o hj => ?_⟩ (fun x hx => ?_) (fun o => ?_) ⟨A, rfl, hl0, h0⟩ ?_ ?_ ?_
  · rcases Nat.lt_or_ge j A.length with h | h
    · rw [List.getElem?_append_left h] at hj ⊢; exact hj
    · rw [List.getElem?_append_right h] at hj ⊢
      rcases hk : j - A.length with _ | _ | _ | q
      · rw [hk] at hj; exact hj
      · rw [hk] at hj; exact hj
      · rw [hk] at hj; simp at hj
      · rw [hk] at hj; simp at hj
  · obtain ⟨j, hj⟩ := List.mem_iff_getElem?.1 hx
    obtain ⟨q, w, _, rfl⟩ := backX_at hj
    exact ⟨rfl, rfl⟩
  · have g2 : ∀ B : Heap, (A ++ B).set (Hc.length + 2) none = A ++ B.set 2 none := fun B => set_behind hl0
    have := backward1 b hb (A ++ [some ⟨143, 1, [[.sl (wrts b)]]⟩, some ⟨148, 1, [[.yl id]]⟩, some ⟨143, 1, [[.sl (wrts b)]]⟩] ++ [some o]) (Hc.length + 2) (by
      rw [List.append_assoc, ← hl0, List.getElem?_append_right (by omega), Nat.add_sub_cancel_left]; rfl)
    rw [List.append_assoc, g2] at this
    rw [List.append_assoc, List.append_assoc]
    exact this
  · rintro j x Hi hx hlen ⟨Hq, rfl, hq, hJj⟩
    obtain ⟨q, w, hw, rfl⟩ := backX_at hx
    have g0 : ∀ B : Heap, getO (Hq ++ B) Hc.length = getO B 0 := fun B => getO_behind0 hq
    have g1 : ∀ (j : Nat) (B : Heap), getO (Hq ++ B) (Hc.length + j) = getO B j := fun j B => getO_behind hq
    have g2 : ∀ (j : Nat) (B : Heap) x, (Hq ++ B).set (Hc.length + j) x = Hq ++ B.set j x := fun j B x => set_behind hq
    have hX : (rowX b)[j]? = some [.ag [.v (.int .i64 w.1), .v (.int .i64 w.2)]] := by unfold rowX; rw [List.getElem?_map, hw]; rfl
    refine HW.run 60 (by kernel_rfl) ?_
    simp (config := { decide := true }) only [go_sem, Int.reduceToNat, Nat.reduceAdd, Nat.reduceSub, Nat.reduceMul, Nat.reduceBEq, reduceIte, reduceCtorEq, g0, g1, g2, hq, List.append_assoc]
    refine HW.run 60 (by kernel_rfl) ?_
    simp (config := { decide := true }) only [go_sem, Int.reduceToNat, Nat.reduceAdd, Nat.reduceSub, Nat.reduceMul, Nat.reduceBEq, reduceIte, reduceCtorEq, g0, g1, g2, hq, List.append_assoc]
    refine yieldX_at hq hid (hJ _ _ hJj).2 rfl (hY j _ Hq hX hJj) ?_
    intro c Hq' hc' hlen'
    have t1 : ∀ B : Heap, (Hq' ++ B).take (Hc.length + 3) = Hq' ++ B.take 3 := fun B => take_behind3 hlen'
    cases c with
    | true =>
      simp only [if_true] at hc'
      simp (config := { decide := true }) only [go_sem, Int.reduceToNat, Nat.reduceAdd, Nat.reduceSub, Nat.reduceMul, Nat.reduceBEq, reduceIte, reduceCtorEq, hl0]
      refine ⟨_, _, Ghost.trunc [] (Hc.length + 3) (by omega) rfl (nmH_behind hlen' (hJ _ _ hc').2 ?_), ?_, Hq', ?_, hlen', hc'⟩
      · simp [nmR, nmL, nm]; omega
      · rw [t1]; simp [hlen']
      · rw [t1]; rfl
    | false =>
      simp only [Bool.false_eq_true, if_false] at hc'
      simp (config := { decide := true }) only [go_sem, Int.reduceToNat, Nat.reduceAdd, Nat.reduceSub, Nat.reduceMul, Nat.reduceBEq, reduceIte, reduceCtorEq, hl0]
      refine ⟨_, _, Ghost.trunc [] (Hc.length + 3) (by omega) rfl (nmH_behind hlen' (hK _ _ hc') ?_), ?_, Hq', _, ?_, hlen', hc'⟩
      · simp [nmR, nmL, nm]; omega
      · rw [t1]; simp [hlen']
      · rw [t1]; rfl
  · rintro Hf hlen ⟨Hq, rfl, hq, hJj⟩
    simp (config := { decide := true }) only [go_sem, Int.reduceToNat, Nat.reduceAdd, Nat.reduceSub, Nat.reduceMul, Nat.reduceBEq, reduceIte, reduceCtorEq]
    have e : (backX b).length = (rowX b).length := by rw [backX_length]; simp [rowX]
    exact endP_behind hq (hJ _ _ hJj).2 (.inl (e ▸ hJj))
  · rintro c Hf hlen ⟨rfl, Hq, i, rfl, hq, hKi⟩
    unfold XQ
    simp (config := { decide := true }) only [go_sem, Int.reduceToNat, Nat.reduceAdd, Nat.reduceSub, Nat.reduceMul, Nat.reduceBEq, reduceIte, reduceCtorEq]
    exact endP_behind hq (hK _ _ hKi) (.inr ⟨_, hKi⟩)
end Go.Proofs.Yteieinhgdjjdoaa
namespace Go.Proofs.Yteieinhgdjjdoaa
open Go.RowKit
set_option maxRecDepth 8000
def slotsF : Nat → List (List Stp) → List (Nat × Nat)
  | _, [] => []
  | t, l :: r => (List.range l.length).map (fun a => (t, a)) ++ slotsF (t + 1) r
theorem startB_cons (l : List Stp) (r : List (List Stp)) : ∀ i, startB (l :: r) (i + 1) = l.length + startB r i
  | 0 => by simp [startB]
  | i + 1 => by
    have ih := startB_cons l r i
    show startB (l :: r) (i + 1) + (((l :: r)[i + 1]?).getD []).length = l.length + (startB r i + ((r[i]?).getD []).length)
    rw [ih, List.getElem?_cons_succ]; omega
theorem slotsF_get : ∀ (thr : List (List Stp)) (t0 t a : Nat) (l : List Stp), thr[t]? = some l → a < l.length → (slotsF t0 thr)[startB thr t + a]? = some (t0 + t, a)
  | [], _, t, a, l, h, _ => by simp at h
  | x :: r, t0, 0, a, l, h, ha => by
    simp at h; subst h
    unfold slotsF startB
    rw [Nat.zero_add, List.getElem?_append_left (by simpa using ha)]
    simp [ha]
  | x :: r, t0, t + 1, a, l, h, ha => by
    have ih := slotsF_get r (t0 + 1) t a l (by simpa using h) ha
    rw [startB_cons]
    unfold slotsF
    rw [List.getElem?_append_right (by simp; omega), List.length_map, List.length_range, show x.length + startB r t + a - x.length = startB r t + a by omega, ih]
    congr 2; omega
theorem slotsF_length : ∀ (thr : List (List Stp)) (t0 : Nat), (slotsF t0 thr).length = startB thr thr.length
  | [], _ => rfl
  | x :: r, t0 => by
    unfold slotsF
    rw [List.length_append, List.length_map, List.length_range, slotsF_length r, List.length_cons, startB_cons]
def slotX (thr : List (List Stp)) : List (List HV) := (slotsF 0 thr).zipIdx.map fun w => [.v (.int .i64 w.2), .ag [.v (.int .i64 w.1.1), .v (.int .i64 w.1.2)]]
theorem slotX_length (thr : List (List Stp)) : (slotX thr).length = startB thr thr.length := by simp [slotX, slotsF_length]
theorem slotX_get {thr : List (List Stp)} {t a : Nat} {l : List Stp} (h : thr[t]? = some l) (ha : a < l.length) : (slotX thr)[startB thr t + a]? = some [.v (.int .i64 ((startB thr t + a : Nat) : Int)), .ag [.v (.int .i64 t), .v (.int .i64 a)]] := by
  unfold slotX
  rw [List.getElem?_map, List.getElem?_zipIdx, slotsF_get thr 0 t a l h ha]
  simp
def AllI (p : Prg) (m id : Nat) (J : Nat → Heap → Prop) (k : Nat) (T : Nat → HV) (H : Heap) : Prop := ∃ i Hq, k = p.thr.length - i ∧ i ≤ p.thr.length ∧ J (startB p.thr i) Hq ∧ Hq.length = m ∧
  T 0 = .yl id ∧ T 1 = .pt m 1 0 0 ∧ T 3 = .v (.int .i64 (startB p.thr i)) ∧ T 8 = .sl (thrs p.thr) ∧ T 9 = .v (.int .i64 p.thr.length) ∧ T 10 = .v (.int .i64 i) ∧
  H = Hq ++ [some ⟨25, 2, [[.sl (ints p.init), .sl (thrs p.thr)]]⟩]
set_option maxHeartbeats 8000000 in
theorem slotsAll1 (p : Prg) (hp : SmallP p) (Hc : Heap) (n : Nat) (hn : Hc[n]? = some (some ⟨25, 2, [[.sl (ints p.init), .sl (thrs p.thr)]]⟩)) :
    HSeq Try.prog 68 Hc [.pt n 1 0 0] (Hc.set n none) (slotX p.thr) := by
  intro id J K hid hJ hK hY h0
  refine HCalls_body (fn := Try.f68) 31 [] rfl rfl (by kernel_rfl) (HW.ghost (Ghost.move 1 n 1 0 0 _ rfl hn) (HW.run 60 (by kernel_rfl) ?_))
  have hl0 : (Hc.set n none).length = Hc.length := List.length_set
  have g0 : ∀ B : Heap, getO (Hc.set n none ++ B) Hc.length = getO B 0 := fun B => getO_behind0 hl0
  simp (config := { decide := true }) only [go_sem, Int.reduceToNat, Nat.reduceAdd, Nat.reduceSub, Nat.reduceMul, Nat.reduceBEq, reduceIte, reduceCtorEq, g0]
  refine HW.loopG (AllI p Hc.length id J) p.thr.length ⟨_, _, Ghost.refl, 0, _, rfl, by omega, h0, hl0, rfl, rfl, rfl, rfl, rfl, rfl, rfl⟩ ?_
  have hl := hp.thr
  rintro k T H ⟨i, Hq, rfl, hi, hJi, hlen, h0, h1, h3, h8, h9, h10, rfl⟩
  refine HW.run 200 (by kernel_rfl) ?_
  have hsb := startB_le hp i
  by_cases hlt : i < p.thr.length
  · have hlt' : ((i : Int) < (p.thr.length : Int)) = True := by rw [int_lt]; simp [hlt]
    have hx : p.thr[i]? = some p.thr[i] := List.getElem?_eq_getElem hlt
    have hxl := hp.len _ (List.getElem_mem hlt)
    have hst : startB p.thr (i + 1) = startB p.thr i + (p.thr[i]).length := by show startB p.thr i + _ = _; rw [hx]; rfl
    generalize p.thr[i] = l at hx hxl hst
    simp (config := { decide := true }) only [go_sem, Int.reduceToNat, Nat.reduceAdd, Nat.reduceSub, Nat.reduceMul, Nat.reduceBEq, reduceIte, reduceCtorEq, h0, h1, h3, h8, h9, h10, hlt', hx]
    refine HW.loopG (fun k T H => ∃ j Hq, k = l.length - j ∧ j ≤ l.length ∧ J (startB p.thr i + j) Hq ∧ Hq.length = Hc.length ∧ T 0 = .yl id ∧ T 1 = .pt Hc.length 1 0 0 ∧ T 3 = .v (.int .i64 ((startB p.thr i + j : Nat) : Int)) ∧ T 4 = .v (.int .i64 i) ∧ T 8 = .sl (thrs p.thr) ∧ T 9 = .v (.int .i64 p.thr.length) ∧ T 10 = .v (.int .i64 i) ∧ T 16 = .v (.int .i64 l.length) ∧ T 17 = .v (.int .i64 j) ∧
      H = Hq ++ [some ⟨25, 2, [[.sl (ints p.init), .sl (thrs p.thr)]]⟩]) l.length ⟨_, _, Ghost.refl, 0, Hq, rfl, by omega, hJi, hlen, ?_, ?_, ?_, ?_, ?_, ?_, ?_, ?_, ?_, rfl⟩ ?_
    iterate 8 simp (config := { decide := true }) only [go_sem, Nat.reduceBEq, reduceIte, h0, h1, h3, h8, h9, h10, Nat.add_zero]
    · simp (config := { decide := true }) only [go_sem, Nat.reduceBEq, reduceIte, h0]; rfl
    rintro k T H ⟨j, Hq, rfl, hj, hJj, hlen, h0, h1, h3, h4, h8, h9, h10, h16, h17, rfl⟩
    refine HW.run 200 (by kernel_rfl) ?_
    by_cases hjl : j < l.length
    · have hj' : ((j : Int) < (l.length : Int)) = True := by rw [int_lt]; simp [hjl]
      have hX := slotX_get hx hjl
      simp (config := { decide := true }) only [go_sem, Int.reduceToNat, Nat.reduceAdd, Nat.reduceSub, Nat.reduceMul, Nat.reduceBEq, reduceIte, reduceCtorEq, h0, h1, h3, h4, h8, h9, h10, h16, h17, hj']
      refine yieldX_at hlen hid (hJ _ _ hJj).2 rfl (hY _ _ Hq hX hJj) ?_
      intro c Hq' hc' hlen'
      cases c with
      | true =>
        simp only [if_true] at hc'
        simp (config := { decide := true }) only [go_sem, Int.reduceToNat, Nat.reduceAdd, Nat.reduceSub, Nat.reduceMul, Nat.reduceBEq, reduceIte, reduceCtorEq, h0, h1, h3, h4, h8, h9, h10, h16, h17]
        refine ⟨_, _, Ghost.refl, l.length - (j + 1), by omega, j + 1, Hq', rfl, by omega, hc', hlen', ?_, ?_, ?_, ?_, ?_, ?_, ?_, ?_, ?_, rfl⟩
        iterate 2 simp (config := { decide := true }) only [go_sem, Nat.reduceBEq, reduceIte, h0, h1]
        · simp (config := { decide := true }) only [go_sem, Nat.reduceBEq, reduceIte, h3]; rw [w64 (by omega) (by omega)]; rfl
        iterate 5 simp (config := { decide := true }) only [go_sem, Nat.reduceBEq, reduceIte, h4, h8, h9, h10, h16]
        · simp (config := { decide := true }) only [go_sem, Nat.reduceBEq, reduceIte, h17]; rw [w64 (by omega) (by omega)]; rfl
      | false =>
        simp only [Bool.false_eq_true, if_false] at hc'
        simp (config := { decide := true }) only [go_sem, Int.reduceToNat, Nat.reduceAdd, Nat.reduceSub, Nat.reduceMul, Nat.reduceBEq, reduceIte, reduceCtorEq, h0, h1, h3, h4, h8, h9, h10, h16, h17]
        exact endP_behind hlen' (hK _ _ hc') (.inr ⟨_, hc'⟩)
    · have hj' : ((j : Int) < (l.length : Int)) = False := by rw [int_lt]; simp [hjl]
      have e : startB p.thr i + j = startB p.thr (i + 1) := by omega
      simp (config := { decide := true }) only [go_sem, Int.reduceToNat, Nat.reduceAdd, Nat.reduceSub, Nat.reduceMul, Nat.reduceBEq, reduceIte, reduceCtorEq, h0, h1, h3, h4, h8, h9, h10, h16, h17, hj']
      refine ⟨_, _, Ghost.refl, p.thr.length - (i + 1), by omega, i + 1, Hq, rfl, by omega, e ▸ hJj, hlen, ?_, ?_, ?_, ?_, ?_, ?_, rfl⟩
      iterate 2 simp (config := { decide := true }) only [go_sem, Nat.reduceBEq, reduceIte, h0, h1]
      · simp (config := { decide := true }) only [go_sem, Nat.reduceBEq, reduceIte, h3]; rw [e]
      iterate 2 simp (config := { decide := true }) only [go_sem, Nat.reduceBEq, reduceIte, h8, h9]
      · simp (config := { decide := true }) only [go_sem, Nat.reduceBEq, reduceIte, h10]; rw [w64 (by omega) (by omega)]; rfl
  · have hlt' : ((i : Int) < (p.thr.length : Int)) = False := by rw [int_lt]; simp [hlt]
    have e : startB p.thr i = (slotX p.thr).length := by rw [slotX_length, show i = p.thr.length by omega]
    simp (config := { decide := true }) only [go_sem, Int.reduceToNat, Nat.reduceAdd, Nat.reduceSub, Nat.reduceMul, Nat.reduceBEq, reduceIte, reduceCtorEq, h0, h1, h3, h8, h9, h10, hlt']
    exact endP_behind hlen (hJ _ _ hJi).2 (.inl (e ▸ hJi))
theorem slotsAll (p : Prg) : HFn Try.prog 53 [prgH p] (.fn 68 [.bx 25 2 [.sl (ints p.init), .sl (thrs p.thr)]]) := by
  refine HCalls_body (fn := Try.f53) 4 [2] (by kernel_rfl) rfl (by kernel_rfl) (HW.run 400 (by kernel_rfl) ?_)
  simp (config := { decide := true }) only [go_sem, Int.reduceToNat, Nat.reduceAdd, Nat.reduceSub, Nat.reduceMul, Nat.reduceBEq, reduceIte, reduceCtorEq]
end Go.Proofs.Yteieinhgdjjdoaa
namespace Go.Proofs.Yteieinhgdjjdoaa
open Go.RowKit
set_option maxRecDepth 8000
theorem countB_shift (g : List Int) (a : Nat) : ∀ i, countB g a (i + 1) = (if hasB g (a : Int) = true then 1 else 0) + countB g ((a + 1 : Nat) : Int) i
  | 0 => by simp [countB]
  | i + 1 => by
    have ih := countB_shift g a i
    have e : (a : Int) + ((i + 1 : Nat) : Int) = ((a + 1 : Nat) : Int) + (i : Int) := by omega
    rw [countB, ih]
    conv => rhs; rw [countB]
    rw [e]; omega
theorem countB_mono (g : List Int) (a : Int) : ∀ {m n : Nat}, m ≤ n → countB g a m ≤ countB g a n := by
  intro m n h
  induction h with
  | refl => exact Nat.le_refl _
  | step h ih => rw [countB]; omega
theorem placesT_mem (g : List Int) (t : Int) (q : Int × Int) : ∀ (l : List Stp) (n a : Nat), q ∈ placesT g t l n a ↔ q.1 = t ∧ ∃ i, i < l.length ∧ hasB g ((n + i : Nat) : Int) = true ∧ q.2 = ((a + i + countB g n i : Nat) : Int)
  | [], n, a => by simp [placesT]
  | x :: l, n, a => by
    have sh : ∀ (d : Nat) (b : Nat), (b = if hasB g (n : Int) = true then 1 else 0) → ((∃ i, i < l.length ∧ hasB g ((n + 1 + i : Nat) : Int) = true ∧ q.2 = ((a + 1 + b + i + countB g ((n + 1 : Nat) : Int) i : Nat) : Int)) ↔ ∃ i, 0 < i ∧ i < l.length + 1 ∧ hasB g ((n + i : Nat) : Int) = true ∧ q.2 = ((a + i + countB g n i : Nat) : Int)) := fun d b hb => by
      constructor
      · rintro ⟨i, h1, h2, h3⟩
        refine ⟨i + 1, by omega, by omega, by rw [show n + (i + 1) = n + 1 + i by omega]; exact h2, ?_⟩
        rw [h3, countB_shift, hb]; congr 1; omega
      · rintro ⟨i, h0, h1, h2, h3⟩
        obtain ⟨i, rfl⟩ : ∃ j, i = j + 1 := ⟨i - 1, by omega⟩
        refine ⟨i, by omega, by rw [show n + 1 + i = n + (i + 1) by omega]; exact h2, ?_⟩
        rw [h3, countB_shift, ← hb]; congr 1; omega
    unfold placesT
    by_cases h : ((n : Nat) : Int) ∈ g
    · have hh : hasB g (n : Int) = true := by simpa [hasB] using h
      rw [if_pos h, List.mem_cons, placesT_mem g t q l (n + 1) (a + 2)]
      have s1 := sh 0 1 (by rw [if_pos hh])
      rw [show a + 2 = a + 1 + 1 by omega, s1]
      constructor
      · rintro (rfl | ⟨h1, i, h0, h2, h3, h4⟩)
        · exact ⟨rfl, 0, by simp, hh, by simp [countB]⟩
        · exact ⟨h1, i, by simpa using h2, h3, h4⟩
      · rintro ⟨h1, i, h2, h3, h4⟩
        rcases Nat.eq_zero_or_pos i with rfl | h0
        · left
          obtain ⟨q1, q2⟩ := q
          simp only [countB, Nat.add_zero] at h1 h4
          rw [h1, h4]
        · exact .inr ⟨h1, i, h0, by simpa using h2, h3, h4⟩
    · have hh : hasB g (n : Int) = false := by simpa [hasB] using h
      rw [if_neg h, placesT_mem g t q l (n + 1) (a + 1)]
      have s1 := sh 0 0 (by rw [if_neg (by rw [hh]; simp)])
      rw [show a + 1 = a + 1 + 0 by omega, s1]
      constructor
      · rintro ⟨h1, i, h0, h2, h3, h4⟩
        exact ⟨h1, i, by simpa using h2, h3, h4⟩
      · rintro ⟨h1, i, h2, h3, h4⟩
        rcases Nat.eq_zero_or_pos i with rfl | h0
        · rw [Nat.add_zero, hh] at h3; cases h3
        · exact ⟨h1, i, h0, by simpa using h2, h3, h4⟩
theorem placesF_mem (g : List Int) (q : Int × Int) : ∀ (thr : List (List Stp)) (t n : Nat), q ∈ placesF g thr t n ↔ ∃ k l, thr[k]? = some l ∧ q ∈ placesT g ((t + k : Nat) : Int) l (n + startB thr k) 0
  | [], t, n => by simp [placesF]
  | x :: r, t, n => by
    unfold placesF
    rw [List.mem_append, placesF_mem g q r (t + 1) (n + x.length)]
    constructor
    · rintro (h | ⟨k, l, h1, h2⟩)
      · exact ⟨0, x, rfl, by simpa [startB] using h⟩
      · refine ⟨k + 1, l, by simpa using h1, ?_⟩
        rw [startB_cons, show t + (k + 1) = t + 1 + k by omega, show n + (x.length + startB r k) = n + x.length + startB r k by omega]
        exact h2
    · rintro ⟨k, l, h1, h2⟩
      cases k with
      | zero =>
        simp at h1; subst h1
        exact .inl (by simpa [startB] using h2)
      | succ k =>
        rw [startB_cons, show t + (k + 1) = t + 1 + k by omega, show n + (x.length + startB r k) = n + x.length + startB r k by omega] at h2
        exact .inr ⟨k, l, by simpa using h1, h2⟩
theorem getM_places (p : Prg) (g : List Int) (t : Nat) (a : Int) (ht : t < p.thr.length) : (getM (foldC [] (placesF g p.thr 0 0)) ((t : Int), a) = 0) = (fenceB p g t a = false) := by
  rw [getM_foldC]
  have hx : p.thr[t]? = some p.thr[t] := List.getElem?_eq_getElem ht
  have key : ((t : Int), a) ∈ placesF g p.thr 0 0 ↔ fenceB p g t a = true := by
    rw [placesF_mem]
    unfold fenceB
    rw [hx, Option.getD_some, List.any_eq_true]
    constructor
    · rintro ⟨k, l, h1, h2⟩
      rw [placesT_mem] at h2
      obtain ⟨h3, i, h4, h5, h6⟩ := h2
      obtain rfl : t = k := by simp only [Nat.zero_add] at h3; omega
      rw [hx] at h1; cases h1
      refine ⟨i, by simpa using h4, ?_⟩
      unfold fenceT
      simp only [Nat.zero_add] at h5 h6
      rw [show ((startB p.thr t : Nat) : Int) + (i : Int) = ((startB p.thr t + i : Nat) : Int) by omega, h5]
      simp only [Bool.true_and, decide_eq_true_eq]
      rw [h6]; omega
    · rintro ⟨i, h1, h2⟩
      unfold fenceT at h2
      simp only [Bool.and_eq_true, decide_eq_true_eq] at h2
      refine ⟨t, _, hx, ?_⟩
      rw [placesT_mem]
      refine ⟨by simp, i, by simpa using h1, ?_, ?_⟩
      · simp only [Nat.zero_add]; rw [← h2.1]; congr 1
      · simp only [Nat.zero_add]; rw [h2.2]; omega
  have e0 : getM ([] : List ((Int × Int) × Int)) ((t : Int), a) = 0 := rfl
  rw [e0, Int.zero_add]
  simp only [eq_iff_iff]
  cases hf : fenceB p g t a with
  | true =>
    rw [hf] at key
    have hm := key.2 rfl
    have : ((t : Int), a) ∈ (placesF g p.thr 0 0).filter fun x => decide (x = ((t : Int), a)) := List.mem_filter.2 ⟨hm, by simp⟩
    have := List.length_pos_of_mem this
    constructor
    · intro h; omega
    · intro h; cases h
  | false =>
    rw [hf] at key
    have : (placesF g p.thr 0 0).filter (fun x => decide (x = ((t : Int), a))) = [] := by
      rw [List.filter_eq_nil_iff]
      intro x hx
      simp only [decide_eq_true_eq]
      rintro rfl
      have := key.1 hx
      cases this
    rw [this]; simp
theorem getM_places_le (p : Prg) (g : List Int) (q : Int × Int) : 0 ≤ getM (foldC [] (placesF g p.thr 0 0)) q := by
  rw [getM_foldC]
  have e0 : getM ([] : List ((Int × Int) × Int)) q = 0 := rfl
  rw [e0]; omega
theorem insR_get {g : List Int} {y : Stp} : ∀ {l : List Stp} {n k : Nat}, (insR g n l)[k]? = some y → (y = fnc ∨ ∃ i, l[i]? = some y ∧ k = i + countB g n (i + 1))
  | [], n, k, h => by simp [insR] at h
  | x :: l, n, k, h => by
    simp only [insR] at h
    by_cases hh : hasB g (n : Int) = true
    · rw [if_pos hh] at h
      cases k with
      | zero => simp at h; exact .inl h.symm
      | succ k =>
        cases k with
        | zero =>
          simp at h; subst h
          exact .inr ⟨0, rfl, by simp [countB, hh]⟩
        | succ k =>
          simp at h
          rcases insR_get h with h | ⟨i, h1, h2⟩
          · exact .inl h
          · refine .inr ⟨i + 1, by simpa using h1, ?_⟩
            rw [countB_shift, if_pos hh, h2]; omega
    · rw [if_neg hh] at h
      cases k with
      | zero =>
        simp at h; subst h
        exact .inr ⟨0, rfl, by simp [countB, hh]⟩
      | succ k =>
        simp at h
        rcases insR_get h with h | ⟨i, h1, h2⟩
        · exact .inl h
        · refine .inr ⟨i + 1, by simpa using h1, ?_⟩
          rw [countB_shift, if_neg hh, h2]; omega
theorem insT_len (g : List Int) (a : Nat) (l : List Stp) : (insT g a l).length = l.length + countB g a l.length := by
  unfold insT
  rw [List.length_map]
  have := insR_len g a l l.length (Nat.le_refl _)
  rwa [List.take_length] at this
def Forty (p : Prg) : Prop := ∀ l ∈ p.thr, l.length ≤ 40
theorem insP_right {p : Prg} (g : List Int) (hp : RightP p) (h4 : Forty p) : RightP (insP p g) := by
  have hget : ∀ t l, (insP p g).thr[t]? = some l → ∃ l0, p.thr[t]? = some l0 ∧ l = insT g (startB p.thr t) l0 := fun t l hl => by
    have ht : t < p.thr.length := by
      have := (List.getElem?_eq_some_iff.1 hl).1
      rwa [show (insP p g).thr = insF g p.thr p.thr.length from rfl, insF_len] at this
    have hx : p.thr[t]? = some p.thr[t] := List.getElem?_eq_getElem ht
    refine ⟨_, hx, ?_⟩
    rw [show (insP p g).thr = insF g p.thr p.thr.length from rfl, insF_get g p.thr _ t ht, hx] at hl
    simpa using hl.symm
  refine ⟨hp.init, ?_, fun l hl => ?_, fun t l hl i x hx => ?_⟩
  · rw [show (insP p g).thr = insF g p.thr p.thr.length from rfl, insF_len]; exact hp.thr
  · obtain ⟨t, ht⟩ := List.getElem?_of_mem hl
    obtain ⟨l0, h1, rfl⟩ := hget t l ht
    have := h4 l0 (List.mem_of_getElem? h1)
    have := countB_le g (startB p.thr t) l0.length
    rw [insT_len]; omega
  · obtain ⟨l0, h1, rfl⟩ := hget t l hl
    have hlen := insT_len g (startB p.thr t) l0
    rw [hlen]
    unfold insT at hx
    rw [List.getElem?_map, Option.map_eq_some_iff] at hx
    obtain ⟨y, hy, rfl⟩ := hx
    rcases insR_get hy with rfl | ⟨q, hq, rfl⟩
    · have : insStp g (startB p.thr t) fnc = fnc := by unfold insStp fnc; rw [if_neg (by decide)]
      rw [this]
      exact ⟨by decide, by decide, ⟨fun h => (by cases h), fun _ => rfl⟩, ⟨fun h => (by simp [fnc] at h), fun _ => rfl⟩⟩
    · have hR := hp.x t l0 h1 q y hq
      unfold insStp
      split
      · rename_i h8
        obtain ⟨t1, t2⟩ := hR.to.1 h8
        refine ⟨hR.op, hR.reg, hR.loc, ⟨fun _ => ?_, fun h => absurd h (by simp only; omega)⟩⟩
        have m1 := countB_mono g (startB p.thr t) (show q + 1 ≤ y.to.toNat by omega)
        have m2 := countB_mono g (startB p.thr t) (show y.to.toNat ≤ l0.length by omega)
        simp only
        omega
      · rename_i h8
        exact ⟨hR.op, hR.reg, hR.loc, ⟨fun h => absurd h h8, hR.to.2⟩⟩
def lowerF (p q : Prg) (g : List Int) : Sta → List Pck → List Pck → Option (List Pck)
  | _, out, [] => some out
  | s, out, k :: r => if (stepW q s k).2 = true then lowerF p q g (stepW q s k).1 (if k.dr = true ∨ fenceB p g k.th.toNat (thAt s k.th).pc = false then out ++ [k] else out) r else none
end Go.Proofs.Yteieinhgdjjdoaa
namespace Go.Proofs.Yteieinhgdjjdoaa
open Go.RowKit
set_option maxRecDepth 8000
def rightB (p : Prg) (x : Stp) (a m : Nat) : Bool := decide ((1 ≤ x.op ∧ x.op ≤ 10) ∧ (0 ≤ x.reg ∧ x.reg ≤ 3 ∧ (hasR x.op = true ∨ x.reg = 0) ∧ (hasM x.op = true ∨ x.n = 0)) ∧
  ((hasL x.op = true → 0 ≤ x.loc ∧ x.loc < (p.init.length : Int)) ∧ (hasL x.op = false → x.loc = 0)) ∧ ((8 ≤ x.op → (a : Int) < x.to ∧ x.to ≤ (m : Int)) ∧ (x.op < 8 → x.to = 0)))
theorem rightB_iff {p : Prg} {x : Stp} {a m : Nat} : rightB p x a m = true ↔ RightX p x a m := by
  unfold rightB
  rw [decide_eq_true_eq]
  exact ⟨fun ⟨h1, h2, h3, h4⟩ => ⟨h1, h2, h3, h4⟩, fun ⟨h1, h2, h3, h4⟩ => ⟨h1, h2, h3, h4⟩⟩
theorem tf (c : Prop) [Decidable c] : (c ∧ (c = True)) ∨ (¬ c ∧ (c = False)) := by
  by_cases h : c
  · exact .inl ⟨h, eq_true h⟩
  · exact .inr ⟨h, eq_false h⟩
set_option maxHeartbeats 40000000 in
theorem refRightX (p : Prg) (x : Stp) (a m : Nat) (hi : p.init.length ≤ 60) (ha : a ≤ 1000) (hm : m ≤ 1000) : HFn Try.prog 64 [prgH p, stpH x, .v (.int .i64 a), .v (.int .i64 m)] (.v (.bool (rightB p x a m))) := by
  refine HCalls_body (fn := Try.f64) 139 [8] (by kernel_rfl) rfl (by kernel_rfl) (HW.run 400 (by kernel_rfl) ?_)
  by_cases h1 : 1 ≤ x.op
  case neg =>
    have h1' : (x.op < 1) = True := by simp only [eq_iff_iff, iff_true]; omega
    simp (config := { decide := true }) only [go_sem, Int.reduceToNat, Nat.reduceAdd, Nat.reduceSub, Nat.reduceMul, Nat.reduceBEq, reduceIte, reduceCtorEq, h1']
    refine vb (Eq.symm (decide_eq_false fun h => h1 h.1.1))
  have h1' : (x.op < 1) = False := by simp only [eq_iff_iff, iff_false]; omega
  by_cases h2 : x.op ≤ 10
  case neg =>
    have h2' : (10 < x.op) = True := by simp only [eq_iff_iff, iff_true]; omega
    simp (config := { decide := true }) only [go_sem, Int.reduceToNat, Nat.reduceAdd, Nat.reduceSub, Nat.reduceMul, Nat.reduceBEq, reduceIte, reduceCtorEq, h1', h2']
    refine vb (Eq.symm (decide_eq_false fun h => h2 h.1.2))
  have h2' : (10 < x.op) = False := by simp only [eq_iff_iff, iff_false]; omega
  have hop : x.op = 1 ∨ x.op = 2 ∨ x.op = 3 ∨ x.op = 4 ∨ x.op = 5 ∨ x.op = 6 ∨ x.op = 7 ∨ x.op = 8 ∨ x.op = 9 ∨ x.op = 10 := by omega
  rcases hop with h | h | h | h | h | h | h | h | h | h
  · have hx : ∀ hh, rightB p x a m = hh → HV.v (.bool hh) = HV.v (.bool (rightB p x a m)) := fun hh e => by rw [e]
    rcases tf (x.reg < 0) with ⟨d0, c0⟩ | ⟨d0, c0⟩
    · simp (config := { decide := true }) only [go_sem, Int.reduceToNat, Nat.reduceAdd, Nat.reduceSub, Nat.reduceMul, Nat.reduceBEq, reduceIte, reduceCtorEq, h, c0]
      refine hx false (decide_eq_false fun hh => ?_)
      rw [h] at hh
      simp (config := { decide := true }) [hasR, hasL, hasM] at hh <;> omega
    rcases tf (3 < x.reg) with ⟨d1, c1⟩ | ⟨d1, c1⟩
    · simp (config := { decide := true }) only [go_sem, Int.reduceToNat, Nat.reduceAdd, Nat.reduceSub, Nat.reduceMul, Nat.reduceBEq, reduceIte, reduceCtorEq, h, c0, c1]
      refine hx false (decide_eq_false fun hh => ?_)
      rw [h] at hh
      simp (config := { decide := true }) [hasR, hasL, hasM] at hh <;> omega
    rcases tf (x.loc = 0) with ⟨d2, c2⟩ | ⟨d2, c2⟩
    rotate_left
    · simp (config := { decide := true }) only [go_sem, Int.reduceToNat, Nat.reduceAdd, Nat.reduceSub, Nat.reduceMul, Nat.reduceBEq, reduceIte, reduceCtorEq, h, c0, c1, c2]
      refine hx false (decide_eq_false fun hh => ?_)
      rw [h] at hh
      simp (config := { decide := true }) [hasR, hasL, hasM] at hh <;> omega
    rcases tf (x.to = 0) with ⟨d3, c3⟩ | ⟨d3, c3⟩
    rotate_left
    · simp (config := { decide := true }) only [go_sem, Int.reduceToNat, Nat.reduceAdd, Nat.reduceSub, Nat.reduceMul, Nat.reduceBEq, reduceIte, reduceCtorEq, h, c0, c1, c2, c3]
      refine hx false (decide_eq_false fun hh => ?_)
      rw [h] at hh
      simp (config := { decide := true }) [hasR, hasL, hasM] at hh <;> omega
    simp (config := { decide := true }) only [go_sem, Int.reduceToNat, Nat.reduceAdd, Nat.reduceSub, Nat.reduceMul, Nat.reduceBEq, reduceIte, reduceCtorEq, h, c0, c1, c2, c3]
    refine hx true (decide_eq_true ?_)
    rw [h]
    simp (config := { decide := true }) [hasR, hasL, hasM] <;> omega
  · have hx : ∀ hh, rightB p x a m = hh → HV.v (.bool hh) = HV.v (.bool (rightB p x a m)) := fun hh e => by rw [e]
    rcases tf (x.reg < 0) with ⟨d0, c0⟩ | ⟨d0, c0⟩
    · simp (config := { decide := true }) only [go_sem, Int.reduceToNat, Nat.reduceAdd, Nat.reduceSub, Nat.reduceMul, Nat.reduceBEq, reduceIte, reduceCtorEq, h, c0]
      refine hx false (decide_eq_false fun hh => ?_)
      rw [h] at hh
      simp (config := { decide := true }) [hasR, hasL, hasM] at hh <;> omega
    rcases tf (3 < x.reg) with ⟨d1, c1⟩ | ⟨d1, c1⟩
    · simp (config := { decide := true }) only [go_sem, Int.reduceToNat, Nat.reduceAdd, Nat.reduceSub, Nat.reduceMul, Nat.reduceBEq, reduceIte, reduceCtorEq, h, c0, c1]
      refine hx false (decide_eq_false fun hh => ?_)
      rw [h] at hh
      simp (config := { decide := true }) [hasR, hasL, hasM] at hh <;> omega
    rcases tf (x.n = 0) with ⟨d2, c2⟩ | ⟨d2, c2⟩
    rotate_left
    · simp (config := { decide := true }) only [go_sem, Int.reduceToNat, Nat.reduceAdd, Nat.reduceSub, Nat.reduceMul, Nat.reduceBEq, reduceIte, reduceCtorEq, h, c0, c1, c2]
      refine hx false (decide_eq_false fun hh => ?_)
      rw [h] at hh
      simp (config := { decide := true }) [hasR, hasL, hasM] at hh <;> omega
    rcases tf (x.loc < 0) with ⟨d3, c3⟩ | ⟨d3, c3⟩
    · simp (config := { decide := true }) only [go_sem, Int.reduceToNat, Nat.reduceAdd, Nat.reduceSub, Nat.reduceMul, Nat.reduceBEq, reduceIte, reduceCtorEq, h, c0, c1, c2, c3]
      refine hx false (decide_eq_false fun hh => ?_)
      rw [h] at hh
      simp (config := { decide := true }) [hasR, hasL, hasM] at hh <;> omega
    rcases tf ((p.init.length : Int) ≤ x.loc) with ⟨d4, c4⟩ | ⟨d4, c4⟩
    · simp (config := { decide := true }) only [go_sem, Int.reduceToNat, Nat.reduceAdd, Nat.reduceSub, Nat.reduceMul, Nat.reduceBEq, reduceIte, reduceCtorEq, h, c0, c1, c2, c3, c4]
      refine hx false (decide_eq_false fun hh => ?_)
      rw [h] at hh
      simp (config := { decide := true }) [hasR, hasL, hasM] at hh <;> omega
    rcases tf (x.to = 0) with ⟨d5, c5⟩ | ⟨d5, c5⟩
    rotate_left
    · simp (config := { decide := true }) only [go_sem, Int.reduceToNat, Nat.reduceAdd, Nat.reduceSub, Nat.reduceMul, Nat.reduceBEq, reduceIte, reduceCtorEq, h, c0, c1, c2, c3, c4, c5]
      refine hx false (decide_eq_false fun hh => ?_)
      rw [h] at hh
      simp (config := { decide := true }) [hasR, hasL, hasM] at hh <;> omega
    simp (config := { decide := true }) only [go_sem, Int.reduceToNat, Nat.reduceAdd, Nat.reduceSub, Nat.reduceMul, Nat.reduceBEq, reduceIte, reduceCtorEq, h, c0, c1, c2, c3, c4, c5]
    refine hx true (decide_eq_true ?_)
    rw [h]
    simp (config := { decide := true }) [hasR, hasL, hasM] <;> omega
  · have hx : ∀ hh, rightB p x a m = hh → HV.v (.bool hh) = HV.v (.bool (rightB p x a m)) := fun hh e => by rw [e]
    rcases tf (x.reg < 0) with ⟨d0, c0⟩ | ⟨d0, c0⟩
    · simp (config := { decide := true }) only [go_sem, Int.reduceToNat, Nat.reduceAdd, Nat.reduceSub, Nat.reduceMul, Nat.reduceBEq, reduceIte, reduceCtorEq, h, c0]
      refine hx false (decide_eq_false fun hh => ?_)
      rw [h] at hh
      simp (config := { decide := true }) [hasR, hasL, hasM] at hh <;> omega
    rcases tf (3 < x.reg) with ⟨d1, c1⟩ | ⟨d1, c1⟩
    · simp (config := { decide := true }) only [go_sem, Int.reduceToNat, Nat.reduceAdd, Nat.reduceSub, Nat.reduceMul, Nat.reduceBEq, reduceIte, reduceCtorEq, h, c0, c1]
      refine hx false (decide_eq_false fun hh => ?_)
      rw [h] at hh
      simp (config := { decide := true }) [hasR, hasL, hasM] at hh <;> omega
    rcases tf (x.n = 0) with ⟨d2, c2⟩ | ⟨d2, c2⟩
    rotate_left
    · simp (config := { decide := true }) only [go_sem, Int.reduceToNat, Nat.reduceAdd, Nat.reduceSub, Nat.reduceMul, Nat.reduceBEq, reduceIte, reduceCtorEq, h, c0, c1, c2]
      refine hx false (decide_eq_false fun hh => ?_)
      rw [h] at hh
      simp (config := { decide := true }) [hasR, hasL, hasM] at hh <;> omega
    rcases tf (x.loc < 0) with ⟨d3, c3⟩ | ⟨d3, c3⟩
    · simp (config := { decide := true }) only [go_sem, Int.reduceToNat, Nat.reduceAdd, Nat.reduceSub, Nat.reduceMul, Nat.reduceBEq, reduceIte, reduceCtorEq, h, c0, c1, c2, c3]
      refine hx false (decide_eq_false fun hh => ?_)
      rw [h] at hh
      simp (config := { decide := true }) [hasR, hasL, hasM] at hh <;> omega
    rcases tf ((p.init.length : Int) ≤ x.loc) with ⟨d4, c4⟩ | ⟨d4, c4⟩
    · simp (config := { decide := true }) only [go_sem, Int.reduceToNat, Nat.reduceAdd, Nat.reduceSub, Nat.reduceMul, Nat.reduceBEq, reduceIte, reduceCtorEq, h, c0, c1, c2, c3, c4]
      refine hx false (decide_eq_false fun hh => ?_)
      rw [h] at hh
      simp (config := { decide := true }) [hasR, hasL, hasM] at hh <;> omega
    rcases tf (x.to = 0) with ⟨d5, c5⟩ | ⟨d5, c5⟩
    rotate_left
    · simp (config := { decide := true }) only [go_sem, Int.reduceToNat, Nat.reduceAdd, Nat.reduceSub, Nat.reduceMul, Nat.reduceBEq, reduceIte, reduceCtorEq, h, c0, c1, c2, c3, c4, c5]
      refine hx false (decide_eq_false fun hh => ?_)
      rw [h] at hh
      simp (config := { decide := true }) [hasR, hasL, hasM] at hh <;> omega
    simp (config := { decide := true }) only [go_sem, Int.reduceToNat, Nat.reduceAdd, Nat.reduceSub, Nat.reduceMul, Nat.reduceBEq, reduceIte, reduceCtorEq, h, c0, c1, c2, c3, c4, c5]
    refine hx true (decide_eq_true ?_)
    rw [h]
    simp (config := { decide := true }) [hasR, hasL, hasM] <;> omega
  · have hx : ∀ hh, rightB p x a m = hh → HV.v (.bool hh) = HV.v (.bool (rightB p x a m)) := fun hh e => by rw [e]
    rcases tf (x.reg < 0) with ⟨d0, c0⟩ | ⟨d0, c0⟩
    · simp (config := { decide := true }) only [go_sem, Int.reduceToNat, Nat.reduceAdd, Nat.reduceSub, Nat.reduceMul, Nat.reduceBEq, reduceIte, reduceCtorEq, h, c0]
      refine hx false (decide_eq_false fun hh => ?_)
      rw [h] at hh
      simp (config := { decide := true }) [hasR, hasL, hasM] at hh <;> omega
    rcases tf (3 < x.reg) with ⟨d1, c1⟩ | ⟨d1, c1⟩
    · simp (config := { decide := true }) only [go_sem, Int.reduceToNat, Nat.reduceAdd, Nat.reduceSub, Nat.reduceMul, Nat.reduceBEq, reduceIte, reduceCtorEq, h, c0, c1]
      refine hx false (decide_eq_false fun hh => ?_)
      rw [h] at hh
      simp (config := { decide := true }) [hasR, hasL, hasM] at hh <;> omega
    rcases tf (x.reg = 0) with ⟨d2, c2⟩ | ⟨d2, c2⟩
    rotate_left
    · simp (config := { decide := true }) only [go_sem, Int.reduceToNat, Nat.reduceAdd, Nat.reduceSub, Nat.reduceMul, Nat.reduceBEq, reduceIte, reduceCtorEq, h, c0, c1, c2]
      refine hx false (decide_eq_false fun hh => ?_)
      rw [h] at hh
      simp (config := { decide := true }) [hasR, hasL, hasM] at hh <;> omega
    rcases tf (x.loc < 0) with ⟨d3, c3⟩ | ⟨d3, c3⟩
    · simp (config := { decide := true }) only [go_sem, Int.reduceToNat, Nat.reduceAdd, Nat.reduceSub, Nat.reduceMul, Nat.reduceBEq, reduceIte, reduceCtorEq, h, c0, c1, c2, c3]
      refine hx false (decide_eq_false fun hh => ?_)
      rw [h] at hh
      simp (config := { decide := true }) [hasR, hasL, hasM] at hh <;> omega
    rcases tf ((p.init.length : Int) ≤ x.loc) with ⟨d4, c4⟩ | ⟨d4, c4⟩
    · simp (config := { decide := true }) only [go_sem, Int.reduceToNat, Nat.reduceAdd, Nat.reduceSub, Nat.reduceMul, Nat.reduceBEq, reduceIte, reduceCtorEq, h, c0, c1, c2, c3, c4]
      refine hx false (decide_eq_false fun hh => ?_)
      rw [h] at hh
      simp (config := { decide := true }) [hasR, hasL, hasM] at hh <;> omega
    rcases tf (x.to = 0) with ⟨d5, c5⟩ | ⟨d5, c5⟩
    rotate_left
    · simp (config := { decide := true }) only [go_sem, Int.reduceToNat, Nat.reduceAdd, Nat.reduceSub, Nat.reduceMul, Nat.reduceBEq, reduceIte, reduceCtorEq, h, c0, c1, c2, c3, c4, c5]
      refine hx false (decide_eq_false fun hh => ?_)
      rw [h] at hh
      simp (config := { decide := true }) [hasR, hasL, hasM] at hh <;> omega
    simp (config := { decide := true }) only [go_sem, Int.reduceToNat, Nat.reduceAdd, Nat.reduceSub, Nat.reduceMul, Nat.reduceBEq, reduceIte, reduceCtorEq, h, c0, c1, c2, c3, c4, c5]
    refine hx true (decide_eq_true ?_)
    rw [h]
    simp (config := { decide := true }) [hasR, hasL, hasM] <;> omega
  · have hx : ∀ hh, rightB p x a m = hh → HV.v (.bool hh) = HV.v (.bool (rightB p x a m)) := fun hh e => by rw [e]
    rcases tf (x.reg < 0) with ⟨d0, c0⟩ | ⟨d0, c0⟩
    · simp (config := { decide := true }) only [go_sem, Int.reduceToNat, Nat.reduceAdd, Nat.reduceSub, Nat.reduceMul, Nat.reduceBEq, reduceIte, reduceCtorEq, h, c0]
      refine hx false (decide_eq_false fun hh => ?_)
      rw [h] at hh
      simp (config := { decide := true }) [hasR, hasL, hasM] at hh <;> omega
    rcases tf (3 < x.reg) with ⟨d1, c1⟩ | ⟨d1, c1⟩
    · simp (config := { decide := true }) only [go_sem, Int.reduceToNat, Nat.reduceAdd, Nat.reduceSub, Nat.reduceMul, Nat.reduceBEq, reduceIte, reduceCtorEq, h, c0, c1]
      refine hx false (decide_eq_false fun hh => ?_)
      rw [h] at hh
      simp (config := { decide := true }) [hasR, hasL, hasM] at hh <;> omega
    rcases tf (x.n = 0) with ⟨d2, c2⟩ | ⟨d2, c2⟩
    rotate_left
    · simp (config := { decide := true }) only [go_sem, Int.reduceToNat, Nat.reduceAdd, Nat.reduceSub, Nat.reduceMul, Nat.reduceBEq, reduceIte, reduceCtorEq, h, c0, c1, c2]
      refine hx false (decide_eq_false fun hh => ?_)
      rw [h] at hh
      simp (config := { decide := true }) [hasR, hasL, hasM] at hh <;> omega
    rcases tf (x.loc < 0) with ⟨d3, c3⟩ | ⟨d3, c3⟩
    · simp (config := { decide := true }) only [go_sem, Int.reduceToNat, Nat.reduceAdd, Nat.reduceSub, Nat.reduceMul, Nat.reduceBEq, reduceIte, reduceCtorEq, h, c0, c1, c2, c3]
      refine hx false (decide_eq_false fun hh => ?_)
      rw [h] at hh
      simp (config := { decide := true }) [hasR, hasL, hasM] at hh <;> omega
    rcases tf ((p.init.length : Int) ≤ x.loc) with ⟨d4, c4⟩ | ⟨d4, c4⟩
    · simp (config := { decide := true }) only [go_sem, Int.reduceToNat, Nat.reduceAdd, Nat.reduceSub, Nat.reduceMul, Nat.reduceBEq, reduceIte, reduceCtorEq, h, c0, c1, c2, c3, c4]
      refine hx false (decide_eq_false fun hh => ?_)
      rw [h] at hh
      simp (config := { decide := true }) [hasR, hasL, hasM] at hh <;> omega
    rcases tf (x.to = 0) with ⟨d5, c5⟩ | ⟨d5, c5⟩
    rotate_left
    · simp (config := { decide := true }) only [go_sem, Int.reduceToNat, Nat.reduceAdd, Nat.reduceSub, Nat.reduceMul, Nat.reduceBEq, reduceIte, reduceCtorEq, h, c0, c1, c2, c3, c4, c5]
      refine hx false (decide_eq_false fun hh => ?_)
      rw [h] at hh
      simp (config := { decide := true }) [hasR, hasL, hasM] at hh <;> omega
    simp (config := { decide := true }) only [go_sem, Int.reduceToNat, Nat.reduceAdd, Nat.reduceSub, Nat.reduceMul, Nat.reduceBEq, reduceIte, reduceCtorEq, h, c0, c1, c2, c3, c4, c5]
    refine hx true (decide_eq_true ?_)
    rw [h]
    simp (config := { decide := true }) [hasR, hasL, hasM] <;> omega
  · have hx : ∀ hh, rightB p x a m = hh → HV.v (.bool hh) = HV.v (.bool (rightB p x a m)) := fun hh e => by rw [e]
    rcases tf (x.reg < 0) with ⟨d0, c0⟩ | ⟨d0, c0⟩
    · simp (config := { decide := true }) only [go_sem, Int.reduceToNat, Nat.reduceAdd, Nat.reduceSub, Nat.reduceMul, Nat.reduceBEq, reduceIte, reduceCtorEq, h, c0]
      refine hx false (decide_eq_false fun hh => ?_)
      rw [h] at hh
      simp (config := { decide := true }) [hasR, hasL, hasM] at hh <;> omega
    rcases tf (3 < x.reg) with ⟨d1, c1⟩ | ⟨d1, c1⟩
    · simp (config := { decide := true }) only [go_sem, Int.reduceToNat, Nat.reduceAdd, Nat.reduceSub, Nat.reduceMul, Nat.reduceBEq, reduceIte, reduceCtorEq, h, c0, c1]
      refine hx false (decide_eq_false fun hh => ?_)
      rw [h] at hh
      simp (config := { decide := true }) [hasR, hasL, hasM] at hh <;> omega
    rcases tf (x.reg = 0) with ⟨d2, c2⟩ | ⟨d2, c2⟩
    rotate_left
    · simp (config := { decide := true }) only [go_sem, Int.reduceToNat, Nat.reduceAdd, Nat.reduceSub, Nat.reduceMul, Nat.reduceBEq, reduceIte, reduceCtorEq, h, c0, c1, c2]
      refine hx false (decide_eq_false fun hh => ?_)
      rw [h] at hh
      simp (config := { decide := true }) [hasR, hasL, hasM] at hh <;> omega
    rcases tf (x.n = 0) with ⟨d3, c3⟩ | ⟨d3, c3⟩
    rotate_left
    · simp (config := { decide := true }) only [go_sem, Int.reduceToNat, Nat.reduceAdd, Nat.reduceSub, Nat.reduceMul, Nat.reduceBEq, reduceIte, reduceCtorEq, h, c0, c1, c2, c3]
      refine hx false (decide_eq_false fun hh => ?_)
      rw [h] at hh
      simp (config := { decide := true }) [hasR, hasL, hasM] at hh <;> omega
    rcases tf (x.loc = 0) with ⟨d4, c4⟩ | ⟨d4, c4⟩
    rotate_left
    · simp (config := { decide := true }) only [go_sem, Int.reduceToNat, Nat.reduceAdd, Nat.reduceSub, Nat.reduceMul, Nat.reduceBEq, reduceIte, reduceCtorEq, h, c0, c1, c2, c3, c4]
      refine hx false (decide_eq_false fun hh => ?_)
      rw [h] at hh
      simp (config := { decide := true }) [hasR, hasL, hasM] at hh <;> omega
    rcases tf (x.to = 0) with ⟨d5, c5⟩ | ⟨d5, c5⟩
    rotate_left
    · simp (config := { decide := true }) only [go_sem, Int.reduceToNat, Nat.reduceAdd, Nat.reduceSub, Nat.reduceMul, Nat.reduceBEq, reduceIte, reduceCtorEq, h, c0, c1, c2, c3, c4, c5]
      refine hx false (decide_eq_false fun hh => ?_)
      rw [h] at hh
      simp (config := { decide := true }) [hasR, hasL, hasM] at hh <;> omega
    simp (config := { decide := true }) only [go_sem, Int.reduceToNat, Nat.reduceAdd, Nat.reduceSub, Nat.reduceMul, Nat.reduceBEq, reduceIte, reduceCtorEq, h, c0, c1, c2, c3, c4, c5]
    refine hx true (decide_eq_true ?_)
    rw [h]
    simp (config := { decide := true }) [hasR, hasL, hasM] <;> omega
  · have hx : ∀ hh, rightB p x a m = hh → HV.v (.bool hh) = HV.v (.bool (rightB p x a m)) := fun hh e => by rw [e]
    rcases tf (x.reg < 0) with ⟨d0, c0⟩ | ⟨d0, c0⟩
    · simp (config := { decide := true }) only [go_sem, Int.reduceToNat, Nat.reduceAdd, Nat.reduceSub, Nat.reduceMul, Nat.reduceBEq, reduceIte, reduceCtorEq, h, c0]
      refine hx false (decide_eq_false fun hh => ?_)
      rw [h] at hh
      simp (config := { decide := true }) [hasR, hasL, hasM] at hh <;> omega
    rcases tf (3 < x.reg) with ⟨d1, c1⟩ | ⟨d1, c1⟩
    · simp (config := { decide := true }) only [go_sem, Int.reduceToNat, Nat.reduceAdd, Nat.reduceSub, Nat.reduceMul, Nat.reduceBEq, reduceIte, reduceCtorEq, h, c0, c1]
      refine hx false (decide_eq_false fun hh => ?_)
      rw [h] at hh
      simp (config := { decide := true }) [hasR, hasL, hasM] at hh <;> omega
    rcases tf (x.loc = 0) with ⟨d2, c2⟩ | ⟨d2, c2⟩
    rotate_left
    · simp (config := { decide := true }) only [go_sem, Int.reduceToNat, Nat.reduceAdd, Nat.reduceSub, Nat.reduceMul, Nat.reduceBEq, reduceIte, reduceCtorEq, h, c0, c1, c2]
      refine hx false (decide_eq_false fun hh => ?_)
      rw [h] at hh
      simp (config := { decide := true }) [hasR, hasL, hasM] at hh <;> omega
    rcases tf (x.to = 0) with ⟨d3, c3⟩ | ⟨d3, c3⟩
    rotate_left
    · simp (config := { decide := true }) only [go_sem, Int.reduceToNat, Nat.reduceAdd, Nat.reduceSub, Nat.reduceMul, Nat.reduceBEq, reduceIte, reduceCtorEq, h, c0, c1, c2, c3]
      refine hx false (decide_eq_false fun hh => ?_)
      rw [h] at hh
      simp (config := { decide := true }) [hasR, hasL, hasM] at hh <;> omega
    simp (config := { decide := true }) only [go_sem, Int.reduceToNat, Nat.reduceAdd, Nat.reduceSub, Nat.reduceMul, Nat.reduceBEq, reduceIte, reduceCtorEq, h, c0, c1, c2, c3]
    refine hx true (decide_eq_true ?_)
    rw [h]
    simp (config := { decide := true }) [hasR, hasL, hasM] <;> omega
  · have hx : ∀ hh, rightB p x a m = hh → HV.v (.bool hh) = HV.v (.bool (rightB p x a m)) := fun hh e => by rw [e]
    rcases tf (x.reg < 0) with ⟨d0, c0⟩ | ⟨d0, c0⟩
    · simp (config := { decide := true }) only [go_sem, Int.reduceToNat, Nat.reduceAdd, Nat.reduceSub, Nat.reduceMul, Nat.reduceBEq, reduceIte, reduceCtorEq, h, c0]
      refine hx false (decide_eq_false fun hh => ?_)
      rw [h] at hh
      simp (config := { decide := true }) [hasR, hasL, hasM] at hh <;> omega
    rcases tf (3 < x.reg) with ⟨d1, c1⟩ | ⟨d1, c1⟩
    · simp (config := { decide := true }) only [go_sem, Int.reduceToNat, Nat.reduceAdd, Nat.reduceSub, Nat.reduceMul, Nat.reduceBEq, reduceIte, reduceCtorEq, h, c0, c1]
      refine hx false (decide_eq_false fun hh => ?_)
      rw [h] at hh
      simp (config := { decide := true }) [hasR, hasL, hasM] at hh <;> omega
    rcases tf (x.reg = 0) with ⟨d2, c2⟩ | ⟨d2, c2⟩
    rotate_left
    · simp (config := { decide := true }) only [go_sem, Int.reduceToNat, Nat.reduceAdd, Nat.reduceSub, Nat.reduceMul, Nat.reduceBEq, reduceIte, reduceCtorEq, h, c0, c1, c2]
      refine hx false (decide_eq_false fun hh => ?_)
      rw [h] at hh
      simp (config := { decide := true }) [hasR, hasL, hasM] at hh <;> omega
    rcases tf (x.n = 0) with ⟨d3, c3⟩ | ⟨d3, c3⟩
    rotate_left
    · simp (config := { decide := true }) only [go_sem, Int.reduceToNat, Nat.reduceAdd, Nat.reduceSub, Nat.reduceMul, Nat.reduceBEq, reduceIte, reduceCtorEq, h, c0, c1, c2, c3]
      refine hx false (decide_eq_false fun hh => ?_)
      rw [h] at hh
      simp (config := { decide := true }) [hasR, hasL, hasM] at hh <;> omega
    rcases tf (x.loc = 0) with ⟨d4, c4⟩ | ⟨d4, c4⟩
    rotate_left
    · simp (config := { decide := true }) only [go_sem, Int.reduceToNat, Nat.reduceAdd, Nat.reduceSub, Nat.reduceMul, Nat.reduceBEq, reduceIte, reduceCtorEq, h, c0, c1, c2, c3, c4]
      refine hx false (decide_eq_false fun hh => ?_)
      rw [h] at hh
      simp (config := { decide := true }) [hasR, hasL, hasM] at hh <;> omega
    rcases tf ((a : Int) < x.to) with ⟨d5, c5⟩ | ⟨d5, c5⟩
    rotate_left
    · simp (config := { decide := true }) only [go_sem, Int.reduceToNat, Nat.reduceAdd, Nat.reduceSub, Nat.reduceMul, Nat.reduceBEq, reduceIte, reduceCtorEq, h, c0, c1, c2, c3, c4, c5]
      refine hx false (decide_eq_false fun hh => ?_)
      rw [h] at hh
      simp (config := { decide := true }) [hasR, hasL, hasM] at hh <;> omega
    rcases tf (x.to ≤ (m : Int)) with ⟨d6, c6⟩ | ⟨d6, c6⟩
    rotate_left
    · simp (config := { decide := true }) only [go_sem, Int.reduceToNat, Nat.reduceAdd, Nat.reduceSub, Nat.reduceMul, Nat.reduceBEq, reduceIte, reduceCtorEq, h, c0, c1, c2, c3, c4, c5, c6]
      refine hx false (decide_eq_false fun hh => ?_)
      rw [h] at hh
      simp (config := { decide := true }) [hasR, hasL, hasM] at hh <;> omega
    simp (config := { decide := true }) only [go_sem, Int.reduceToNat, Nat.reduceAdd, Nat.reduceSub, Nat.reduceMul, Nat.reduceBEq, reduceIte, reduceCtorEq, h, c0, c1, c2, c3, c4, c5, c6]
    refine hx true (decide_eq_true ?_)
    rw [h]
    simp (config := { decide := true }) [hasR, hasL, hasM] <;> omega
  · have hx : ∀ hh, rightB p x a m = hh → HV.v (.bool hh) = HV.v (.bool (rightB p x a m)) := fun hh e => by rw [e]
    rcases tf (x.reg < 0) with ⟨d0, c0⟩ | ⟨d0, c0⟩
    · simp (config := { decide := true }) only [go_sem, Int.reduceToNat, Nat.reduceAdd, Nat.reduceSub, Nat.reduceMul, Nat.reduceBEq, reduceIte, reduceCtorEq, h, c0]
      refine hx false (decide_eq_false fun hh => ?_)
      rw [h] at hh
      simp (config := { decide := true }) [hasR, hasL, hasM] at hh <;> omega
    rcases tf (3 < x.reg) with ⟨d1, c1⟩ | ⟨d1, c1⟩
    · simp (config := { decide := true }) only [go_sem, Int.reduceToNat, Nat.reduceAdd, Nat.reduceSub, Nat.reduceMul, Nat.reduceBEq, reduceIte, reduceCtorEq, h, c0, c1]
      refine hx false (decide_eq_false fun hh => ?_)
      rw [h] at hh
      simp (config := { decide := true }) [hasR, hasL, hasM] at hh <;> omega
    rcases tf (x.reg = 0) with ⟨d2, c2⟩ | ⟨d2, c2⟩
    rotate_left
    · simp (config := { decide := true }) only [go_sem, Int.reduceToNat, Nat.reduceAdd, Nat.reduceSub, Nat.reduceMul, Nat.reduceBEq, reduceIte, reduceCtorEq, h, c0, c1, c2]
      refine hx false (decide_eq_false fun hh => ?_)
      rw [h] at hh
      simp (config := { decide := true }) [hasR, hasL, hasM] at hh <;> omega
    rcases tf (x.n = 0) with ⟨d3, c3⟩ | ⟨d3, c3⟩
    rotate_left
    · simp (config := { decide := true }) only [go_sem, Int.reduceToNat, Nat.reduceAdd, Nat.reduceSub, Nat.reduceMul, Nat.reduceBEq, reduceIte, reduceCtorEq, h, c0, c1, c2, c3]
      refine hx false (decide_eq_false fun hh => ?_)
      rw [h] at hh
      simp (config := { decide := true }) [hasR, hasL, hasM] at hh <;> omega
    rcases tf (x.loc = 0) with ⟨d4, c4⟩ | ⟨d4, c4⟩
    rotate_left
    · simp (config := { decide := true }) only [go_sem, Int.reduceToNat, Nat.reduceAdd, Nat.reduceSub, Nat.reduceMul, Nat.reduceBEq, reduceIte, reduceCtorEq, h, c0, c1, c2, c3, c4]
      refine hx false (decide_eq_false fun hh => ?_)
      rw [h] at hh
      simp (config := { decide := true }) [hasR, hasL, hasM] at hh <;> omega
    rcases tf ((a : Int) < x.to) with ⟨d5, c5⟩ | ⟨d5, c5⟩
    rotate_left
    · simp (config := { decide := true }) only [go_sem, Int.reduceToNat, Nat.reduceAdd, Nat.reduceSub, Nat.reduceMul, Nat.reduceBEq, reduceIte, reduceCtorEq, h, c0, c1, c2, c3, c4, c5]
      refine hx false (decide_eq_false fun hh => ?_)
      rw [h] at hh
      simp (config := { decide := true }) [hasR, hasL, hasM] at hh <;> omega
    rcases tf (x.to ≤ (m : Int)) with ⟨d6, c6⟩ | ⟨d6, c6⟩
    rotate_left
    · simp (config := { decide := true }) only [go_sem, Int.reduceToNat, Nat.reduceAdd, Nat.reduceSub, Nat.reduceMul, Nat.reduceBEq, reduceIte, reduceCtorEq, h, c0, c1, c2, c3, c4, c5, c6]
      refine hx false (decide_eq_false fun hh => ?_)
      rw [h] at hh
      simp (config := { decide := true }) [hasR, hasL, hasM] at hh <;> omega
    simp (config := { decide := true }) only [go_sem, Int.reduceToNat, Nat.reduceAdd, Nat.reduceSub, Nat.reduceMul, Nat.reduceBEq, reduceIte, reduceCtorEq, h, c0, c1, c2, c3, c4, c5, c6]
    refine hx true (decide_eq_true ?_)
    rw [h]
    simp (config := { decide := true }) [hasR, hasL, hasM] <;> omega
  · have hx : ∀ hh, rightB p x a m = hh → HV.v (.bool hh) = HV.v (.bool (rightB p x a m)) := fun hh e => by rw [e]
    rcases tf (x.reg < 0) with ⟨d0, c0⟩ | ⟨d0, c0⟩
    · simp (config := { decide := true }) only [go_sem, Int.reduceToNat, Nat.reduceAdd, Nat.reduceSub, Nat.reduceMul, Nat.reduceBEq, reduceIte, reduceCtorEq, h, c0]
      refine hx false (decide_eq_false fun hh => ?_)
      rw [h] at hh
      simp (config := { decide := true }) [hasR, hasL, hasM] at hh <;> omega
    rcases tf (3 < x.reg) with ⟨d1, c1⟩ | ⟨d1, c1⟩
    · simp (config := { decide := true }) only [go_sem, Int.reduceToNat, Nat.reduceAdd, Nat.reduceSub, Nat.reduceMul, Nat.reduceBEq, reduceIte, reduceCtorEq, h, c0, c1]
      refine hx false (decide_eq_false fun hh => ?_)
      rw [h] at hh
      simp (config := { decide := true }) [hasR, hasL, hasM] at hh <;> omega
    rcases tf (x.reg = 0) with ⟨d2, c2⟩ | ⟨d2, c2⟩
    rotate_left
    · simp (config := { decide := true }) only [go_sem, Int.reduceToNat, Nat.reduceAdd, Nat.reduceSub, Nat.reduceMul, Nat.reduceBEq, reduceIte, reduceCtorEq, h, c0, c1, c2]
      refine hx false (decide_eq_false fun hh => ?_)
      rw [h] at hh
      simp (config := { decide := true }) [hasR, hasL, hasM] at hh <;> omega
    rcases tf (x.n = 0) with ⟨d3, c3⟩ | ⟨d3, c3⟩
    rotate_left
    · simp (config := { decide := true }) only [go_sem, Int.reduceToNat, Nat.reduceAdd, Nat.reduceSub, Nat.reduceMul, Nat.reduceBEq, reduceIte, reduceCtorEq, h, c0, c1, c2, c3]
      refine hx false (decide_eq_false fun hh => ?_)
      rw [h] at hh
      simp (config := { decide := true }) [hasR, hasL, hasM] at hh <;> omega
    rcases tf (x.loc = 0) with ⟨d4, c4⟩ | ⟨d4, c4⟩
    rotate_left
    · simp (config := { decide := true }) only [go_sem, Int.reduceToNat, Nat.reduceAdd, Nat.reduceSub, Nat.reduceMul, Nat.reduceBEq, reduceIte, reduceCtorEq, h, c0, c1, c2, c3, c4]
      refine hx false (decide_eq_false fun hh => ?_)
      rw [h] at hh
      simp (config := { decide := true }) [hasR, hasL, hasM] at hh <;> omega
    rcases tf ((a : Int) < x.to) with ⟨d5, c5⟩ | ⟨d5, c5⟩
    rotate_left
    · simp (config := { decide := true }) only [go_sem, Int.reduceToNat, Nat.reduceAdd, Nat.reduceSub, Nat.reduceMul, Nat.reduceBEq, reduceIte, reduceCtorEq, h, c0, c1, c2, c3, c4, c5]
      refine hx false (decide_eq_false fun hh => ?_)
      rw [h] at hh
      simp (config := { decide := true }) [hasR, hasL, hasM] at hh <;> omega
    rcases tf (x.to ≤ (m : Int)) with ⟨d6, c6⟩ | ⟨d6, c6⟩
    rotate_left
    · simp (config := { decide := true }) only [go_sem, Int.reduceToNat, Nat.reduceAdd, Nat.reduceSub, Nat.reduceMul, Nat.reduceBEq, reduceIte, reduceCtorEq, h, c0, c1, c2, c3, c4, c5, c6]
      refine hx false (decide_eq_false fun hh => ?_)
      rw [h] at hh
      simp (config := { decide := true }) [hasR, hasL, hasM] at hh <;> omega
    simp (config := { decide := true }) only [go_sem, Int.reduceToNat, Nat.reduceAdd, Nat.reduceSub, Nat.reduceMul, Nat.reduceBEq, reduceIte, reduceCtorEq, h, c0, c1, c2, c3, c4, c5, c6]
    refine hx true (decide_eq_true ?_)
    rw [h]
    simp (config := { decide := true }) [hasR, hasL, hasM] <;> omega
end Go.Proofs.Yteieinhgdjjdoaa
namespace Go.Proofs.Yteieinhgdjjdoaa
open Go.RowKit
set_option maxRecDepth 8000
def rightAt (p : Prg) (l : List Stp) (i : Nat) : Bool := match l[i]? with | some x => rightB p x i l.length | none => true
def rightTB (p : Prg) (l : List Stp) : Bool := decide (l.length ≤ 80) && (List.range l.length).all (rightAt p l)
def rightPB (p : Prg) : Bool := decide (p.init.length ≤ 4 ∧ 1 ≤ p.thr.length ∧ p.thr.length ≤ 3) && p.thr.all (rightTB p)
theorem rightPB_iff {p : Prg} : rightPB p = true ↔ RightP p := by
  unfold rightPB
  rw [Bool.and_eq_true, decide_eq_true_eq, List.all_eq_true]
  constructor
  · rintro ⟨⟨h1, h2, h3⟩, h⟩
    refine ⟨h1, ⟨h2, h3⟩, fun l hl => ?_, fun t l hl i x hx => ?_⟩
    · have := h l hl
      unfold rightTB at this
      rw [Bool.and_eq_true, decide_eq_true_eq] at this
      exact this.1
    · have := h l (List.mem_of_getElem? hl)
      unfold rightTB at this
      rw [Bool.and_eq_true, List.all_eq_true] at this
      have hi := (List.getElem?_eq_some_iff.1 hx).1
      have := this.2 i (List.mem_range.2 hi)
      unfold rightAt at this
      rw [hx] at this
      exact rightB_iff.1 this
  · intro h
    refine ⟨⟨h.init, h.thr.1, h.thr.2⟩, fun l hl => ?_⟩
    unfold rightTB
    rw [Bool.and_eq_true, decide_eq_true_eq, List.all_eq_true]
    refine ⟨h.len l hl, fun i hi => ?_⟩
    obtain ⟨t, ht⟩ := List.getElem?_of_mem hl
    have hi := List.mem_range.1 hi
    unfold rightAt
    rw [List.getElem?_eq_getElem hi]
    exact rightB_iff.2 (h.x t l ht i _ (List.getElem?_eq_getElem hi))
set_option maxHeartbeats 8000000 in
theorem refRightP (p : Prg) (hp : SmallP p) : HFn Try.prog 49 [prgH p] (.v (.bool (rightPB p))) := by
  have hi := hp.init
  have hl := hp.thr
  refine HCalls_body (fn := Try.f49) 63 [2] (by kernel_rfl) rfl (by kernel_rfl) (HW.run 400 (by kernel_rfl) ?_)
  rcases tf ((4 : Int) < (p.init.length : Int)) with ⟨d1, c1⟩ | ⟨d1, c1⟩
  · simp (config := { decide := true }) only [go_sem, Int.reduceToNat, Nat.reduceAdd, Nat.reduceSub, Nat.reduceMul, Nat.reduceBEq, reduceIte, reduceCtorEq, c1]
    refine vb (Eq.symm ?_)
    unfold rightPB
    rw [decide_eq_false (fun h => by omega)]; rfl
  rcases tf ((p.thr.length : Int) < 1) with ⟨d2, c2⟩ | ⟨d2, c2⟩
  · simp (config := { decide := true }) only [go_sem, Int.reduceToNat, Nat.reduceAdd, Nat.reduceSub, Nat.reduceMul, Nat.reduceBEq, reduceIte, reduceCtorEq, c1, c2]
    refine vb (Eq.symm ?_)
    unfold rightPB
    rw [decide_eq_false (fun h => by omega)]; rfl
  rcases tf ((3 : Int) < (p.thr.length : Int)) with ⟨d3, c3⟩ | ⟨d3, c3⟩
  · simp (config := { decide := true }) only [go_sem, Int.reduceToNat, Nat.reduceAdd, Nat.reduceSub, Nat.reduceMul, Nat.reduceBEq, reduceIte, reduceCtorEq, c1, c2, c3]
    refine vb (Eq.symm ?_)
    unfold rightPB
    rw [decide_eq_false (fun h => by omega)]; rfl
  have hR : rightPB p = p.thr.all (rightTB p) := by
    unfold rightPB
    rw [decide_eq_true (by omega)]; rfl
  have bad : ∀ (i : Nat) l, p.thr[i]? = some l → rightTB p l = false → HV.v (.bool false) = HV.v (.bool (p.thr.all (rightTB p))) := fun i l hx hb => by
    refine vb (Eq.symm ?_)
    rw [List.all_eq_false]
    exact ⟨l, List.mem_of_getElem? hx, by rw [hb]; simp⟩
  rw [hR]
  simp (config := { decide := true }) only [go_sem, Int.reduceToNat, Nat.reduceAdd, Nat.reduceSub, Nat.reduceMul, Nat.reduceBEq, reduceIte, reduceCtorEq, c1, c2, c3]
  refine HW.loopG (fun k T H => ∃ i : Nat, k = p.thr.length - i ∧ i ≤ p.thr.length ∧ (∀ j, j < i → ∀ l, p.thr[j]? = some l → rightTB p l = true) ∧ T 1 = .pt 0 1 0 0 ∧ T 3 = .v (.int .i64 i) ∧ H = [some ⟨25, 2, [[.sl (ints p.init), .sl (thrs p.thr)]]⟩]) p.thr.length ⟨_, _, Ghost.refl, 0, rfl, by omega, by simp, rfl, rfl, rfl⟩ ?_
  rintro k T H ⟨i, rfl, hi, hno, h1, h3, rfl⟩
  refine HW.run 200 (by kernel_rfl) ?_
  by_cases hlt : i < p.thr.length
  · have hlt' : ((i : Int) < (p.thr.length : Int)) = True := by rw [int_lt]; simp [hlt]
    have hx : p.thr[i]? = some p.thr[i] := List.getElem?_eq_getElem hlt
    have hxl := hp.len _ (List.getElem_mem hlt)
    have hbad := bad i _ hx
    generalize p.thr[i] = l at hx hxl hbad
    rcases tf ((80 : Int) < (l.length : Int)) with ⟨d4, c4⟩ | ⟨d4, c4⟩
    · simp (config := { decide := true }) only [go_sem, Int.reduceToNat, Nat.reduceAdd, Nat.reduceSub, Nat.reduceMul, Nat.reduceBEq, reduceIte, reduceCtorEq, h1, h3, hlt', hx, c4]
      refine hbad ?_
      unfold rightTB
      rw [decide_eq_false (by omega)]; rfl
    have hT : rightTB p l = (List.range l.length).all (rightAt p l) := by
      unfold rightTB
      rw [decide_eq_true (by omega)]; rfl
    simp (config := { decide := true }) only [go_sem, Int.reduceToNat, Nat.reduceAdd, Nat.reduceSub, Nat.reduceMul, Nat.reduceBEq, reduceIte, reduceCtorEq, h1, h3, hlt', hx, c4]
    refine HW.loopG (fun k T H => ∃ j : Nat, k = l.length - j ∧ j ≤ l.length ∧ (∀ q, q < j → rightAt p l q = true) ∧ T 1 = .pt 0 1 0 0 ∧ T 3 = .v (.int .i64 i) ∧ T 4 = .v (.int .i64 j) ∧ H = [some ⟨25, 2, [[.sl (ints p.init), .sl (thrs p.thr)]]⟩]) l.length ⟨_, _, Ghost.refl, 0, rfl, by omega, by simp, ?_, ?_, ?_, rfl⟩ ?_
    iterate 2 simp (config := { decide := true }) only [go_sem, Nat.reduceBEq, reduceIte, h1, h3]
    · simp (config := { decide := true }) only [go_sem, Nat.reduceBEq, reduceIte]; rfl
    clear h1 h3 T
    rintro k T H ⟨j, rfl, hj, hall, h1, h3, h4, rfl⟩
    refine HW.run 200 (by kernel_rfl) ?_
    by_cases hjl : j < l.length
    · have hj' : ((j : Int) < (l.length : Int)) = True := by rw [int_lt]; simp [hjl]
      have hy : l[j]? = some l[j] := List.getElem?_eq_getElem hjl
      have hA : rightAt p l j = rightB p l[j] j l.length := by unfold rightAt; rw [hy]
      generalize l[j] = y at hy hA
      simp (config := { decide := true }) only [go_sem, Int.reduceToNat, Nat.reduceAdd, Nat.reduceSub, Nat.reduceMul, Nat.reduceBEq, reduceIte, reduceCtorEq, h1, h3, h4, hlt', hx, hj', hy]
      refine HW.tree 1 (.light 0 (.light 1 (.light 2 (.light 3 (.light 4 (.light 5 (.light 6 (.light 7 (.light 8 (.light 9 (.light 10 (.light 11 (.light 12 (.light 13 (.light 14 (.light 15 (.heavy 16 [] (.light 17 .leaf) .stop))))))))))))))))) follows (by kernel_rfl) (by kernel_rfl) ?_
      simp (config := { decide := true }) only [go_sem, Int.reduceToNat, Nat.reduceAdd, Nat.reduceSub, Nat.reduceMul, Nat.reduceBEq, reduceIte, reduceCtorEq, h1, h3, h4, hlt', hx, hj', hy]
      refine callX_nm (refRightX p y j l.length (by omega) (by omega) (by omega)) rfl rfl ?_
      cases hb : rightB p y j l.length with
      | true =>
        simp (config := { decide := true }) only [go_sem, Int.reduceToNat, Nat.reduceAdd, Nat.reduceSub, Nat.reduceMul, Nat.reduceBEq, reduceIte, reduceCtorEq, h1, h3, h4, hlt', hx, hj', hy]
        refine ⟨_, _, Ghost.refl, l.length - (j + 1), by omega, j + 1, rfl, by omega, fun q hq => ?_, ?_, ?_, ?_, rfl⟩
        · rcases Nat.lt_or_ge q j with h | h
          · exact hall q h
          · obtain rfl : q = j := by omega
            rw [hA, hb]
        iterate 2 simp (config := { decide := true }) only [go_sem, Nat.reduceBEq, reduceIte, h1, h3]
        · simp (config := { decide := true }) only [go_sem, Nat.reduceBEq, reduceIte]; rw [w64 (by omega) (by omega)]; rfl
      | false =>
        simp (config := { decide := true }) only [go_sem, Int.reduceToNat, Nat.reduceAdd, Nat.reduceSub, Nat.reduceMul, Nat.reduceBEq, reduceIte, reduceCtorEq, h1, h3, h4, hlt', hx, hj', hy]
        refine hbad ?_
        rw [hT, List.all_eq_false]
        exact ⟨j, List.mem_range.2 hjl, by rw [hA, hb]; simp⟩
    · have hj' : ((j : Int) < (l.length : Int)) = False := by rw [int_lt]; simp [hjl]
      simp (config := { decide := true }) only [go_sem, Int.reduceToNat, Nat.reduceAdd, Nat.reduceSub, Nat.reduceMul, Nat.reduceBEq, reduceIte, reduceCtorEq, h1, h3, h4, hlt', hx, hj']
      refine ⟨_, _, Ghost.refl, p.thr.length - (i + 1), by omega, i + 1, rfl, by omega, fun q hq z hz => ?_, ?_, ?_, rfl⟩
      · rcases Nat.lt_or_ge q i with h | h
        · exact hno q h z hz
        · obtain rfl : q = i := by omega
          rw [hx] at hz; cases hz
          rw [hT, List.all_eq_true]
          exact fun k hk => hall k (by have := List.mem_range.1 hk; omega)
      · simp (config := { decide := true }) only [go_sem, Nat.reduceBEq, reduceIte, h1]
      · simp (config := { decide := true }) only [go_sem, Nat.reduceBEq, reduceIte]; rw [w64 (by omega) (by omega)]; rfl
  · have hlt' : ((i : Int) < (p.thr.length : Int)) = False := by rw [int_lt]; simp [hlt]
    simp (config := { decide := true }) only [go_sem, Int.reduceToNat, Nat.reduceAdd, Nat.reduceSub, Nat.reduceMul, Nat.reduceBEq, reduceIte, reduceCtorEq, h1, h3, hlt']
    refine vb (Eq.symm ?_)
    rw [List.all_eq_true]
    intro y hy
    obtain ⟨j, hj⟩ := List.mem_iff_getElem?.1 hy
    exact hno j (by have := (List.getElem?_eq_some_iff.1 hj).1; omega) y hj
def great8 (p : Prg) : Bool := great7 p || !rightPB p || p.thr.any fun l => decide (40 < l.length)
theorem great8_ok {p : Prg} (h : great8 p = false) : RightP p ∧ Forty p := by
  simp only [great8, Bool.or_eq_false_iff, Bool.not_eq_false', List.any_eq_false] at h
  exact ⟨rightPB_iff.1 h.1.2, fun l hl => by have := h.2 l hl; simp at this; omega⟩
set_option maxHeartbeats 8000000 in
theorem lawGreat8 (p : Prg) : HFn Try.prog 30 [prgH p] (.v (.bool (great8 p))) := by
  refine HCalls_body (fn := Try.f30) 25 [2] (by kernel_rfl) rfl (by kernel_rfl) (HW.run 400 (by kernel_rfl) ?_)
  simp (config := { decide := true }) only [go_sem, Int.reduceToNat, Nat.reduceAdd, Nat.reduceSub, Nat.reduceMul, Nat.reduceBEq, reduceIte, reduceCtorEq]
  refine callX_nm (lawGreat7 p) rfl rfl ?_
  cases hg : great7 p with
  | true =>
    simp (config := { decide := true }) only [go_sem, Int.reduceToNat, Nat.reduceAdd, Nat.reduceSub, Nat.reduceMul, Nat.reduceBEq, reduceIte, reduceCtorEq]
    exact vb (by unfold great8; rw [hg]; rfl)
  | false =>
    have hsm := great7_small hg
    have hl := hsm.thr
    simp (config := { decide := true }) only [go_sem, Int.reduceToNat, Nat.reduceAdd, Nat.reduceSub, Nat.reduceMul, Nat.reduceBEq, reduceIte, reduceCtorEq]
    refine callX_nm (refRightP p hsm) rfl rfl ?_
    cases hr : rightPB p with
    | false =>
      simp (config := { decide := true }) only [go_sem, Int.reduceToNat, Nat.reduceAdd, Nat.reduceSub, Nat.reduceMul, Nat.reduceBEq, reduceIte, reduceCtorEq]
      exact vb (by unfold great8; rw [hg, hr]; rfl)
    | true =>
      have hG : great8 p = p.thr.any fun l => decide (40 < l.length) := by unfold great8; rw [hg, hr]; rfl
      rw [hG]
      simp (config := { decide := true }) only [go_sem, Int.reduceToNat, Nat.reduceAdd, Nat.reduceSub, Nat.reduceMul, Nat.reduceBEq, reduceIte, reduceCtorEq]
      refine HW.loopG (fun k T H => ∃ i : Nat, k = p.thr.length - i ∧ i ≤ p.thr.length ∧ (∀ j, j < i → ∀ l, p.thr[j]? = some l → ¬ 40 < l.length) ∧ T 1 = .pt 0 1 0 0 ∧ T 3 = .v (.int .i64 i) ∧ H = [some ⟨25, 2, [[.sl (ints p.init), .sl (thrs p.thr)]]⟩]) p.thr.length ⟨_, _, Ghost.refl, 0, rfl, by omega, by simp, rfl, rfl, rfl⟩ ?_
      rintro k T H ⟨i, rfl, hi, hno, h1, h3, rfl⟩
      refine HW.run 200 (by kernel_rfl) ?_
      by_cases hlt : i < p.thr.length
      · have hlt' : ((i : Int) < (p.thr.length : Int)) = True := by rw [int_lt]; simp [hlt]
        have hx : p.thr[i]? = some p.thr[i] := List.getElem?_eq_getElem hlt
        generalize p.thr[i] = l at hx
        by_cases c3 : 40 < l.length
        · have c3' : ((40 : Int) < (l.length : Int)) = True := by simp only [eq_iff_iff, iff_true]; omega
          simp (config := { decide := true }) only [go_sem, Int.reduceToNat, Nat.reduceAdd, Nat.reduceSub, Nat.reduceMul, Nat.reduceBEq, reduceIte, reduceCtorEq, h1, h3, hlt', hx, c3']
          exact vb (Eq.symm (List.any_eq_true.2 ⟨l, List.mem_of_getElem? hx, by simpa using c3⟩))
        · have c3' : ((40 : Int) < (l.length : Int)) = False := by simp only [eq_iff_iff, iff_false]; omega
          simp (config := { decide := true }) only [go_sem, Int.reduceToNat, Nat.reduceAdd, Nat.reduceSub, Nat.reduceMul, Nat.reduceBEq, reduceIte, reduceCtorEq, h1, h3, hlt', hx, c3']
          refine ⟨_, _, Ghost.refl, p.thr.length - (i + 1), by omega, i + 1, rfl, by omega, ?_, ?_, ?_, rfl⟩
          · intro j hj y hy
            rcases Nat.lt_or_ge j i with h | h
            · exact hno j h y hy
            · obtain rfl : j = i := by omega
              rw [hx] at hy; cases hy; exact c3
          all_goals first | (simp (config := { decide := true }) only [go_sem, Nat.reduceBEq, reduceIte, h1]; done) | (simp (config := { decide := true }) only [go_sem, Nat.reduceBEq, reduceIte]; rw [w64 (by omega) (by omega)]; rfl)
      · have hlt' : ((i : Int) < (p.thr.length : Int)) = False := by rw [int_lt]; simp [hlt]
        simp (config := { decide := true }) only [go_sem, Int.reduceToNat, Nat.reduceAdd, Nat.reduceSub, Nat.reduceMul, Nat.reduceBEq, reduceIte, reduceCtorEq, h1, h3, hlt']
        refine vb (Eq.symm ?_)
        rw [List.any_eq_false]
        intro y hy
        obtain ⟨j, hj⟩ := List.mem_iff_getElem?.1 hy
        have := hno j (by have := (List.getElem?_eq_some_iff.1 hj).1; omega) y hj
        simpa using this
def great14 (p : Prg) (l : List Pck) (g : List Int) : Bool := great8 p || decide (120 < l.length) || decide (100 < g.length)
theorem lawGreat14 (p : Prg) (l : List Pck) (g : List Int) : HFn Try.prog 10 [prgH p, .sl (pcks l), .sl (ints g)] (.v (.bool (great14 p l g))) := by
  refine HCalls_body (fn := Try.f10) 19 [6] (by kernel_rfl) rfl (by kernel_rfl) (HW.run 400 (by kernel_rfl) ?_)
  simp (config := { decide := true }) only [go_sem, Int.reduceToNat, Nat.reduceAdd, Nat.reduceSub, Nat.reduceMul, Nat.reduceBEq, reduceIte, reduceCtorEq]
  refine callX_nm (lawGreat8 p) rfl rfl ?_
  cases hg : great8 p with
  | true =>
    simp (config := { decide := true }) only [go_sem, Int.reduceToNat, Nat.reduceAdd, Nat.reduceSub, Nat.reduceMul, Nat.reduceBEq, reduceIte, reduceCtorEq]
    exact vb (by unfold great14; rw [hg]; rfl)
  | false =>
    rcases tf ((120 : Int) < (l.length : Int)) with ⟨d1, c1⟩ | ⟨d1, c1⟩
    · simp (config := { decide := true }) only [go_sem, Int.reduceToNat, Nat.reduceAdd, Nat.reduceSub, Nat.reduceMul, Nat.reduceBEq, reduceIte, reduceCtorEq, c1]
      exact vb (by unfold great14; rw [hg, decide_eq_true (by omega)]; rfl)
    · have e1 : decide (120 < l.length) = false := decide_eq_false (by omega)
      rcases tf ((100 : Int) < (g.length : Int)) with ⟨d2, c2⟩ | ⟨d2, c2⟩
      · simp (config := { decide := true }) only [go_sem, Int.reduceToNat, Nat.reduceAdd, Nat.reduceSub, Nat.reduceMul, Nat.reduceBEq, reduceIte, reduceCtorEq, c1, c2]
        exact vb (by unfold great14; rw [hg, e1, decide_eq_true (by omega)]; rfl)
      · simp (config := { decide := true }) only [go_sem, Int.reduceToNat, Nat.reduceAdd, Nat.reduceSub, Nat.reduceMul, Nat.reduceBEq, reduceIte, reduceCtorEq, c1, c2]
        exact vb (by unfold great14; rw [hg, e1, decide_eq_false (by omega)]; rfl)
theorem great14_ok {p : Prg} {l : List Pck} {g : List Int} (h : great14 p l g = false) : RightP p ∧ Forty p ∧ l.length ≤ 120 ∧ g.length ≤ 100 := by
  simp only [great14, Bool.or_eq_false_iff, decide_eq_false_iff_not] at h
  obtain ⟨⟨h1, h2⟩, h3⟩ := h
  exact ⟨(great8_ok h1).1, (great8_ok h1).2, by omega, by omega⟩
end Go.Proofs.Yteieinhgdjjdoaa
namespace Go.Proofs.Yteieinhgdjjdoaa
open Go.RowKit
set_option maxRecDepth 8000
theorem row_mid {α : Type} {l : List α} {i : Nat} {x : α} {r : List α} (h : l.length = i) : (l ++ x :: r)[i]? = some x := by subst h; simp
theorem set_mid {α : Type} {l : List α} {i : Nat} {x y : α} {r : List α} (h : l.length = i) : (l ++ x :: r).set i y = l ++ y :: r := by subst h; simp
set_option maxHeartbeats 4000000 in
theorem scOwn (s : Sta) (hm : s.mem.length ≤ 100000) (ht : s.ths.length ≤ 1000) (hr : ∀ t ∈ s.ths, t.regs.length ≤ 100000 ∧ t.buf.length ≤ 100000) : HFn Try.prog 92 [staH s] (staO s) := by
  refine HCalls_bodyC (fn := Try.f92) 41 [.cell 2 38] (by kernel_rfl) rfl rfl (by kernel_rfl) (HW.run 400 (by kernel_rfl) ?_)
  simp (config := { decide := true }) only [go_sem, Int.reduceToNat, Nat.reduceAdd, Nat.reduceSub, Nat.reduceMul, Nat.reduceBEq, reduceIte, reduceCtorEq]
  refine HW.float 80 8 (2, 0) [2, 5] 7 _ follows (by kernel_rfl) (by decide) rfl (by kernel_rfl) ?_
  simp (config := { decide := true }) only [go_sem, Int.reduceToNat, Nat.reduceAdd, Nat.reduceSub, Nat.reduceMul, Nat.reduceBEq, reduceIte, reduceCtorEq]
  refine callM_nm (cloneInts s.mem (by omega)) rfl rfl ?_
  simp (config := { decide := true }) only [go_sem, Int.reduceToNat, Nat.reduceAdd, Nat.reduceSub, Nat.reduceMul, Nat.reduceBEq, reduceIte, reduceCtorEq]
  refine callM_nm (cloneThds s.ths (by omega)) rfl rfl ?_
  simp (config := { decide := true }) only [go_sem, Int.reduceToNat, Nat.reduceAdd, Nat.reduceSub, Nat.reduceMul, Nat.reduceBEq, reduceIte, reduceCtorEq]
  refine HW.loopG (fun k T H => ∃ i : Nat, k = s.ths.length - i ∧ i ≤ s.ths.length ∧ T 2 = .pt 1 1 0 0 ∧ T 3 = .pt 4 1 0 0 ∧ T 15 = .v (.int .i64 s.ths.length) ∧ T 16 = .v (.int .i64 i) ∧
    H = [some ⟨38, 2, [[.sl (ints s.mem), .sl (thds s.ths)]]⟩, some ⟨38, 2, [[.v (.slice none 0 0), .v (.slice none 0 0)]]⟩, some ⟨3, 1, ints s.mem⟩, some ⟨50, 4, thdsO (s.ths.take i) ++ thds (s.ths.drop i)⟩, some ⟨38, 2, [[.hd 2 0 s.mem.length, .hd 3 0 s.ths.length]]⟩]) s.ths.length
    ⟨_, _, Ghost.refl, 0, rfl, by omega, rfl, rfl, rfl, rfl, ?_⟩ ?_
  · rfl
  rintro k T H ⟨i, rfl, hi, h2, h3, h15, h16, rfl⟩
  refine HW.run 200 (by kernel_rfl) ?_
  by_cases hlt : i < s.ths.length
  · have hlt' : ((i : Int) < (s.ths.length : Int)) = True := by rw [int_lt]; simp [hlt]
    have hx : s.ths[i]? = some s.ths[i] := List.getElem?_eq_getElem hlt
    obtain ⟨r1, r2⟩ := hr _ (List.getElem_mem hlt)
    have htk : s.ths.take (i + 1) = s.ths.take i ++ [s.ths[i]] := by rw [List.take_add_one, hx]; rfl
    have hdr : s.ths.drop i = s.ths[i] :: s.ths.drop (i + 1) := List.drop_eq_getElem_cons hlt
    generalize s.ths[i] = x at hx r1 r2 htk hdr
    have hlk : (s.ths.take i).length = i := by rw [List.length_take]; omega
    have hlen : (thdsO (s.ths.take i)).length = i := by simp [thdsO]; omega
    rw [hdr]
    have hrl : ∀ X, (thdsO (s.ths.take i) ++ X :: thds (s.ths.drop (i + 1)))[i]? = some X := fun X => row_mid hlen
    have hsl : ∀ X Y, (thdsO (s.ths.take i) ++ X :: thds (s.ths.drop (i + 1))).set i Y = thdsO (s.ths.take i) ++ Y :: thds (s.ths.drop (i + 1)) := fun X Y => set_mid hlen
    have hn : i + (s.ths.length - (i + 1) + 1) = s.ths.length := by omega
    have hlv : (s.ths.length == s.ths.length && s.ths.length != 0) = true := by
      rw [Bool.and_eq_true]
      exact ⟨beq_self_eq_true _, by simp only [bne_iff_ne]; omega⟩
    simp (config := { decide := true }) only [go_sem, Int.reduceToNat, Nat.reduceAdd, Nat.reduceSub, Nat.reduceMul, Nat.reduceBEq, reduceIte, reduceCtorEq, h2, h3, h15, h16, hlt', hx, hlk, thds_cons, hrl, hsl, List.length_drop, hn, hlv]
    repeat (with_reducible refine And.intro ?_ ?_; · (with_reducible and_intros) <;> omega)
    refine HW.mixed 80 15 (3, 5) [6, 11, 14, 2014, 1003, 1004, 1005, 1008, 1009, 1010, 1012, 1013] follows (by kernel_rfl) (by decide) ?_
    simp (config := { decide := true }) only [go_sem, Int.reduceToNat, Nat.reduceAdd, Nat.reduceSub, Nat.reduceMul, Nat.reduceBEq, reduceIte, reduceCtorEq, h2, h3, h15, h16, hlt', hx, hlk, thds_cons, hrl, hsl, List.length_drop, hn, hlv]
    refine callM_nm (cloneInts x.regs (by omega)) rfl rfl ?_
    simp (config := { decide := true }) only [go_sem, Int.reduceToNat, Nat.reduceAdd, Nat.reduceSub, Nat.reduceMul, Nat.reduceBEq, reduceIte, reduceCtorEq, h2, h3, h15, h16, hlt', hx, hlk, thds_cons, hrl, hsl, List.length_drop, hn, hlv]
    refine callM_nm (cloneWrts x.buf (by omega)) rfl rfl ?_
    simp (config := { decide := true }) only [go_sem, Int.reduceToNat, Nat.reduceAdd, Nat.reduceSub, Nat.reduceMul, Nat.reduceBEq, reduceIte, reduceCtorEq, h2, h3, h15, h16, hlt', hx, hlk, thds_cons, hrl, hsl, List.length_drop, hn, hlv]
    refine GQ.step (Ghost.absorb 3 i 1) ?_
    simp (config := { decide := true }) only [go_sem, Int.reduceToNat, Nat.reduceAdd, Nat.reduceSub, Nat.reduceMul, Nat.reduceBEq, reduceIte, reduceCtorEq, hrl, hsl, absorb_eq, onOb_some]
    refine GQ.step (Ghost.absorb 3 i 3) ?_
    simp (config := { decide := true }) only [go_sem, Int.reduceToNat, Nat.reduceAdd, Nat.reduceSub, Nat.reduceMul, Nat.reduceBEq, reduceIte, reduceCtorEq, hrl, hsl, absorb_eq, onOb_some]
    refine GQ.step (Ghost.trunc [2, 3, 15, 16] 5 (by omega) ?_ ?_) (GQ.done ⟨s.ths.length - (i + 1), by omega, i + 1, rfl, by omega, ?_, ?_, ?_, ?_, ?_⟩)
    · simp (config := { decide := true }) only [go_sem, Nat.reduceBEq, reduceIte, h2, h3, h15]
    · simp (config := { decide := true }) only [go_sem, Nat.reduceBEq, reduceIte, List.set_cons_succ, List.set_cons_zero, nmR_append]
    iterate 3 simp (config := { decide := true }) only [go_sem, Nat.reduceBEq, reduceIte, h2, h3, h15]
    · simp (config := { decide := true }) only [go_sem, Nat.reduceBEq, reduceIte]; rw [w64 (by omega) (by omega)]; rfl
    · have e : thdsO (s.ths.take i) ++ throwO x :: thds (s.ths.drop (i + 1)) = thdsO (s.ths.take (i + 1)) ++ thds (s.ths.drop (i + 1)) := by
        rw [htk, ← thdsO_snoc]; simp
      simp (config := { decide := true }) only [go_sem, Int.reduceToNat, Nat.reduceAdd, Nat.reduceSub, Nat.reduceMul, Nat.reduceBEq, reduceIte, reduceCtorEq, hsl]
      rw [← e]
      rfl
  · have hlt' : ((i : Int) < (s.ths.length : Int)) = False := by rw [int_lt]; simp [hlt]
    have e : i = s.ths.length := by omega
    have htk : s.ths.take i = s.ths := by rw [e, List.take_length]
    have hdr : s.ths.drop i = [] := by rw [e, List.drop_length]
    simp (config := { decide := true }) only [go_sem, Int.reduceToNat, Nat.reduceAdd, Nat.reduceSub, Nat.reduceMul, Nat.reduceBEq, reduceIte, reduceCtorEq, h2, h3, h15, h16, hlt', htk, hdr]
set_option maxHeartbeats 4000000 in
theorem tsoOwn (s : Sta) (hm : s.mem.length ≤ 100000) (ht : s.ths.length ≤ 1000) (hr : ∀ t ∈ s.ths, t.regs.length ≤ 100000 ∧ t.buf.length ≤ 100000) : HFn Try.prog 65 [staH s] (staO s) := by
  refine HCalls_bodyC (fn := Try.f65) 41 [.cell 2 38] (by kernel_rfl) rfl rfl (by kernel_rfl) (HW.run 400 (by kernel_rfl) ?_)
  simp (config := { decide := true }) only [go_sem, Int.reduceToNat, Nat.reduceAdd, Nat.reduceSub, Nat.reduceMul, Nat.reduceBEq, reduceIte, reduceCtorEq]
  refine HW.float 80 8 (2, 0) [2, 5] 7 _ follows (by kernel_rfl) (by decide) rfl (by kernel_rfl) ?_
  simp (config := { decide := true }) only [go_sem, Int.reduceToNat, Nat.reduceAdd, Nat.reduceSub, Nat.reduceMul, Nat.reduceBEq, reduceIte, reduceCtorEq]
  refine callM_nm (cloneInts s.mem (by omega)) rfl rfl ?_
  simp (config := { decide := true }) only [go_sem, Int.reduceToNat, Nat.reduceAdd, Nat.reduceSub, Nat.reduceMul, Nat.reduceBEq, reduceIte, reduceCtorEq]
  refine callM_nm (cloneThds s.ths (by omega)) rfl rfl ?_
  simp (config := { decide := true }) only [go_sem, Int.reduceToNat, Nat.reduceAdd, Nat.reduceSub, Nat.reduceMul, Nat.reduceBEq, reduceIte, reduceCtorEq]
  refine HW.loopG (fun k T H => ∃ i : Nat, k = s.ths.length - i ∧ i ≤ s.ths.length ∧ T 2 = .pt 1 1 0 0 ∧ T 3 = .pt 4 1 0 0 ∧ T 15 = .v (.int .i64 s.ths.length) ∧ T 16 = .v (.int .i64 i) ∧
    H = [some ⟨38, 2, [[.sl (ints s.mem), .sl (thds s.ths)]]⟩, some ⟨38, 2, [[.v (.slice none 0 0), .v (.slice none 0 0)]]⟩, some ⟨3, 1, ints s.mem⟩, some ⟨50, 4, thdsO (s.ths.take i) ++ thds (s.ths.drop i)⟩, some ⟨38, 2, [[.hd 2 0 s.mem.length, .hd 3 0 s.ths.length]]⟩]) s.ths.length
    ⟨_, _, Ghost.refl, 0, rfl, by omega, rfl, rfl, rfl, rfl, ?_⟩ ?_
  · rfl
  rintro k T H ⟨i, rfl, hi, h2, h3, h15, h16, rfl⟩
  refine HW.run 200 (by kernel_rfl) ?_
  by_cases hlt : i < s.ths.length
  · have hlt' : ((i : Int) < (s.ths.length : Int)) = True := by rw [int_lt]; simp [hlt]
    have hx : s.ths[i]? = some s.ths[i] := List.getElem?_eq_getElem hlt
    obtain ⟨r1, r2⟩ := hr _ (List.getElem_mem hlt)
    have htk : s.ths.take (i + 1) = s.ths.take i ++ [s.ths[i]] := by rw [List.take_add_one, hx]; rfl
    have hdr : s.ths.drop i = s.ths[i] :: s.ths.drop (i + 1) := List.drop_eq_getElem_cons hlt
    generalize s.ths[i] = x at hx r1 r2 htk hdr
    have hlk : (s.ths.take i).length = i := by rw [List.length_take]; omega
    have hlen : (thdsO (s.ths.take i)).length = i := by simp [thdsO]; omega
    rw [hdr]
    have hrl : ∀ X, (thdsO (s.ths.take i) ++ X :: thds (s.ths.drop (i + 1)))[i]? = some X := fun X => row_mid hlen
    have hsl : ∀ X Y, (thdsO (s.ths.take i) ++ X :: thds (s.ths.drop (i + 1))).set i Y = thdsO (s.ths.take i) ++ Y :: thds (s.ths.drop (i + 1)) := fun X Y => set_mid hlen
    have hn : i + (s.ths.length - (i + 1) + 1) = s.ths.length := by omega
    have hlv : (s.ths.length == s.ths.length && s.ths.length != 0) = true := by
      rw [Bool.and_eq_true]
      exact ⟨beq_self_eq_true _, by simp only [bne_iff_ne]; omega⟩
    simp (config := { decide := true }) only [go_sem, Int.reduceToNat, Nat.reduceAdd, Nat.reduceSub, Nat.reduceMul, Nat.reduceBEq, reduceIte, reduceCtorEq, h2, h3, h15, h16, hlt', hx, hlk, thds_cons, hrl, hsl, List.length_drop, hn, hlv]
    repeat (with_reducible refine And.intro ?_ ?_; · (with_reducible and_intros) <;> omega)
    refine HW.mixed 80 15 (3, 5) [6, 11, 14, 2014, 1003, 1004, 1005, 1008, 1009, 1010, 1012, 1013] follows (by kernel_rfl) (by decide) ?_
    simp (config := { decide := true }) only [go_sem, Int.reduceToNat, Nat.reduceAdd, Nat.reduceSub, Nat.reduceMul, Nat.reduceBEq, reduceIte, reduceCtorEq, h2, h3, h15, h16, hlt', hx, hlk, thds_cons, hrl, hsl, List.length_drop, hn, hlv]
    refine callM_nm (cloneInts x.regs (by omega)) rfl rfl ?_
    simp (config := { decide := true }) only [go_sem, Int.reduceToNat, Nat.reduceAdd, Nat.reduceSub, Nat.reduceMul, Nat.reduceBEq, reduceIte, reduceCtorEq, h2, h3, h15, h16, hlt', hx, hlk, thds_cons, hrl, hsl, List.length_drop, hn, hlv]
    refine callM_nm (cloneWrts x.buf (by omega)) rfl rfl ?_
    simp (config := { decide := true }) only [go_sem, Int.reduceToNat, Nat.reduceAdd, Nat.reduceSub, Nat.reduceMul, Nat.reduceBEq, reduceIte, reduceCtorEq, h2, h3, h15, h16, hlt', hx, hlk, thds_cons, hrl, hsl, List.length_drop, hn, hlv]
    refine GQ.step (Ghost.absorb 3 i 1) ?_
    simp (config := { decide := true }) only [go_sem, Int.reduceToNat, Nat.reduceAdd, Nat.reduceSub, Nat.reduceMul, Nat.reduceBEq, reduceIte, reduceCtorEq, hrl, hsl, absorb_eq, onOb_some]
    refine GQ.step (Ghost.absorb 3 i 3) ?_
    simp (config := { decide := true }) only [go_sem, Int.reduceToNat, Nat.reduceAdd, Nat.reduceSub, Nat.reduceMul, Nat.reduceBEq, reduceIte, reduceCtorEq, hrl, hsl, absorb_eq, onOb_some]
    refine GQ.step (Ghost.trunc [2, 3, 15, 16] 5 (by omega) ?_ ?_) (GQ.done ⟨s.ths.length - (i + 1), by omega, i + 1, rfl, by omega, ?_, ?_, ?_, ?_, ?_⟩)
    · simp (config := { decide := true }) only [go_sem, Nat.reduceBEq, reduceIte, h2, h3, h15]
    · simp (config := { decide := true }) only [go_sem, Nat.reduceBEq, reduceIte, List.set_cons_succ, List.set_cons_zero, nmR_append]
    iterate 3 simp (config := { decide := true }) only [go_sem, Nat.reduceBEq, reduceIte, h2, h3, h15]
    · simp (config := { decide := true }) only [go_sem, Nat.reduceBEq, reduceIte]; rw [w64 (by omega) (by omega)]; rfl
    · have e : thdsO (s.ths.take i) ++ throwO x :: thds (s.ths.drop (i + 1)) = thdsO (s.ths.take (i + 1)) ++ thds (s.ths.drop (i + 1)) := by
        rw [htk, ← thdsO_snoc]; simp
      simp (config := { decide := true }) only [go_sem, Int.reduceToNat, Nat.reduceAdd, Nat.reduceSub, Nat.reduceMul, Nat.reduceBEq, reduceIte, reduceCtorEq, hsl]
      rw [← e]
      rfl
  · have hlt' : ((i : Int) < (s.ths.length : Int)) = False := by rw [int_lt]; simp [hlt]
    have e : i = s.ths.length := by omega
    have htk : s.ths.take i = s.ths := by rw [e, List.take_length]
    have hdr : s.ths.drop i = [] := by rw [e, List.drop_length]
    simp (config := { decide := true }) only [go_sem, Int.reduceToNat, Nat.reduceAdd, Nat.reduceSub, Nat.reduceMul, Nat.reduceBEq, reduceIte, reduceCtorEq, h2, h3, h15, h16, hlt', htk, hdr]
end Go.Proofs.Yteieinhgdjjdoaa
namespace Go.Proofs.Yteieinhgdjjdoaa
open Go.RowKit
set_option maxRecDepth 8000
abbrev throwZ : List HV := [.v (.int .i64 0), .v (.slice none 0 0), .v (.bool false), .v (.slice none 0 0)]
abbrev begH (p : Prg) (mem : List Int) (rows : List (List HV)) : Heap :=
  [some ⟨25, 2, [[.sl (ints p.init), .sl (thrs p.thr)]]⟩, some ⟨38, 2, [[.v (.slice none 0 0), .v (.slice none 0 0)]]⟩,
   some ⟨3, 1, ints mem⟩, some ⟨50, 4, rows⟩, some ⟨38, 2, [[.hd 2 0 p.init.length, .hd 3 0 p.thr.length]]⟩]
theorem nmR_rep {m n : Nat} {r : List HV} (h : nmL m r = true) : nmR m (List.replicate n r) = true := by
  induction n with
  | zero => rfl
  | succ n ih => simp [List.replicate_succ, nmR, h, ih]
set_option maxHeartbeats 4000000 in
theorem scBegin (p : Prg) (hp : p.thr.length ≤ 1000) (hi : p.init.length ≤ 1000) : HFn Try.prog 51 [prgH p] (staH (beginS p)) := by
  refine HFn_bodyF (fn := Try.f51) 3 33 [.cell 2 38] (by kernel_rfl) rfl rfl (by kernel_rfl) (HW.run 400 (by kernel_rfl) ?_)
  simp (config := { decide := true }) only [go_sem, Int.reduceToNat, Nat.reduceAdd, Nat.reduceSub, Nat.reduceMul, Nat.reduceBEq, reduceIte, reduceCtorEq]
  refine HW.treeI (fun T H => T 1 = .pt 0 1 0 0 ∧ T 2 = .pt 1 1 0 0 ∧ T 3 = .pt 4 1 0 0 ∧ H = begH p (List.replicate p.init.length 0) (List.replicate p.thr.length throwZ)) (.light 0 (.light 1 (.light 2 (.light 4 (.light 5 (.light 6 (.heavy 3 [4,5,6] (.heavy 7 [0,1,2] (.light 8 (.heavy 9 [0,1,2,4,5,6,8] (.heavy 10 [] .leaf .stop) .stop)) (.heavy 9 [0,1,2,4,5,6] (.heavy 7 [0,1,2] (.light 8 (.heavy 10 [] .leaf .stop)) .stop) .stop)) (.heavy 7 [0,1,2] (.heavy 3 [4,5,6] (.light 8 (.heavy 9 [0,1,2,4,5,6,8] (.heavy 10 [] .leaf .stop) .stop)) (.heavy 9 [0,1,2,4,5,6] (.heavy 3 [4,5,6] (.light 8 (.heavy 10 [] .leaf .stop)) .stop) .stop)) (.heavy 9 [0,1,2,4,5,6] (.heavy 3 [4,5,6] (.heavy 7 [0,1,2] (.light 8 (.heavy 10 [] .leaf .stop)) .stop) (.heavy 7 [0,1,2] (.heavy 3 [4,5,6] (.light 8 (.heavy 10 [] .leaf .stop)) .stop) .stop)) .stop))))))))) follows (by kernel_rfl) (by kernel_rfl) ?_ ?_
  · have hz : nmR 0 (List.replicate p.thr.length throwZ) = true := nmR_rep rfl
    simp (config := { decide := true }) only [go_sem, Int.reduceToNat, Nat.reduceAdd, Nat.reduceSub, Nat.reduceMul, Nat.reduceBEq, reduceIte, reduceCtorEq]
    (with_reducible and_intros) <;> first | omega | (simp only [List.length_replicate]; done) | skip
    · refine GQ.done ?_
      simp (config := { decide := true }) only [go_sem, Int.reduceToNat, Nat.reduceAdd, Nat.reduceSub, Nat.reduceMul, Nat.reduceBEq, reduceIte, reduceCtorEq]
    · refine GQ.step (Ghost.swap 3 4 (by omega) (by omega) (by simp) (by simp)) (GQ.done ?_)
      simp (config := { decide := true }) only [go_sem, Int.reduceToNat, Nat.reduceAdd, Nat.reduceSub, Nat.reduceMul, Nat.reduceBEq, reduceIte, reduceCtorEq, List.map_replicate, hz]
    · refine GQ.step (Ghost.swap 2 3 (by omega) (by omega) (by simp) (by simp)) (GQ.done ?_)
      simp (config := { decide := true }) only [go_sem, Int.reduceToNat, Nat.reduceAdd, Nat.reduceSub, Nat.reduceMul, Nat.reduceBEq, reduceIte, reduceCtorEq, List.map_replicate, hz]
    · refine GQ.step (Ghost.swap 2 4 (by omega) (by omega) (by simp) (by simp)) (GQ.step (Ghost.swap 3 4 (by omega) (by omega) (by simp [swH, swL]) (by simp [swH, swL])) (GQ.done ?_))
      simp (config := { decide := true }) only [go_sem, Int.reduceToNat, Nat.reduceAdd, Nat.reduceSub, Nat.reduceMul, Nat.reduceBEq, reduceIte, reduceCtorEq, List.map_replicate, hz]
    · refine GQ.step (Ghost.swap 2 3 (by omega) (by omega) (by simp) (by simp)) (GQ.step (Ghost.swap 3 4 (by omega) (by omega) (by simp [swH, swL]) (by simp [swH, swL])) (GQ.done ?_))
      simp (config := { decide := true }) only [go_sem, Int.reduceToNat, Nat.reduceAdd, Nat.reduceSub, Nat.reduceMul, Nat.reduceBEq, reduceIte, reduceCtorEq, List.map_replicate, hz]
    · refine GQ.step (Ghost.swap 2 4 (by omega) (by omega) (by simp) (by simp)) (GQ.done ?_)
      simp (config := { decide := true }) only [go_sem, Int.reduceToNat, Nat.reduceAdd, Nat.reduceSub, Nat.reduceMul, Nat.reduceBEq, reduceIte, reduceCtorEq, List.map_replicate, hz]
  rintro T H ⟨h1, h2, h3, rfl⟩
  simp (config := { decide := true }) only [go_sem, Int.reduceToNat, Nat.reduceAdd, Nat.reduceSub, Nat.reduceMul, Nat.reduceBEq, reduceIte, reduceCtorEq, h1, h2, h3]
  refine ⟨by rw [List.length_replicate], by rw [List.length_replicate], ?_⟩
  refine HW.loopG (fun k T H => ∃ i : Nat, k = p.thr.length - i ∧ i ≤ p.thr.length ∧ T 1 = .pt 0 1 0 0 ∧ T 2 = .pt 1 1 0 0 ∧ T 3 = .pt 4 1 0 0 ∧ T 21 = .v (.int .i64 p.thr.length) ∧ T 22 = .v (.int .i64 i) ∧
    H = begH p p.init (thdsO (List.replicate i thdB) ++ List.replicate (p.thr.length - i) throwZ)) p.thr.length
    ⟨_, _, Ghost.refl, 0, rfl, by omega, ?_, ?_, ?_, rfl, rfl, rfl⟩ ?_
  iterate 3 simp (config := { decide := true }) only [go_sem, Nat.reduceBEq, reduceIte, h1, h2, h3]
  clear h1 h2 h3 T
  rintro k T H ⟨i, rfl, hi, h1, h2, h3, h21, h22, rfl⟩
  refine HW.run 200 (by kernel_rfl) ?_
  by_cases hlt : i < p.thr.length
  · have hlt' : ((i : Int) < (p.thr.length : Int)) = True := by rw [int_lt]; simp [hlt]
    have hlen : (thdsO (List.replicate i thdB)).length = i := by simp [thdsO]
    obtain ⟨m, hm⟩ : ∃ m, p.thr.length - i = m + 1 := ⟨p.thr.length - i - 1, by omega⟩
    have hrows : (thdsO (List.replicate i thdB) ++ throwZ :: List.replicate m throwZ).length = p.thr.length := by simp [thdsO]; omega
    rw [hm, List.replicate_succ]
    have hrl : ∀ X, (thdsO (List.replicate i thdB) ++ X :: List.replicate m throwZ)[i]? = some X := fun X => row_mid hlen
    have hsl : ∀ X Y, (thdsO (List.replicate i thdB) ++ X :: List.replicate m throwZ).set i Y = thdsO (List.replicate i thdB) ++ Y :: List.replicate m throwZ := fun X Y => set_mid hlen
    have hz : nmR 5 (List.replicate m throwZ) = true := nmR_rep rfl
    have hv : i + (m + 1) = p.thr.length := by omega
    simp (config := { decide := true }) only [go_sem, Int.reduceToNat, Nat.reduceAdd, Nat.reduceSub, Nat.reduceMul, Nat.reduceBEq, reduceIte, reduceCtorEq, h1, h2, h3, h21, h22, hlt', hrl, hsl, hz]
    refine HW.tree 1 (.light 0 (.light 1 (.light 2 (.heavy 3 [0,1,2] (.light 4 (.light 5 (.heavy 6 [] .leaf .stop))) .stop)))) follows (by kernel_rfl) (by kernel_rfl) ?_
    simp (config := { decide := true }) only [go_sem, Int.reduceToNat, Nat.reduceAdd, Nat.reduceSub, Nat.reduceMul, Nat.reduceBEq, reduceIte, reduceCtorEq, h1, h2, h3, h21, h22, hlt', hrl, hsl, hz, List.length_replicate, hv]
    refine ⟨by rw [Bool.and_eq_true]; exact ⟨beq_self_eq_true _, by simp only [bne_iff_ne]; omega⟩, ?_⟩
    refine GQ.step (Ghost.absorb 3 i 1) ?_
    simp (config := { decide := true }) only [go_sem, Int.reduceToNat, Nat.reduceAdd, Nat.reduceSub, Nat.reduceMul, Nat.reduceBEq, reduceIte, reduceCtorEq, hrl, hsl, absorb_eq, onOb_some, List.length_replicate]
    refine GQ.step (Ghost.cell 3 i 3 (.ow 104 2 []) rfl (hrl _) rfl rfl (Conv.nilOw _ _) (by simp)) ?_
    refine GQ.step (Ghost.trunc [1, 2, 3, 21, 22] 5 (by omega) ?_ ?_) (GQ.done ⟨m, by omega, i + 1, by omega, by omega, ?_, ?_, ?_, ?_, ?_, ?_⟩)
    · simp (config := { decide := true }) only [go_sem, Nat.reduceBEq, reduceIte, h1, h2, h3, h21]
    · simp (config := { decide := true }) only [go_sem, Nat.reduceBEq, reduceIte, hsl, hz, nmR_append, List.set_cons_succ, List.set_cons_zero]
    iterate 4 simp (config := { decide := true }) only [go_sem, Nat.reduceBEq, reduceIte, h1, h2, h3, h21]
    · simp (config := { decide := true }) only [go_sem, Nat.reduceBEq, reduceIte]; rw [w64 (by omega) (by omega)]; rfl
    · have e : thdsO (List.replicate (i + 1) thdB) = thdsO (List.replicate i thdB) ++ [throwO thdB] := by rw [List.replicate_succ', ← thdsO_snoc]
      simp (config := { decide := true }) only [go_sem, Int.reduceToNat, Nat.reduceAdd, Nat.reduceSub, Nat.reduceMul, Nat.reduceBEq, reduceIte, reduceCtorEq, hsl]
      rw [e, show p.thr.length - (i + 1) = m by omega, List.append_assoc]
      rfl
  · have hlt' : ((i : Int) < (p.thr.length : Int)) = False := by rw [int_lt]; simp [hlt]
    have e : i = p.thr.length := by omega
    have hz0 : p.thr.length - i = 0 := by omega
    rw [hz0, List.replicate_zero, List.append_nil]
    have hth : (p.thr.length = i) = True := by simp [e]
    simp (config := { decide := true }) only [go_sem, Int.reduceToNat, Nat.reduceAdd, Nat.reduceSub, Nat.reduceMul, Nat.reduceBEq, reduceIte, reduceCtorEq, h1, h2, h3, h21, h22, hlt', List.length_replicate, hth]
    rw [beginS_eq, e]
end Go.Proofs.Yteieinhgdjjdoaa
