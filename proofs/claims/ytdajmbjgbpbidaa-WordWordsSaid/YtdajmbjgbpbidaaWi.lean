/- Word: Words as the program has them. -/
import Derived.Test.YtdajmbjgbpbidaaWh
import Derived.Test.YtdajmbjgbpbidaaHiX
namespace Go.Proofs.Ytdajmbjgbpbidaa
open Go.RowKit
set_option linter.unusedVariables false
set_option linter.unusedSimpArgs false
set_option maxRecDepth 8000

theorem wordsB_nil : wordsB [] = [] := by decide

theorem wordsB_step {s : List UInt8} (hs : s ≠ []) : wordsB s = (if (Lib.cut s [32]).1 = [] then [] else [(Lib.cut s [32]).1]) ++ wordsB (Lib.cut s [32]).2.1 ∧ (Lib.cut s [32]).2.1.length < s.length := by
  rcases cut1 32 s with ⟨p, r, rfl, h1, h2⟩ | ⟨h1, h2⟩
  · rw [h2]
    refine ⟨?_, by simp; omega⟩
    unfold wordsB
    rw [cutB_sep h1]
    by_cases hp : p = []
    · simp [hp]
    · simp [hp]
  · rw [h2]
    refine ⟨?_, by simpa using List.length_pos_iff.2 hs⟩
    unfold wordsB
    rw [cutB_plain h1]
    simp [cutB, hs]

/-- What holds at the head of the iterator's loop. -/
def WordsI (s : List UInt8) (m id : Nat) (J : Nat → Heap → Prop) (k : Nat) (T : Nat → HV) (H : Heap) : Prop := ∃ i cur Hq, k = cur.length ∧ J i Hq ∧ Hq.length = m ∧ (wordsB s).drop i = wordsB cur ∧ i ≤ (wordsB s).length ∧ cur.length ≤ 1000000 ∧
  T 0 = .yl id ∧ T 1 = .pt m 1 0 0 ∧ H = Hq ++ [some ⟨9, 1, [[.v (str cur)]]⟩]

theorem words1 (s : List UInt8) (hs : s.length ≤ 1000000) (Hc : Heap) (n : Nat) (hn : Hc[n]? = some (some ⟨9, 1, [[.v (str s)]]⟩)) :
    HSeq Try.prog 29 Hc [.pt n 1 0 0] (Hc.set n none) ((wordsB s).map srow) := by
  intro id J K hid hJ hK hY h0
  refine HCalls_body (fn := Try.f29) 23 [] rfl rfl (by kernel_rfl) (HW.ghost (Ghost.move 1 n 1 0 0 _ rfl hn) (HW.run 60 (by kernel_rfl) ?_))
  simp (config := { decide := true }) only [go_sem, Nat.reduceAdd, Nat.reduceSub, Nat.reduceMul, Nat.reduceBEq, reduceIte, reduceCtorEq]
  refine HW.loopG (WordsI s Hc.length id J) s.length ⟨_, _, Ghost.refl, 0, s, _, rfl, h0, by simp, rfl, by omega, hs, rfl, rfl, rfl⟩ ?_
  rintro k T H ⟨i, cur, Hq, rfl, hJi, hlen, hw, hi, hb, h0, h1, rfl⟩
  have g0 : ∀ B : Heap, getO (Hq ++ B) Hc.length = getO B 0 := fun B => getO_behind0 hlen
  have g1 : ∀ (B : Heap) x, (Hq ++ B).set Hc.length x = Hq ++ B.set 0 x := fun B x => set_behind0 hlen
  refine HW.run 200 (by kernel_rfl) ?_
  by_cases hc : cur = []
  · subst hc
    simp (config := { decide := true }) only [go_sem, Nat.reduceAdd, Nat.reduceSub, Nat.reduceMul, Nat.reduceBEq, reduceIte, reduceCtorEq, h0, h1, g0, g1]
    refine endP_behind hlen (hJ _ _ hJi).2 (.inl ?_)
    have : (wordsB s).length ≤ i := by
      have h := congrArg List.length hw
      rw [wordsB_nil, List.length_drop, List.length_nil] at h
      omega
    have e : ((wordsB s).map srow).length = i := by simp; omega
    rw [e]; exact hJi
  · simp (config := { decide := true }) only [go_sem, Nat.reduceAdd, Nat.reduceSub, Nat.reduceMul, Nat.reduceBEq, reduceIte, reduceCtorEq, h0, h1, g0, g1, hc]
    obtain ⟨hst, hlt⟩ := wordsB_step hc
    refine callX_fn 3 (stringsCut cur [32] (by omega)) (by simp only [go_sem]) rfl ?_
    generalize Lib.cut cur [32] = ct at hst hlt ⊢
    obtain ⟨ln, rs, fd⟩ := ct
    simp only at hst hlt
    have next : ∀ (T' : Nat → HV) (i' : Nat) (Hq' : Heap), Hq'.length = Hc.length → J i' Hq' → i' ≤ (wordsB s).length → (wordsB s).drop i' = wordsB rs → T' 0 = .yl id → T' 1 = .pt Hc.length 1 0 0 →
        GQ 23 Hc.length (fun T' H' => ∃ k', k' < cur.length ∧ WordsI s Hc.length id J k' T' H') T' (Hq' ++ [some ⟨9, 1, [[.v (str rs)]]⟩]) :=
      fun T' i' Hq' hl' hj' hi' hd' t0 t1 => ⟨_, _, Ghost.refl, rs.length, hlt, i', rs, Hq', rfl, hj', hl', hd', hi', by omega, t0, t1, rfl⟩
    by_cases he : ln = []
    · rw [if_pos he, List.nil_append] at hst
      simp (config := { decide := true }) only [go_sem, Nat.reduceAdd, Nat.reduceSub, Nat.reduceMul, Nat.reduceBEq, reduceIte, reduceCtorEq, h0, h1, g0, g1, he]
      refine next _ i Hq hlen hJi hi (hw.trans hst) ?_ ?_ <;> simp (config := { decide := true }) only [go_sem, Nat.reduceBEq, reduceIte, h0, h1]
    · rw [if_neg he] at hst
      simp (config := { decide := true }) only [go_sem, Nat.reduceAdd, Nat.reduceSub, Nat.reduceMul, Nat.reduceBEq, reduceIte, reduceCtorEq, h0, h1, g0, g1, he]
      have hget : (wordsB s)[i]? = some ln := by
        have h := congrArg (fun l => l[0]?) (hw.trans hst)
        simpa using h
      have hdrop : (wordsB s).drop (i + 1) = wordsB rs := by
        have h := congrArg (fun l => l.drop 1) (hw.trans hst)
        simpa [List.drop_drop] using h
      have hlt2 : i < (wordsB s).length := (List.getElem?_eq_some_iff.1 hget).1
      refine yieldX_at hlen hid (hJ _ _ hJi).2 rfl (hY i _ Hq (by rw [List.getElem?_map, hget]; rfl) hJi) ?_
      intro b Hq' hb' hlen'
      have g0 : ∀ B : Heap, getO (Hq' ++ B) Hc.length = getO B 0 := fun B => getO_behind0 hlen'
      cases b with
      | true =>
        simp only [if_true] at hb'
        simp (config := { decide := true }) only [go_sem, Nat.reduceAdd, Nat.reduceSub, Nat.reduceMul, Nat.reduceBEq, reduceIte, reduceCtorEq, h0, h1, g0, he]
        refine next _ (i + 1) Hq' hlen' hb' hlt2 hdrop ?_ ?_ <;> simp (config := { decide := true }) only [go_sem, Nat.reduceBEq, reduceIte, h0, h1]
      | false =>
        simp only [Bool.false_eq_true, if_false] at hb'
        simp (config := { decide := true }) only [go_sem, Nat.reduceAdd, Nat.reduceSub, Nat.reduceMul, Nat.reduceBEq, reduceIte, reduceCtorEq, h0, h1, g0, he]
        exact endP_behind hlen' (hK _ _ hb') (.inr ⟨_, hb'⟩)

theorem words (s : List UInt8) : HFn Try.prog 24 [.v (str s)] (.fn 29 [.bx 9 1 [.v (str s)]]) := by
  refine HCalls_body (fn := Try.f24) 4 [2] rfl rfl (by kernel_rfl) (HW.run 200 (by kernel_rfl) ?_)
  simp (config := { decide := true }) only [go_sem, Nat.reduceAdd, Nat.reduceSub, Nat.reduceMul, Nat.reduceBEq, reduceIte, reduceCtorEq]

theorem wordsPr (s : List UInt8) (hs : s.length ≤ 1000000) : HFn Try.prog 13 [.v (str s)] (owStrs (wordsB s)) := by
  refine HCalls_body (fn := Try.f13) 13 [2] rfl rfl (by kernel_rfl) (HW.run 200 (by kernel_rfl) ?_)
  simp (config := { decide := true }) only [go_sem, Nat.reduceAdd, Nat.reduceSub, Nat.reduceMul, Nat.reduceBEq, reduceIte, reduceCtorEq]
  refine callX_fn 3 (words s) (by simp only [go_sem]) rfl ?_
  simp (config := { decide := true }) only [go_sem, Nat.reduceAdd, Nat.reduceSub, Nat.reduceMul, Nat.reduceBEq, reduceIte, reduceCtorEq]
  refine HW.ghost (Ghost.cell 0 0 0 (.ow 9 1 []) rfl rfl rfl rfl (Conv.nilOw _ _) (by simp)) ?_
  refine HW.rangeFunc rfl rfl ((wordsB s).map srow) [some ⟨24, 1, [[.ow 9 1 (strs [])]]⟩, none] (fun i Hi => Hi = [some ⟨24, 1, [[.ow 9 1 (strs ((wordsB s).take i))]]⟩, none]) (fun _ _ => False)
    (SubH.spec (And.intro rfl trivial)) ?_ (fun o => words1 s hs _ 1 rfl) rfl ?_ ?_ (fun _ _ _ h => h.elim)
  · intro x hx
    obtain ⟨y, _, rfl⟩ := List.mem_map.1 hx
    exact ⟨rfl, rfl⟩
  · rintro i x Hi hx - rfl
    have hlen : (wordsB s).length ≤ s.length + 1 := Nat.le_trans (List.length_filter_le _ _) (cutB_length 32 s)
    have hil : ((wordsB s).take i).length ≤ s.length + 1 := Nat.le_trans (List.length_take_le' _ _) hlen
    rw [List.getElem?_map] at hx
    obtain ⟨y, hy, rfl⟩ := Option.map_eq_some_iff.1 hx
    refine HW.run 60 (by kernel_rfl) ?_
    simp (config := { decide := true }) only [go_sem, Nat.reduceAdd, Nat.reduceSub, Nat.reduceMul, Nat.reduceBEq, reduceIte, reduceCtorEq]
    refine HW.run 60 (by kernel_rfl) ?_
    simp (config := { decide := true }) only [go_sem, Nat.reduceAdd, Nat.reduceSub, Nat.reduceMul, Nat.reduceBEq, reduceIte, reduceCtorEq]
    refine ⟨by omega, _, _, (Ghost.absorb 0 0 0).trans (Ghost.trunc [] 2 (by omega) rfl ?_), ?_⟩
    · simp (config := { decide := true }) only [go_sem, Nat.reduceAdd, Nat.reduceSub, Nat.reduceMul, Nat.reduceBEq, reduceIte, reduceCtorEq]
    · simp (config := { decide := true }) only [go_sem, Nat.reduceAdd, Nat.reduceSub, Nat.reduceMul, Nat.reduceBEq, reduceIte, reduceCtorEq]
      rw [List.take_add_one, hy]
      rfl
  · rintro Hf - rfl
    simp (config := { decide := true }) only [go_sem, Nat.reduceAdd, Nat.reduceSub, Nat.reduceMul, Nat.reduceBEq, reduceIte, reduceCtorEq]
    rw [List.take_of_length_le (by simp)]
    rfl
end Go.Proofs.Ytdajmbjgbpbidaa
