/- Word: the law on lines. -/
import Derived.Test.YtdajmbjgbpbidaaWn
namespace Go.Proofs.Ytdajmbjgbpbidaa
open Go.RowKit
set_option linter.unusedVariables false
set_option linter.unusedSimpArgs false
set_option maxRecDepth 8000

/-- Lines with line feeds between. -/
def joinB : List (List UInt8) → List UInt8
  | [] => []
  | [w] => w
  | w :: r => w ++ 10 :: joinB r

theorem joinB_snoc (w : List UInt8) : ∀ l : List (List UInt8), joinB (l ++ [w]) = if l = [] then w else joinB l ++ 10 :: w
  | [] => rfl
  | [a] => by simp [joinB]
  | a :: b :: l => by
    have ih := joinB_snoc w (b :: l)
    rw [if_neg (by simp)] at ih ⊢
    simp only [List.cons_append] at ih ⊢
    show a ++ 10 :: joinB (b :: (l ++ [w])) = a ++ 10 :: joinB (b :: l) ++ 10 :: w
    rw [ih]
    simp

theorem joinB_cut : ∀ s : List UInt8, joinB (cutB 10 s) = s
  | [] => rfl
  | b :: s => by
    have ih := joinB_cut s
    have hne := cutB_ne 10 s
    unfold cutB
    split
    · rename_i hb
      cases hc : cutB 10 s with
      | nil => exact absurd hc hne
      | cons w r =>
        rw [hc] at ih
        show ([] : List UInt8) ++ 10 :: joinB (w :: r) = b :: s
        rw [ih, hb]; rfl
    · cases hc : cutB 10 s with
      | nil => exact absurd hc hne
      | cons w r =>
        rw [hc] at ih
        cases r with
        | nil => simp only [joinB] at ih ⊢; rw [ih]
        | cons v r =>
          show (b :: w) ++ 10 :: joinB (v :: r) = b :: s
          have : w ++ 10 :: joinB (v :: r) = s := ih
          rw [List.cons_append, this]

theorem cutB_not : ∀ (s w : List UInt8), w ∈ cutB 10 s → (10 : UInt8) ∉ w
  | [], w, h => by simp [cutB] at h; simp [h]
  | b :: s, w, h => by
    have ih := cutB_not s
    unfold cutB at h
    split at h
    · rcases List.mem_cons.1 h with rfl | h
      · simp
      · exact ih w h
    · rename_i hb
      cases hc : cutB 10 s with
      | nil => exact absurd hc (cutB_ne 10 s)
      | cons v r =>
        rw [hc] at h
        rcases List.mem_cons.1 h with rfl | h
        · intro hm
          rcases List.mem_cons.1 hm with e | hm
          · exact hb e.symm
          · exact ih v (by rw [hc]; simp) hm
        · exact ih w (by rw [hc]; simp [h])

theorem linesB_mem {s w : List UInt8} (h : w ∈ linesB s) : (10 : UInt8) ∉ w := by
  unfold linesB at h
  split at h
  · exact cutB_not s w (List.dropLast_subset _ h)
  · exact cutB_not s w h

theorem linesB_join (s : List UInt8) : (joinB (linesB s) = s ∧ (linesB s = [] ∨ (linesB s).getLast? ≠ some [])) ∨ joinB (linesB s) ++ [10] = s := by
  have hj := joinB_cut s
  have hne := cutB_ne 10 s
  unfold linesB
  split
  · rename_i hl
    rw [List.getLast?_eq_some_getLast hne] at hl
    have hl : (cutB 10 s).getLast hne = [] := by simpa using hl
    have e := List.dropLast_concat_getLast hne
    rw [hl] at e
    by_cases hd : (cutB 10 s).dropLast = []
    · left
      rw [hd] at e ⊢
      rw [← e] at hj
      exact ⟨hj, .inl rfl⟩
    · right
      have h2 := joinB_snoc [] (cutB 10 s).dropLast
      rw [e, if_neg hd, hj] at h2
      exact h2.symm
  · rename_i hl
    exact .inl ⟨hj, .inr hl⟩

theorem joinB_len_snoc (l : List (List UInt8)) (w : List UInt8) : (joinB l).length ≤ (joinB (l ++ [w])).length := by
  rw [joinB_snoc]
  split
  · rename_i h; subst h; simp [joinB]
  · simp

theorem joinB_take_le (l : List (List UInt8)) : ∀ i, (joinB (l.take i)).length ≤ (joinB l).length := by
  have key : ∀ n i, l.length - i = n → (joinB (l.take i)).length ≤ (joinB l).length := by
    intro n
    induction n with
    | zero => intro i hi; rw [List.take_of_length_le (by omega)]; exact Nat.le_refl _
    | succ n ih =>
      intro i hi
      have hlt : i < l.length := by omega
      have h1 := ih (i + 1) (by omega)
      have e : l.take (i + 1) = l.take i ++ [l[i]] := by rw [List.take_add_one]; simp [hlt]
      rw [e] at h1
      exact Nat.le_trans (joinB_len_snoc _ _) h1
  exact fun i => key _ i rfl

/-- At the head of the loop over the lines. -/
def LinesO (s : List UInt8) (k : Nat) (T : Nat → HV) (H : Heap) : Prop := ∃ i, k = (linesB s).length - i ∧ i ≤ (linesB s).length ∧
  T 0 = .v (str s) ∧ T 3 = .v (.bool true) ∧ T 4 = .hd 0 0 (linesB s).length ∧ T 5 = .v (str (joinB ((linesB s).take i))) ∧ T 6 = .v (.int .i64 i) ∧ H = [some ⟨9, 1, strs (linesB s)⟩]
/-- At the head of the loop over a line's bytes. -/
def LinesN (s w : List UInt8) (i : Nat) (k : Nat) (T : Nat → HV) (H : Heap) : Prop := ∃ j, k = w.length - j ∧ j ≤ w.length ∧
  T 0 = .v (str s) ∧ T 3 = .v (.bool true) ∧ T 4 = .hd 0 0 (linesB s).length ∧ T 5 = .v (str (joinB ((linesB s).take (i + 1)))) ∧ T 6 = .v (.int .i64 i) ∧ T 7 = .v (.int .i64 j) ∧ H = [some ⟨9, 1, strs (linesB s)⟩]

theorem wordLines_law (s : List UInt8) : HFn Try.prog 4 [.v (str s)] (.v (.bool true)) := by
  refine HCalls_body (fn := Try.f4) 73 [2] rfl rfl (by kernel_rfl) (HW.run 400 (by kernel_rfl) ?_)
  simp (config := { decide := true }) only [go_sem, Nat.reduceAdd, Nat.reduceSub, Nat.reduceMul, Nat.reduceBEq, reduceIte, reduceCtorEq]
  refine callX_fn 3 (headPr) (by simp only [go_sem]) rfl ?_
  by_cases h : (2000 : Int) < s.length
  · simp (config := { decide := true }) only [go_sem, Nat.reduceAdd, Nat.reduceSub, Nat.reduceMul, Nat.reduceBEq, reduceIte, reduceCtorEq, h]
  · have hll := linesB_length s
    have hj := linesB_join s
    have hjl : (joinB (linesB s)).length ≤ s.length := by
      rcases hj with ⟨e, _⟩ | e
      · rw [e]; exact Nat.le_refl _
      · have := congrArg List.length e; simp at this; omega
    have hjt := joinB_take_le (linesB s)
    simp (config := { decide := true }) only [go_sem, Nat.reduceAdd, Nat.reduceSub, Nat.reduceMul, Nat.reduceBEq, reduceIte, reduceCtorEq, h]
    refine callX_fn 3 (lines s (by omega)) (by simp only [go_sem]) nz_owStrs ?_
    simp (config := { decide := true }) only [go_sem, Nat.reduceAdd, Nat.reduceSub, Nat.reduceMul, Nat.reduceBEq, reduceIte, reduceCtorEq, owStrs]
    refine HW.loopG (LinesO s) (linesB s).length ⟨_, _, Ghost.refl, 0, by simp, by omega, rfl, rfl, rfl, rfl, rfl, rfl⟩ ?_
    rintro k T H ⟨i, rfl, hi, t0, t3, t4, t5, t6, rfl⟩
    refine HW.run 200 (by kernel_rfl) ?_
    have hji := hjt i
    rcases Nat.lt_or_ge i (linesB s).length with hlt | hge
    · have hlt' : (i : Int) < ((linesB s).length : Int) := by omega
      have hx : (linesB s)[i]? = some (linesB s)[i] := by simp [hlt]
      have hw : (10 : UInt8) ∉ (linesB s)[i] := linesB_mem (List.getElem_mem hlt)
      have e : (linesB s).take (i + 1) = (linesB s).take i ++ [(linesB s)[i]] := by rw [List.take_add_one, hx]; rfl
      have hji1 := hjt (i + 1)
      have hsn := joinB_snoc (linesB s)[i] ((linesB s).take i)
      rw [← e] at hsn
      have htn : (linesB s).take i = [] ↔ i = 0 := by
        constructor
        · intro h
          have := congrArg List.length h
          rw [List.length_take, List.length_nil] at this
          omega
        · rintro rfl; rfl
      generalize hwd : (linesB s)[i] = wd at hx hw hsn
      have entry : ∀ (T : Nat → HV), T 0 = .v (str s) → T 3 = .v (.bool true) → T 4 = .hd 0 0 (linesB s).length → T 5 = .v (str (joinB ((linesB s).take (i + 1)))) → T 6 = .v (.int .i64 i) → T 7 = .v (.int .i64 0) →
          GQ 73 0 (LinesN s wd i wd.length) T [some ⟨9, 1, strs (linesB s)⟩] :=
        fun T t0 t3 t4 t5 t6 t7 => ⟨_, _, Ghost.refl, 0, by simp, by omega, t0, t3, t4, t5, t6, t7, rfl⟩
      by_cases h0 : i = 0
      · have h00 : ¬ (0 : Int) < (i : Int) := by omega
        rw [if_pos (htn.2 h0)] at hsn
        rw [htn.2 h0] at t5
        rw [hsn] at hji1
        have t5' : T 5 = .v (str []) := t5
        simp (config := { decide := true }) only [go_sem, Nat.reduceAdd, Nat.reduceSub, Nat.reduceMul, Nat.reduceBEq, reduceIte, reduceCtorEq, t0, t3, t4, t5', t6, hlt', hx, h00]
        first | refine And.intro (by omega) ?_ | skip
        refine HW.loopG (LinesN s wd i) wd.length (entry _ ?_ ?_ ?_ ?_ ?_ ?_) ?_
        · simp (config := { decide := true }) only [go_sem, Nat.reduceBEq, reduceIte, t0]
        · simp (config := { decide := true }) only [go_sem, Nat.reduceBEq, reduceIte, t3]
        · simp (config := { decide := true }) only [go_sem, Nat.reduceBEq, reduceIte, t4]
        · rw [hsn]; simp (config := { decide := true }) only [go_sem, Nat.reduceBEq, reduceIte]; try simp
        · simp (config := { decide := true }) only [go_sem, Nat.reduceBEq, reduceIte, t6]
        · simp (config := { decide := true }) only [go_sem, Nat.reduceBEq, reduceIte]
        · rintro k T H ⟨j, rfl, hj', t0, t3, t4, t5, t6, t7, rfl⟩
          refine HW.run 200 (by kernel_rfl) ?_
          rcases Nat.lt_or_ge j wd.length with hlj | hgj
          · have hlj' : (j : Int) < (wd.length : Int) := by omega
            have hxj : wd[j]? = some wd[j] := by simp [hlj]
            have hne : wd[j] ≠ 10 := fun e => hw (e ▸ List.getElem_mem hlj)
            have hne' : ¬ ((wd[j].toNat : Int) = 10) := fun e => hne (UInt8.toNat_inj.1 (by have : (10 : UInt8).toNat = 10 := rfl; omega))
            simp (config := { decide := true }) only [go_sem, Nat.reduceAdd, Nat.reduceSub, Nat.reduceMul, Nat.reduceBEq, reduceIte, reduceCtorEq, t0, t3, t4, t5, t6, t7, hlj', hxj, hlt', hx, hne']
            refine ⟨_, _, Ghost.refl, wd.length - (j + 1), by omega, j + 1, rfl, by omega, ?_, ?_, ?_, ?_, ?_, ?_, rfl⟩
            all_goals simp (config := { decide := true }) only [go_sem, Nat.reduceBEq, reduceIte, t0, t3, t4, t5, t6]
            rw [w64 (by omega) (by omega)]; rfl
          · have hgj' : ¬ (j : Int) < (wd.length : Int) := by omega
            simp (config := { decide := true }) only [go_sem, Nat.reduceAdd, Nat.reduceSub, Nat.reduceMul, Nat.reduceBEq, reduceIte, reduceCtorEq, t0, t3, t4, t5, t6, t7, hgj', hlt', hx]
            refine ⟨_, _, Ghost.refl, (linesB s).length - (i + 1), by omega, i + 1, rfl, by omega, ?_, ?_, ?_, ?_, ?_, rfl⟩
            all_goals simp (config := { decide := true }) only [go_sem, Nat.reduceBEq, reduceIte, t0, t3, t4, t5, t6]
            rw [w64 (by omega) (by omega)]; rfl
      · have h00 : (0 : Int) < (i : Int) := by omega
        rw [if_neg (fun e => h0 (htn.1 e))] at hsn
        rw [hsn] at hji1
        simp only [List.length_append, List.length_cons] at hji1
        simp (config := { decide := true }) only [go_sem, Nat.reduceAdd, Nat.reduceSub, Nat.reduceMul, Nat.reduceBEq, reduceIte, reduceCtorEq, t0, t3, t4, t5, t6, hlt', hx, h00]
        refine ⟨by omega, by omega, ?_⟩
        refine HW.loopG (LinesN s wd i) wd.length (entry _ ?_ ?_ ?_ ?_ ?_ ?_) ?_
        · simp (config := { decide := true }) only [go_sem, Nat.reduceBEq, reduceIte, t0]
        · simp (config := { decide := true }) only [go_sem, Nat.reduceBEq, reduceIte, t3]
        · simp (config := { decide := true }) only [go_sem, Nat.reduceBEq, reduceIte, t4]
        · rw [hsn]; simp (config := { decide := true }) only [go_sem, Nat.reduceBEq, reduceIte]; try simp
        · simp (config := { decide := true }) only [go_sem, Nat.reduceBEq, reduceIte, t6]
        · simp (config := { decide := true }) only [go_sem, Nat.reduceBEq, reduceIte]
        · rintro k T H ⟨j, rfl, hj', t0, t3, t4, t5, t6, t7, rfl⟩
          refine HW.run 200 (by kernel_rfl) ?_
          rcases Nat.lt_or_ge j wd.length with hlj | hgj
          · have hlj' : (j : Int) < (wd.length : Int) := by omega
            have hxj : wd[j]? = some wd[j] := by simp [hlj]
            have hne : wd[j] ≠ 10 := fun e => hw (e ▸ List.getElem_mem hlj)
            have hne' : ¬ ((wd[j].toNat : Int) = 10) := fun e => hne (UInt8.toNat_inj.1 (by have : (10 : UInt8).toNat = 10 := rfl; omega))
            simp (config := { decide := true }) only [go_sem, Nat.reduceAdd, Nat.reduceSub, Nat.reduceMul, Nat.reduceBEq, reduceIte, reduceCtorEq, t0, t3, t4, t5, t6, t7, hlj', hxj, hlt', hx, hne']
            refine ⟨_, _, Ghost.refl, wd.length - (j + 1), by omega, j + 1, rfl, by omega, ?_, ?_, ?_, ?_, ?_, ?_, rfl⟩
            all_goals simp (config := { decide := true }) only [go_sem, Nat.reduceBEq, reduceIte, t0, t3, t4, t5, t6]
            rw [w64 (by omega) (by omega)]; rfl
          · have hgj' : ¬ (j : Int) < (wd.length : Int) := by omega
            simp (config := { decide := true }) only [go_sem, Nat.reduceAdd, Nat.reduceSub, Nat.reduceMul, Nat.reduceBEq, reduceIte, reduceCtorEq, t0, t3, t4, t5, t6, t7, hgj', hlt', hx]
            refine ⟨_, _, Ghost.refl, (linesB s).length - (i + 1), by omega, i + 1, rfl, by omega, ?_, ?_, ?_, ?_, ?_, rfl⟩
            all_goals simp (config := { decide := true }) only [go_sem, Nat.reduceBEq, reduceIte, t0, t3, t4, t5, t6]
            rw [w64 (by omega) (by omega)]; rfl
    · have hge' : ¬ (i : Int) < ((linesB s).length : Int) := by omega
      have ei : i = (linesB s).length := by omega
      subst ei
      rw [List.take_length] at t5
      rcases hj with ⟨hA, hA2⟩ | hB
      · rw [hA] at t5
        by_cases hn : linesB s = []
        · have hlen : ((linesB s).length : Int) = 0 := by rw [hn]; rfl
          simp (config := { decide := true }) only [go_sem, Nat.reduceAdd, Nat.reduceSub, Nat.reduceMul, Nat.reduceBEq, reduceIte, reduceCtorEq, t0, t3, t4, t5, t6, hlen, Int.lt_irrefl]
        · have hlast : (linesB s).getLast? ≠ some [] := hA2.resolve_left hn
          have hpos : 0 < (linesB s).length := List.length_pos_iff.2 hn
          have hlen : ¬ ((linesB s).length : Int) = 0 := by omega
          have e1 : IntKind.i64.wrap (((linesB s).length : Int) - 1) = (((linesB s).length - 1 : Nat) : Int) := by rw [w64 (by omega) (by omega)]; omega
          have e2 : (linesB s)[(linesB s).length - 1]? = some ((linesB s).getLast hn) := by rw [List.getLast_eq_getElem]; simp [hpos]
          have e3 : ¬ (linesB s).getLast hn = [] := by rw [List.getLast?_eq_some_getLast hn] at hlast; simpa using hlast
          simp (config := { decide := true }) only [go_sem, Nat.reduceAdd, Nat.reduceSub, Nat.reduceMul, Nat.reduceBEq, reduceIte, reduceCtorEq, t0, t3, t4, t5, t6, hge', hlen, e1, e2, e3]
          first | omega | skip
      · obtain ⟨u, hu⟩ : ∃ u, joinB (linesB s) = u := ⟨_, rfl⟩
        rw [hu] at t5 hB hjl
        have hne : ¬ u = s := fun e => by rw [e] at hB; have := congrArg List.length hB; simp at this
        simp (config := { decide := true }) only [go_sem, Nat.reduceAdd, Nat.reduceSub, Nat.reduceMul, Nat.reduceBEq, reduceIte, reduceCtorEq, t0, t3, t4, t5, t6, hge', hne, hB]
        first | omega | skip
end Go.Proofs.Ytdajmbjgbpbidaa
