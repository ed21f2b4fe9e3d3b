/- Parts of the proof: Of, Ok, Ol, Om, On, Oo, Yp. -/
import Derived.Test.YtmapdjdnnhlpiaaGreatDoorZq13
import Derived.Test.YtmapdjdnnhlpiaaGreatDoorZq07
import Derived.Test.YtmapdjdnnhlpiaaGreatDoorZq06
import Derived.Test.YtmapdjdnnhlpiaaGreatDoorZq09
import Derived.Test.YtmapdjdnnhlpiaaGreatDoorProg
import Derived.KernelRfl
set_option linter.unusedSectionVars false
set_option linter.unusedVariables false
set_option linter.unusedSimpArgs false
namespace Go.Proofs.YtmapdjdnnhlpiaaGreatDoor
open Go.RowKit
set_option maxRecDepth 8000
theorem insS_len (s : List UInt8) : ∀ l, (insS l s).length ≤ l.length + 1
  | [] => by simp [insS]
  | x :: r => by
    have := insS_len s r
    unfold insS
    split
    · split <;> simp
    · simp; omega
theorem putS_len (l : List (List UInt8)) (s : List UInt8) : (putS l s).length ≤ l.length + 1 := by
  unfold putS
  split
  · omega
  · exact insS_len s l
theorem putsF_snoc (out l : List (List UInt8)) (x : List UInt8) : putsF out (l ++ [x]) = putS (putsF out l) x := by simp [putsF, List.foldl_append]
theorem putsF_len : ∀ (l out : List (List UInt8)), (putsF out l).length ≤ out.length + l.length
  | [], out => by simp [putsF]
  | x :: l, out => by
    have h1 := putsF_len l (putS out x)
    have h2 := putS_len out x
    show (putsF (putS out x) l).length ≤ _
    simp only [List.length_cons]; omega
theorem refPutSl (l : List (List UInt8)) (s : List UInt8) (hl : l.length ≤ 1000000) : HFn Tryz.prog 51 [.sl (strs l), .v (str s)] (.sl (strs (putS l s))) := HFn.shut (refPutS l s hl) (by simp only [fzo_owStrs])
def rawL (f : Fl) : List (List UInt8) := f.init.map (·.1) ++ f.thr.flatMap (fun l => l.map (·.loc)) ++ condL f.cond
set_option maxHeartbeats 16000000 in
theorem refLocs (f : Fl) (hB : (rawL f).length ≤ 400000) (ht : f.thr.length ≤ 400000) (hc : f.cond.length ≤ 400000) : HFn Tryz.prog 34 [fileH f] (.sl (strs (putsF [] (rawL f)))) := by
  unfold rawL at hB ⊢
  simp only [List.length_append, List.length_map] at hB
  refine HCalls_body (fn := Tryz.f34) 76 [2] (by kernel_rfl) rfl (by kernel_rfl) (HW.run 400 (by kernel_rfl) ?_)
  simp (config := { decide := true }) only [go_sem, Int.reduceToNat, Nat.reduceAdd, Nat.reduceSub, Nat.reduceMul, Nat.reduceBEq, reduceIte, reduceCtorEq]
  refine HW.loopG (fun k T H => ∃ (i : Nat), k = f.init.length - i ∧ i ≤ f.init.length ∧ T 1 = .pt 0 1 0 0 ∧ T 3 = .sl (strs (putsF [] ((f.init.take i).map (·.1)))) ∧ T 4 = .v (.int .i64 i) ∧ H = [some (fileO f)]) f.init.length ⟨_, _, Ghost.tmp 3 (.sl []) Conv.nilSl, 0, rfl, by omega, rfl, rfl, rfl, rfl⟩ ?_
  rintro k T H ⟨i, rfl, hil, h1, h3, h4, rfl⟩
  refine HW.run 200 (by kernel_rfl) ?_
  by_cases hlt : i < f.init.length
  · have hlt' : ((i : Int) < (f.init.length : Int)) = True := by simp only [eq_iff_iff, iff_true]; omega
    have hx : f.init[i]? = some f.init[i] := List.getElem?_eq_getElem hlt
    have htk : f.init.take (i + 1) = f.init.take i ++ [f.init[i]] := by rw [List.take_add_one, hx]; rfl
    generalize f.init[i] = c at hx htk
    have hle := putsF_len ((f.init.take i).map (·.1)) []
    rw [List.length_map, List.length_take, List.length_nil] at hle
    simp (config := { decide := true }) only [go_sem, Int.reduceToNat, Nat.reduceAdd, Nat.reduceSub, Nat.reduceMul, Nat.reduceBEq, reduceIte, reduceCtorEq, h1, h3, h4, hlt', hx, crow]
    repeat (with_reducible refine And.intro ?_ ?_; · (with_reducible and_intros) <;> omega)
    refine callX_nm (refPutSl (putsF [] ((f.init.take i).map (·.1))) c.1 (by omega)) rfl rfl ?_
    simp (config := { decide := true }) only [go_sem, Int.reduceToNat, Nat.reduceAdd, Nat.reduceSub, Nat.reduceMul, Nat.reduceBEq, reduceIte, reduceCtorEq, h1, h3, h4]
    refine ⟨_, _, Ghost.refl, f.init.length - (i + 1), by omega, i + 1, rfl, by omega, ?_, ?_, ?_, rfl⟩
    all_goals first | (simp (config := { decide := true }) only [go_sem, Nat.reduceBEq, reduceIte, h1]; done) | (simp (config := { decide := true }) only [go_sem, Nat.reduceBEq, reduceIte]; rw [w64 (by omega) (by omega)]; rfl) | (simp (config := { decide := true }) only [go_sem, Nat.reduceBEq, reduceIte]; rw [htk, List.map_append, List.map_cons, List.map_nil, putsF_snoc])
  · have hlt' : ((i : Int) < (f.init.length : Int)) = False := by simp only [eq_iff_iff, iff_false]; omega
    obtain rfl : i = f.init.length := by omega
    rw [List.take_length] at h3
    simp (config := { decide := true }) only [go_sem, Int.reduceToNat, Nat.reduceAdd, Nat.reduceSub, Nat.reduceMul, Nat.reduceBEq, reduceIte, reduceCtorEq, h1, h3, h4, hlt']
    have hAl : (f.init.map (·.1)).length = f.init.length := List.length_map _
    generalize f.init.map (·.1) = A at h3 hAl ⊢
    refine HW.loopG (fun k T H => ∃ (i : Nat), k = f.thr.length - i ∧ i ≤ f.thr.length ∧ T 1 = .pt 0 1 0 0 ∧ T 3 = .sl (strs (putsF [] (A ++ (f.thr.take i).flatMap fun l => l.map (·.loc)))) ∧ T 5 = .v (.int .i64 i) ∧ H = [some (fileO f)]) f.thr.length ⟨_, _, Ghost.refl, 0, rfl, by omega, by simp (config := { decide := true }) only [go_sem, Nat.reduceBEq, reduceIte, h1], by simp (config := { decide := true }) only [go_sem, Nat.reduceBEq, reduceIte, h3, List.take_zero, List.flatMap_nil, List.append_nil], rfl, rfl⟩ ?_
    clear h1 h3 h4
    rintro k T H ⟨i, rfl, hil, h1, h3, h5, rfl⟩
    refine HW.run 200 (by kernel_rfl) ?_
    by_cases hlt : i < f.thr.length
    · have hlt' : ((i : Int) < (f.thr.length : Int)) = True := by simp only [eq_iff_iff, iff_true]; omega
      have hx : f.thr[i]? = some f.thr[i] := List.getElem?_eq_getElem hlt
      have htk : f.thr.take (i + 1) = f.thr.take i ++ [f.thr[i]] := by rw [List.take_add_one, hx]; rfl
      have hfl : ((f.thr.take (i + 1)).flatMap fun l => l.map (·.loc)).length ≤ (f.thr.flatMap fun l => l.map (·.loc)).length := by
        have : (f.thr.flatMap fun l => l.map (·.loc)) = ((f.thr.take (i + 1)).flatMap fun l => l.map (·.loc)) ++ ((f.thr.drop (i + 1)).flatMap fun l => l.map (·.loc)) := by rw [← List.flatMap_append, List.take_append_drop]
        rw [this, List.length_append]; omega
      generalize f.thr[i] = l at hx htk
      rw [htk, List.flatMap_append, List.length_append] at hfl
      generalize hBB : ((f.thr.take i).flatMap fun l => l.map (·.loc)) = B at hfl h3
      have hfl' : B.length + l.length ≤ (f.thr.flatMap fun l => l.map (·.loc)).length := by simpa using hfl
      simp (config := { decide := true }) only [go_sem, Int.reduceToNat, Nat.reduceAdd, Nat.reduceSub, Nat.reduceMul, Nat.reduceBEq, reduceIte, reduceCtorEq, h1, h3, h5, hlt', hx, tdrow]
      refine HW.loopG (fun k T H => ∃ (j : Nat), k = l.length - j ∧ j ≤ l.length ∧ T 1 = .pt 0 1 0 0 ∧ T 3 = .sl (strs (putsF [] (A ++ B ++ (l.take j).map (·.loc)))) ∧ T 5 = .v (.int .i64 i) ∧ T 6 = .v (.int .i64 j) ∧ H = [some (fileO f)]) l.length ⟨_, _, Ghost.refl, 0, rfl, by omega, by simp (config := { decide := true }) only [go_sem, Nat.reduceBEq, reduceIte, h1], by simp (config := { decide := true }) only [go_sem, Nat.reduceBEq, reduceIte, h3, List.take_zero, List.map_nil, List.append_nil], by simp (config := { decide := true }) only [go_sem, Nat.reduceBEq, reduceIte, h5], rfl, rfl⟩ ?_
      clear h1 h3 h5
      rintro k T H ⟨j, rfl, hjl, h1, h3, h5, h6, rfl⟩
      refine HW.run 200 (by kernel_rfl) ?_
      by_cases hlt2 : j < l.length
      · have hlt2' : ((j : Int) < (l.length : Int)) = True := by simp only [eq_iff_iff, iff_true]; omega
        have hx2 : l[j]? = some l[j] := List.getElem?_eq_getElem hlt2
        have htk2 : l.take (j + 1) = l.take j ++ [l[j]] := by rw [List.take_add_one, hx2]; rfl
        generalize l[j] = x at hx2 htk2
        have hle := putsF_len (A ++ B ++ (l.take j).map (·.loc)) []
        simp only [List.length_append, List.length_map, List.length_take, List.length_nil] at hle
        simp (config := { decide := true }) only [go_sem, Int.reduceToNat, Nat.reduceAdd, Nat.reduceSub, Nat.reduceMul, Nat.reduceBEq, reduceIte, reduceCtorEq, h1, h3, h5, h6, hlt', hx, tdrow, hlt2', hx2, lnrow]
        repeat (with_reducible refine And.intro ?_ ?_; · (with_reducible and_intros) <;> omega)
        refine callX_nm (refPutSl (putsF [] (A ++ B ++ (l.take j).map (·.loc))) x.loc (by omega)) rfl rfl ?_
        simp (config := { decide := true }) only [go_sem, Int.reduceToNat, Nat.reduceAdd, Nat.reduceSub, Nat.reduceMul, Nat.reduceBEq, reduceIte, reduceCtorEq, h1, h3, h5, h6]
        refine ⟨_, _, Ghost.refl, l.length - (j + 1), by omega, j + 1, rfl, by omega, ?_, ?_, ?_, ?_, rfl⟩
        all_goals first | (simp (config := { decide := true }) only [go_sem, Nat.reduceBEq, reduceIte, h1, h5]; done) | (simp (config := { decide := true }) only [go_sem, Nat.reduceBEq, reduceIte]; rw [w64 (by omega) (by omega)]; rfl) | (simp (config := { decide := true }) only [go_sem, Nat.reduceBEq, reduceIte]; rw [htk2, List.map_append, List.map_cons, List.map_nil, ← List.append_assoc, putsF_snoc])
      · have hlt2' : ((j : Int) < (l.length : Int)) = False := by simp only [eq_iff_iff, iff_false]; omega
        obtain rfl : j = l.length := by omega
        rw [List.take_length] at h3
        simp (config := { decide := true }) only [go_sem, Int.reduceToNat, Nat.reduceAdd, Nat.reduceSub, Nat.reduceMul, Nat.reduceBEq, reduceIte, reduceCtorEq, h1, h3, h5, h6, hlt', hx, tdrow, hlt2']
        repeat (with_reducible refine And.intro ?_ ?_; · (with_reducible and_intros) <;> omega)
        refine ⟨_, _, Ghost.refl, f.thr.length - (i + 1), by omega, i + 1, rfl, by omega, ?_, ?_, ?_, rfl⟩
        all_goals first | (simp (config := { decide := true }) only [go_sem, Nat.reduceBEq, reduceIte, h1]; done) | (simp (config := { decide := true }) only [go_sem, Nat.reduceBEq, reduceIte]; rw [w64 (by omega) (by omega)]; rfl) | (simp (config := { decide := true }) only [go_sem, Nat.reduceBEq, reduceIte, h3]; rw [htk, List.flatMap_append, hBB]; simp)
    · have hlt' : ((i : Int) < (f.thr.length : Int)) = False := by simp only [eq_iff_iff, iff_false]; omega
      obtain rfl : i = f.thr.length := by omega
      rw [List.take_length] at h3
      simp (config := { decide := true }) only [go_sem, Int.reduceToNat, Nat.reduceAdd, Nat.reduceSub, Nat.reduceMul, Nat.reduceBEq, reduceIte, reduceCtorEq, h1, h3, h5, hlt']
      generalize hA2 : (A ++ f.thr.flatMap fun l => l.map (·.loc)) = A2 at h3 ⊢
      have hA2l : A2.length + (condL f.cond).length ≤ 400000 := by rw [← hA2, List.length_append]; omega
      refine HW.loopG (fun k T H => ∃ (i : Nat), k = f.cond.length - i ∧ i ≤ f.cond.length ∧ T 1 = .pt 0 1 0 0 ∧ T 3 = .sl (strs (putsF [] (A2 ++ condL (f.cond.take i)))) ∧ T 7 = .v (.int .i64 i) ∧ H = [some (fileO f)]) f.cond.length ⟨_, _, Ghost.refl, 0, rfl, by omega, by simp (config := { decide := true }) only [go_sem, Nat.reduceBEq, reduceIte, h1], ?_, rfl, rfl⟩ ?_
      · simp (config := { decide := true }) only [go_sem, Nat.reduceBEq, reduceIte, h3]
        simp [condL]
      clear h1 h3 h5
      rintro k T H ⟨i, rfl, hil, h1, h3, h7, rfl⟩
      refine HW.run 200 (by kernel_rfl) ?_
      by_cases hlt : i < f.cond.length
      · have hlt' : ((i : Int) < (f.cond.length : Int)) = True := by simp only [eq_iff_iff, iff_true]; omega
        have hx : f.cond[i]? = some f.cond[i] := List.getElem?_eq_getElem hlt
        have htk : f.cond.take (i + 1) = f.cond.take i ++ [f.cond[i]] := by rw [List.take_add_one, hx]; rfl
        have hjl2 := condL_len (f.cond.take i)
        rw [List.length_take] at hjl2
        generalize f.cond[i] = x at hx htk
        have hs := condL_snoc (f.cond.take i) x
        rw [← htk] at hs
        have hle := putsF_len (A2 ++ condL (f.cond.take i)) []
        simp only [List.length_append, List.length_nil] at hle
        by_cases hx0 : x.th = -1
        · rw [if_pos hx0] at hs
          simp (config := { decide := true }) only [go_sem, Int.reduceToNat, Nat.reduceAdd, Nat.reduceSub, Nat.reduceMul, Nat.reduceBEq, reduceIte, reduceCtorEq, h1, h3, h7, hlt', hx, arow, hx0]
          repeat (with_reducible refine And.intro ?_ ?_; · (with_reducible and_intros) <;> omega)
          refine callX_nm (refPutSl (putsF [] (A2 ++ condL (f.cond.take i))) x.nm (by omega)) rfl rfl ?_
          simp (config := { decide := true }) only [go_sem, Int.reduceToNat, Nat.reduceAdd, Nat.reduceSub, Nat.reduceMul, Nat.reduceBEq, reduceIte, reduceCtorEq, h1, h3, h7]
          refine ⟨_, _, Ghost.refl, f.cond.length - (i + 1), by omega, i + 1, rfl, by omega, ?_, ?_, ?_, rfl⟩
          all_goals first | (simp (config := { decide := true }) only [go_sem, Nat.reduceBEq, reduceIte, h1]; done) | (simp (config := { decide := true }) only [go_sem, Nat.reduceBEq, reduceIte]; rw [w64 (by omega) (by omega)]; rfl) | (simp (config := { decide := true }) only [go_sem, Nat.reduceBEq, reduceIte]; rw [hs, ← List.append_assoc, putsF_snoc])
        · rw [if_neg hx0] at hs
          simp (config := { decide := true }) only [go_sem, Int.reduceToNat, Nat.reduceAdd, Nat.reduceSub, Nat.reduceMul, Nat.reduceBEq, reduceIte, reduceCtorEq, h1, h3, h7, hlt', hx, arow, hx0]
          repeat (with_reducible refine And.intro ?_ ?_; · (with_reducible and_intros) <;> omega)
          refine ⟨_, _, Ghost.refl, f.cond.length - (i + 1), by omega, i + 1, rfl, by omega, ?_, ?_, ?_, rfl⟩
          all_goals first | (simp (config := { decide := true }) only [go_sem, Nat.reduceBEq, reduceIte, h1]; done) | (simp (config := { decide := true }) only [go_sem, Nat.reduceBEq, reduceIte]; rw [w64 (by omega) (by omega)]; rfl) | (simp (config := { decide := true }) only [go_sem, Nat.reduceBEq, reduceIte, h3]; rw [hs])
      · have hlt' : ((i : Int) < (f.cond.length : Int)) = False := by simp only [eq_iff_iff, iff_false]; omega
        obtain rfl : i = f.cond.length := by omega
        rw [List.take_length] at h3
        simp (config := { decide := true }) only [go_sem, Int.reduceToNat, Nat.reduceAdd, Nat.reduceSub, Nat.reduceMul, Nat.reduceBEq, reduceIte, reduceCtorEq, h1, h3, h7, hlt']
end Go.Proofs.YtmapdjdnnhlpiaaGreatDoor
namespace Go.Proofs.YtmapdjdnnhlpiaaGreatDoor
open Go.RowKit
set_option maxRecDepth 8000
structure OkR (f : Fl) : Prop where
  init : f.init.length ≤ 100000
  thr : f.thr.length ≤ 100000
  cond : f.cond.length ≤ 100000
  len : ∀ l ∈ f.thr, l.length ≤ 100000
  raw : (rawL f).length ≤ 400000
  nm : f.name.length ≤ 1000000
  ci : ∀ c ∈ f.init, c.1.length ≤ 1000000
  ln : ∀ l ∈ f.thr, ∀ x ∈ l, x.rg.length ≤ 1000000 ∧ x.loc.length ≤ 1000000 ∧ x.lab.length ≤ 1000000
  ca : ∀ a ∈ f.cond, a.nm.length ≤ 1000000
theorem checkF_1 {f : Fl} {w : Int × Int × Int} (h : headO f = some w) : checkF f = w := by unfold checkF allO; rw [h]; rfl
theorem checkF_2 {f : Fl} {w : Int × Int × Int} (h : headO f = none) (h2 : thsO 0 f.thr = some w) : checkF f = w := by unfold checkF allO; rw [h, h2]; rfl
theorem checkF_3 {f : Fl} {w : Int × Int × Int} (h : headO f = none) (h2 : thsO 0 f.thr = none) (h3 : conO f = some w) : checkF f = w := by unfold checkF allO; rw [h, h2, h3]; rfl
theorem checkF_4 {f : Fl} (h : headO f = none) (h2 : thsO 0 f.thr = none) (h3 : conO f = none) : checkF f = if 4 < (foldC [] (locL f)).length then (-1, -1, 5) else (0, 0, 0) := by
  unfold checkF allO; rw [h, h2, h3]
  unfold locO
  by_cases h5 : 4 < (foldC [] (locL f)).length <;> simp [h5]
theorem headO_0 {f : Fl} (h : headE f = 0) : headO f = none := by unfold headO; rw [if_pos h]
theorem thsO_hit {k : Nat} {l : List LT} {r : List (List LT)} {i : Nat} {e : Int} (h : thrE [] l = some (i, e)) : thsO k (l :: r) = some ((k : Int), (i : Int), e) := by
  unfold thsO thrO; rw [h]; rfl
theorem thsO_miss {k : Nat} {l : List LT} {r : List (List LT)} (h : thrE [] l = none) : thsO k (l :: r) = thsO (k + 1) r := by
  rw [thsO]; unfold thrO; rw [h]; rfl
theorem iniE_names : ∀ (c : List (List UInt8 × Int)) (last : List UInt8), iniE last c = 0 → ∀ x ∈ c, nameB x.1 = true
  | [], _, _, x, hx => by cases hx
  | a :: c, last, h, x, hx => by
    rw [iniE] at h
    split at h
    · cases h
    · rename_i hn
      split at h
      · cases h
      · rcases List.mem_cons.1 hx with rfl | hx
        · simpa using hn
        · exact iniE_names c _ h x hx
theorem conE_asked (n : Nat) : ∀ (c : List AT) (i : Nat), conE n i c = none → ∀ a ∈ c, askedB a.th a.nm = true ∧ a.th < (n : Int)
  | [], _, _, a, ha => by cases ha
  | x :: c, i, h, a, ha => by
    rw [conE] at h
    split at h
    · cases h
    · split at h
      · cases h
      · rename_i hq
        split at h
        · cases h
        · rcases List.mem_cons.1 ha with rfl | ha
          · exact ⟨by simpa using hq, by omega⟩
          · exact conE_asked n c _ h a ha
theorem headE_init {f : Fl} (h : headE f = 0) : iniE [] f.init = 0 ∧ nameB f.name = true ∧ 1 ≤ f.thr.length ∧ f.thr.length ≤ 3 := by
  unfold headE at h
  split at h
  · cases h
  · rename_i hn
    split at h
    · exact absurd h (by assumption)
    · rename_i hi
      split at h
      · cases h
      · exact ⟨by simpa using hi, by simpa using hn, by omega, by omega⟩
theorem locs_len {f : Fl} (h1 : headE f = 0) (h3 : conO f = none) : (putsF [] (rawL f)).length = (foldC [] (locL f)).length := by
  refine putsF_length _ _ fun y => ?_
  have hi := iniE_names _ _ (headE_init h1).1
  have hc : conE f.thr.length 0 f.cond = none := by
    unfold conO at h3
    cases h : conE f.thr.length 0 f.cond with
    | none => rfl
    | some p => rw [h] at h3; cases h3
  have ha := conE_asked _ _ _ hc
  rw [locL_eq]
  unfold rawL
  simp only [List.mem_append, List.mem_map, List.mem_flatMap]
  constructor
  · rintro ((⟨c, hc, rfl⟩ | ⟨l, hl, hy⟩) | hy)
    · refine ⟨fun e => ?_, .inl (.inl ⟨c, hc, rfl⟩)⟩
      have := hi c hc
      rw [e, name_nil] at this; cases this
    · have := List.mem_filter.1 hy
      refine ⟨by simpa using this.2, .inl (.inr ⟨l, hl, List.mem_map.1 this.1⟩)⟩
    · refine ⟨fun e => ?_, .inr hy⟩
      obtain ⟨a, hm, rfl⟩ := List.mem_map.1 hy
      exact (asked_nm (ha a (List.mem_filter.1 hm).1).1).1 e
  · rintro ⟨hne, ((h | ⟨l, hl, hy⟩) | hy)⟩
    · exact .inl (.inl h)
    · exact .inl (.inr ⟨l, hl, List.mem_filter.2 ⟨List.mem_map.2 hy, by simpa using hne⟩⟩)
    · exact .inr hy
set_option maxHeartbeats 16000000 in
theorem refCheck4 (f : Fl) (ok : OkR f) : HFn Tryz.prog 18 [fileH f] (.tu [.v (.int .i64 (checkF f).1), .v (.int .i64 (checkF f).2.1), .v (.int .i64 (checkF f).2.2)]) := by
  have k1 := ok.init
  have k2 := ok.thr
  have k3 := ok.cond
  have hH := refHead4 f (by omega) (by omega) ok.nm ok.ci
  by_cases e1 : headE f = 0
  case neg =>
    rw [checkF_1 (f := f) (w := (-1, -1, headE f)) (by unfold headO; rw [if_neg e1])]
    refine HCalls_body (fn := Tryz.f18) 86 [2, 3, 4] (by kernel_rfl) rfl (by kernel_rfl) (HW.run 400 (by kernel_rfl) ?_)
    simp (config := { decide := true }) only [go_sem, Int.reduceToNat, Nat.reduceAdd, Nat.reduceSub, Nat.reduceMul, Nat.reduceBEq, reduceIte, reduceCtorEq]
    refine callX_nm (hH) rfl rfl ?_
    simp (config := { decide := true }) only [go_sem, Int.reduceToNat, Nat.reduceAdd, Nat.reduceSub, Nat.reduceMul, Nat.reduceBEq, reduceIte, reduceCtorEq, e1]
  rw [e1] at hH
  have e1' := headO_0 e1
  have hL := HFn.shut (refLocs f ok.raw (by omega) (by omega)) (R' := .sl (strs (putsF [] (rawL f)))) (by simp only [fzo, strs_fzoR])
  have hLl := fun h3 => locs_len (f := f) e1 h3
  have hR1 := fun w h2 => checkF_2 (f := f) (w := w) e1' h2
  have hR2 := fun w h2 h3 => checkF_3 (f := f) (w := w) e1' h2 h3
  have hR3 := fun h2 h3 => checkF_4 (f := f) e1' h2 h3
  generalize checkF f = R at hR1 hR2 hR3 ⊢
  refine HCalls_body (fn := Tryz.f18) 86 [2, 3, 4] (by kernel_rfl) rfl (by kernel_rfl) (HW.run 400 (by kernel_rfl) ?_)
  simp (config := { decide := true }) only [go_sem, Int.reduceToNat, Nat.reduceAdd, Nat.reduceSub, Nat.reduceMul, Nat.reduceBEq, reduceIte, reduceCtorEq]
  refine callX_nm (hH) rfl rfl ?_
  simp (config := { decide := true }) only [go_sem, Int.reduceToNat, Nat.reduceAdd, Nat.reduceSub, Nat.reduceMul, Nat.reduceBEq, reduceIte, reduceCtorEq]
  refine HW.loopG (fun k T H => ∃ (i : Nat), k = f.thr.length - i ∧ i ≤ f.thr.length ∧ thsO 0 f.thr = thsO i (f.thr.drop i) ∧ T 1 = .pt 0 1 0 0 ∧ T 6 = .v (.int .i64 i) ∧ H = [some (fileO f)]) f.thr.length ⟨_, _, Ghost.refl, 0, rfl, by omega, rfl, rfl, rfl, rfl⟩ ?_
  rintro k T H ⟨i, rfl, hil, hI, h1, h6, rfl⟩
  refine HW.run 200 (by kernel_rfl) ?_
  by_cases hlt : i < f.thr.length
  · have hlt' : ((i : Int) < (f.thr.length : Int)) = True := by simp only [eq_iff_iff, iff_true]; omega
    have hx : f.thr[i]? = some f.thr[i] := List.getElem?_eq_getElem hlt
    have hdr : f.thr.drop i = f.thr[i] :: f.thr.drop (i + 1) := List.drop_eq_getElem_cons hlt
    have hxl := ok.len _ (List.getElem_mem hlt)
    have hxs := ok.ln _ (List.getElem_mem hlt)
    rw [hdr] at hI
    generalize f.thr[i] = l at hx hI hxl hxs
    simp (config := { decide := true }) only [go_sem, Int.reduceToNat, Nat.reduceAdd, Nat.reduceSub, Nat.reduceMul, Nat.reduceBEq, reduceIte, reduceCtorEq, h1, h6, hlt']
    refine HW.loopG (fun k T H => ∃ (j : Nat), k = l.length - j ∧ j ≤ l.length ∧ thrE [] l = thrE (l.take j) (l.drop j) ∧ T 1 = .pt 0 1 0 0 ∧ T 6 = .v (.int .i64 i) ∧ T 7 = .v (.int .i64 j) ∧ H = [some (fileO f)]) l.length ⟨_, _, Ghost.refl, 0, rfl, by omega, rfl, by simp (config := { decide := true }) only [go_sem, Nat.reduceBEq, reduceIte, h1], by simp (config := { decide := true }) only [go_sem, Nat.reduceBEq, reduceIte, h6], rfl, rfl⟩ ?_
    clear h1 h6
    rintro k T H ⟨j, rfl, hjl, hJ, h1, h6, h7, rfl⟩
    refine HW.run 200 (by kernel_rfl) ?_
    by_cases hjt : j < l.length
    · have hjt' : ((j : Int) < (l.length : Int)) = True := by simp only [eq_iff_iff, iff_true]; omega
      have hy : l[j]? = some l[j] := List.getElem?_eq_getElem hjt
      have hdj : l.drop j = l[j] :: l.drop (j + 1) := List.drop_eq_getElem_cons hjt
      have htk : l.take (j + 1) = l.take j ++ [l[j]] := by rw [List.take_add_one, hy]; rfl
      obtain ⟨g1, g2, g3⟩ := hxs _ (List.getElem_mem hjt)
      rw [hdj, thrE] at hJ
      generalize l[j] = x at hy hJ htk g1 g2 g3
      have hA := refLineOne l j x hy (by omega) g1 g2 g3
      have hz : (l.take j).length = j := by rw [List.length_take]; omega
      simp (config := { decide := true }) only [go_sem, Int.reduceToNat, Nat.reduceAdd, Nat.reduceSub, Nat.reduceMul, Nat.reduceBEq, reduceIte, reduceCtorEq, h1, h6, h7, hlt', hx, tdrow, hjt']
      repeat (with_reducible refine And.intro ?_ ?_; · (with_reducible and_intros) <;> omega)
      by_cases he : lineE (l.take j) x (l.drop (j + 1)) = 0
      · rw [if_pos he, ← htk] at hJ
        rw [he] at hA
        refine callX_nm (hA) rfl rfl ?_
        simp (config := { decide := true }) only [go_sem, Int.reduceToNat, Nat.reduceAdd, Nat.reduceSub, Nat.reduceMul, Nat.reduceBEq, reduceIte, reduceCtorEq, h1, h6, h7]
        refine ⟨_, _, Ghost.refl, l.length - (j + 1), by omega, j + 1, rfl, by omega, hJ, ?_, ?_, ?_, rfl⟩
        all_goals first | (simp (config := { decide := true }) only [go_sem, Nat.reduceBEq, reduceIte, h1, h6]; done) | (simp (config := { decide := true }) only [go_sem, Nat.reduceBEq, reduceIte]; rw [w64 (by omega) (by omega)]; rfl)
      · rw [if_neg he, hz] at hJ
        rw [thsO_hit hJ] at hI
        obtain rfl := hR1 _ hI
        refine callX_nm (hA) rfl rfl ?_
        simp (config := { decide := true }) only [go_sem, Int.reduceToNat, Nat.reduceAdd, Nat.reduceSub, Nat.reduceMul, Nat.reduceBEq, reduceIte, reduceCtorEq, h1, h6, h7, he]
    · have hjt' : ((j : Int) < (l.length : Int)) = False := by simp only [eq_iff_iff, iff_false]; omega
      rw [List.drop_of_length_le (by omega)] at hJ
      have hJ' : thrE [] l = none := hJ
      rw [thsO_miss hJ'] at hI
      simp (config := { decide := true }) only [go_sem, Int.reduceToNat, Nat.reduceAdd, Nat.reduceSub, Nat.reduceMul, Nat.reduceBEq, reduceIte, reduceCtorEq, h1, h6, h7, hlt', hx, tdrow, hjt']
      repeat (with_reducible refine And.intro ?_ ?_; · (with_reducible and_intros) <;> omega)
      refine ⟨_, _, Ghost.refl, f.thr.length - (i + 1), by omega, i + 1, rfl, by omega, hI, ?_, ?_, rfl⟩
      all_goals first | (simp (config := { decide := true }) only [go_sem, Nat.reduceBEq, reduceIte, h1]; done) | (simp (config := { decide := true }) only [go_sem, Nat.reduceBEq, reduceIte]; rw [w64 (by omega) (by omega)]; rfl)
  have hlt' : ((i : Int) < (f.thr.length : Int)) = False := by simp only [eq_iff_iff, iff_false]; omega
  rw [List.drop_of_length_le (by omega)] at hI
  have hT : thsO 0 f.thr = none := hI
  simp (config := { decide := true }) only [go_sem, Int.reduceToNat, Nat.reduceAdd, Nat.reduceSub, Nat.reduceMul, Nat.reduceBEq, reduceIte, reduceCtorEq, h1, h6, hlt']
  refine HW.loopG (fun k T H => ∃ (i : Nat), k = f.cond.length - i ∧ i ≤ f.cond.length ∧ conE f.thr.length 0 f.cond = conE f.thr.length i (f.cond.drop i) ∧ T 1 = .pt 0 1 0 0 ∧ T 9 = .v (.int .i64 i) ∧ H = [some (fileO f)]) f.cond.length ⟨_, _, Ghost.refl, 0, rfl, by omega, rfl, by simp (config := { decide := true }) only [go_sem, Nat.reduceBEq, reduceIte, h1], rfl, rfl⟩ ?_
  clear h1 h6 hI hil hlt hlt'
  rintro k T H ⟨i, rfl, hil, hI, h1, h9, rfl⟩
  refine HW.run 200 (by kernel_rfl) ?_
  by_cases hlt : i < f.cond.length
  · have hlt' : ((i : Int) < (f.cond.length : Int)) = True := by simp only [eq_iff_iff, iff_true]; omega
    have hx : f.cond[i]? = some f.cond[i] := List.getElem?_eq_getElem hlt
    have hdr : f.cond.drop i = f.cond[i] :: f.cond.drop (i + 1) := List.drop_eq_getElem_cons hlt
    have hnm := ok.ca _ (List.getElem_mem hlt)
    rw [hdr, conE] at hI
    generalize f.cond[i] = c at hx hI hnm
    have leaf : ∀ e : Int, conE f.thr.length 0 f.cond = some (i, e) → R = ((f.thr.length : Int), (i : Int), e) := fun e h => hR2 _ hT (by unfold conO; rw [h]; rfl)
    by_cases h6 : 6 ≤ i
    · have h6' : ((6 : Int) ≤ (i : Int)) = True := by simp only [eq_iff_iff, iff_true]; omega
      rw [if_pos h6] at hI
      obtain rfl := leaf _ hI
      simp (config := { decide := true }) only [go_sem, Int.reduceToNat, Nat.reduceAdd, Nat.reduceSub, Nat.reduceMul, Nat.reduceBEq, reduceIte, reduceCtorEq, h1, h9, hlt', hx, arow, h6']
    have h6' : ((6 : Int) ≤ (i : Int)) = False := by simp only [eq_iff_iff, iff_false]; omega
    rw [if_neg h6] at hI
    simp (config := { decide := true }) only [go_sem, Int.reduceToNat, Nat.reduceAdd, Nat.reduceSub, Nat.reduceMul, Nat.reduceBEq, reduceIte, reduceCtorEq, h1, h9, hlt', hx, arow, h6']
    have hq := refAsked c.th c.nm c.n hnm
    cases hc : askedB c.th c.nm with
    | false =>
      rw [if_pos hc] at hI
      obtain rfl := leaf _ hI
      rw [hc] at hq
      refine callX_nm (hq) rfl rfl ?_
      simp (config := { decide := true }) only [go_sem, Int.reduceToNat, Nat.reduceAdd, Nat.reduceSub, Nat.reduceMul, Nat.reduceBEq, reduceIte, reduceCtorEq, h1, h9]
    | true =>
      rw [if_neg (by simp [hc])] at hI
      rw [hc] at hq
      refine callX_nm (hq) rfl rfl ?_
      by_cases ht : (f.thr.length : Int) ≤ c.th
      · rw [if_pos ht] at hI
        obtain rfl := leaf _ hI
        simp (config := { decide := true }) only [go_sem, Int.reduceToNat, Nat.reduceAdd, Nat.reduceSub, Nat.reduceMul, Nat.reduceBEq, reduceIte, reduceCtorEq, h1, h9, ht]
      · rw [if_neg ht] at hI
        simp (config := { decide := true }) only [go_sem, Int.reduceToNat, Nat.reduceAdd, Nat.reduceSub, Nat.reduceMul, Nat.reduceBEq, reduceIte, reduceCtorEq, h1, h9, ht]
        refine ⟨_, _, Ghost.trunc [1, 9] 1 (by omega) ?_ ?_, f.cond.length - (i + 1), by omega, i + 1, rfl, by omega, hI, ?_, ?_, ?_⟩
        all_goals first | (simp (config := { decide := true }) only [go_sem, Nat.reduceBEq, reduceIte, h1]; done) | (simp (config := { decide := true }) only [go_sem, Nat.reduceBEq, reduceIte]; rw [w64 (by omega) (by omega)]; rfl) | rfl
  have hlt' : ((i : Int) < (f.cond.length : Int)) = False := by simp only [eq_iff_iff, iff_false]; omega
  rw [List.drop_of_length_le (by omega)] at hI
  have hC : conO f = none := by unfold conO; rw [hI]; rfl
  have hl := hLl hC
  have hR := hR3 hT hC
  simp (config := { decide := true }) only [go_sem, Int.reduceToNat, Nat.reduceAdd, Nat.reduceSub, Nat.reduceMul, Nat.reduceBEq, reduceIte, reduceCtorEq, h1, h9, hlt']
  refine callX_nm (hL) rfl rfl ?_
  by_cases h4 : 4 < (foldC [] (locL f)).length
  · have h4' : ((4 : Int) < ((putsF [] (rawL f)).length : Int)) = True := by simp only [eq_iff_iff, iff_true]; omega
    rw [if_pos h4] at hR
    subst hR
    simp (config := { decide := true }) only [go_sem, Int.reduceToNat, Nat.reduceAdd, Nat.reduceSub, Nat.reduceMul, Nat.reduceBEq, reduceIte, reduceCtorEq, h4']
  · have h4' : ((4 : Int) < ((putsF [] (rawL f)).length : Int)) = False := by simp only [eq_iff_iff, iff_false]; omega
    rw [if_neg h4] at hR
    subst hR
    simp (config := { decide := true }) only [go_sem, Int.reduceToNat, Nat.reduceAdd, Nat.reduceSub, Nat.reduceMul, Nat.reduceBEq, reduceIte, reduceCtorEq, h4']
theorem refRight4 (f : Fl) (ok : OkR f) : HFn Tryz.prog 13 [fileH f] (.v (.bool (decide ((checkF f).2.2 = 0)))) := by
  have h := refCheck4 f ok
  generalize checkF f = R at h ⊢
  refine HCalls_body (fn := Tryz.f13) 14 [2] (by kernel_rfl) rfl (by kernel_rfl) (HW.run 400 (by kernel_rfl) ?_)
  simp (config := { decide := true }) only [go_sem, Int.reduceToNat, Nat.reduceAdd, Nat.reduceSub, Nat.reduceMul, Nat.reduceBEq, reduceIte, reduceCtorEq]
  refine callX_nm (h) rfl rfl ?_
  simp (config := { decide := true }) only [go_sem, Int.reduceToNat, Nat.reduceAdd, Nat.reduceSub, Nat.reduceMul, Nat.reduceBEq, reduceIte, reduceCtorEq]
end Go.Proofs.YtmapdjdnnhlpiaaGreatDoor
namespace Go.Proofs.YtmapdjdnnhlpiaaGreatDoor
set_option maxRecDepth 8000
structure AtOk (s : PS) (m : Nat) : Prop where
  next : s.next = 0 ∨ s.next = 1 ∨ s.next = 2 ∨ s.next = 3 ∨ s.next = 4
  lines : ∀ r ∈ s.lines, ∀ x ∈ r, 1 ≤ x ∧ x ≤ (m : Int)
  head : s.next ≠ 0 → 1 ≤ s.head ∧ s.head ≤ (m : Int)
  fin : s.next = 4 → 1 ≤ s.fin ∧ s.fin ≤ (m : Int)
theorem AtOk.mono {s : PS} {m n : Nat} (h : AtOk s m) (hn : m ≤ n) : AtOk s n :=
  ⟨h.next, fun r hr x hx => ⟨(h.lines r hr x hx).1, by have := (h.lines r hr x hx).2; omega⟩, fun h0 => ⟨(h.head h0).1, by have := (h.head h0).2; omega⟩, fun h0 => ⟨(h.fin h0).1, by have := (h.fin h0).2; omega⟩⟩
theorem pS0_at : AtOk pS0 0 := ⟨.inl rfl, fun r hr => by simp [pS0] at hr, fun h => absurd rfl h, fun h => by simp [pS0] at h⟩
theorem read_at {s : PS} {w : List (List UInt8)} {m : Nat} (h : AtOk s m) : AtOk (readF s w ((m + 1 : Nat) : Int)).1 (m + 1) := by
  have h' := h.mono (Nat.le_succ m)
  have thr : s.next ≠ 0 → AtOk (threadF s w).1 (m + 1) := fun n0 => by
    unfold threadF
    split
    · refine ⟨.inr (.inr (.inr (.inl rfl))), fun r hr x hx => ?_, fun _ => h'.head n0, fun h4 => by simp at h4⟩
      rcases List.mem_append.1 hr with hr | hr
      · exact h'.lines r hr x hx
      · simp at hr; subst hr; cases hx
    · exact h'
  unfold readF
  split
  · unfold headF; split
    · exact ⟨.inr (.inl rfl), h'.lines, fun _ => ⟨by show (1 : Int) ≤ ((m + 1 : Nat) : Int); omega, Int.le_refl _⟩, fun h4 => by simp at h4⟩
    · exact h'
  rename_i n0
  split
  · unfold startF; split
    · exact ⟨.inr (.inr (.inl rfl)), h'.lines, fun _ => h'.head n0, fun h4 => by simp at h4⟩
    · exact ⟨.inr (.inr (.inl rfl)), h'.lines, fun _ => h'.head n0, fun h4 => by simp at h4⟩
  split
  · rename_i n3
    unfold bodyF
    split
    · exact ⟨.inr (.inr (.inr (.inr rfl))), h'.lines, fun _ => h'.head n0, fun _ => ⟨by show (1 : Int) ≤ ((m + 1 : Nat) : Int); omega, Int.le_refl _⟩⟩
    split
    · exact thr n0
    · refine ⟨h'.next, fun r hr x hx => ?_, h'.head, h'.fin⟩
      have hr : r ∈ s.lines.dropLast ++ [(s.lines.getLast?.getD []) ++ [((m + 1 : Nat) : Int)]] := hr
      rcases List.mem_append.1 hr with hr | hr
      · exact h'.lines r (List.dropLast_subset _ hr) x hx
      · rw [List.mem_singleton] at hr
        subst hr
        rcases List.mem_append.1 hx with hx | hx
        · cases hg : s.lines.getLast? with
          | none => rw [hg] at hx; simp at hx
          | some l => rw [hg] at hx; exact h'.lines l (List.mem_of_getLast? hg) x hx
        · rw [List.mem_singleton] at hx
          subst hx
          exact ⟨by omega, Int.le_refl _⟩
  split
  · exact thr n0
  · exact h'
theorem linesF_at : ∀ (l : List (List UInt8)) (s : PS) (k : Nat), AtOk s k → AtOk (linesF s k l).1 (k + l.length)
  | [], s, k, h => h
  | x :: l, s, k, h => by
    have e : k + (x :: l).length = (k + 1) + l.length := by simp only [List.length_cons]; omega
    rw [linesF, e]
    split
    · exact linesF_at l _ _ (h.mono (Nat.le_succ k))
    · split
      · exact linesF_at l _ _ (read_at h)
      · exact h.mono (by omega)
theorem lines_tot : ∀ (l : List (List UInt8)) (s : PS) (k : Nat), Agree s → totF (linesF s k l).1 ≤ totF s + sumW l ∧ ((linesF s k l).2 = none → Agree (linesF s k l).1)
  | [], s, k, h => ⟨Nat.le_add_right _ _, fun _ => h⟩
  | x :: l, s, k, h => by
    have hs : sumW (x :: l) = (wordsB x).length + sumW l := rfl
    rw [linesF]
    split
    · have := lines_tot l s (k + 1) h
      exact ⟨by omega, this.2⟩
    · rename_i hw
      have hr := readF_tot s (wordsB x) ((k + 1 : Nat) : Int) hw h
      split
      · rename_i hb
        have := lines_tot l _ (k + 1) (hr.2 hb)
        exact ⟨by omega, this.2⟩
      · exact ⟨by show totF s ≤ _; omega, fun hh => by cases hh⟩
theorem lines_nm : ∀ (l : List (List UInt8)) (s : PS) (k : Nat), (∀ x ∈ l, x.length ≤ 1000000) → NmOk s → NmOk (linesF s k l).1
  | [], s, k, _, h => h
  | x :: l, s, k, hl, h => by
    have hx : ∀ w ∈ wordsB x, w.length ≤ 1000000 := fun w hw => Nat.le_trans (word_len hw) (hl x (by simp))
    have hl' : ∀ y ∈ l, y.length ≤ 1000000 := fun y hy => hl y (by simp [hy])
    rw [linesF]
    split
    · exact lines_nm l s _ hl' h
    · split
      · exact lines_nm l _ _ hl' (readF_nm hx h)
      · exact h
theorem whereF_at {s : PS} {m : Nat} (h : AtOk s m) (h4 : s.next = 4) (ag : Agree s) (h0 : (checkF s.f).2.2 ≠ 0) : 1 ≤ whereF s (checkF s.f).1 (checkF s.f).2.1 ∧ whereF s (checkF s.f).1 (checkF s.f).2.1 ≤ (m : Int) := by
  have hc := checkF_at ag h0
  unfold whereF
  split
  · exact h.head (by omega)
  · rename_i h1
    split
    · exact h.fin h4
    · rename_i h2
      obtain ⟨g1, ln, e1, e2⟩ := hc (by omega) h2
      rw [e1, Option.getD_some, List.getElem?_eq_getElem e2, Option.getD_some]
      exact h.lines ln (List.mem_of_getElem? e1) _ (List.getElem_mem e2)
inductive Told (s : List UInt8) : Fl × Int × Int → Prop where
  | line (n : Nat) : (linesF pS0 0 (linesB s)).2 = some n → 1 ≤ n → n ≤ (linesB s).length → Told s (noFl, (n : Int), 11)
  | open : (linesF pS0 0 (linesB s)).2 = none → (linesF pS0 0 (linesB s)).1.next ≠ 4 → Told s (noFl, (((linesB s).length + 1 : Nat) : Int), 11)
  | wrong (a e : Int) : (linesF pS0 0 (linesB s)).2 = none → (linesF pS0 0 (linesB s)).1.next = 4 → Agree (linesF pS0 0 (linesB s)).1 → (checkF (linesF pS0 0 (linesB s)).1.f).2.2 = e → e ≠ 0 → whereF (linesF pS0 0 (linesB s)).1 (checkF (linesF pS0 0 (linesB s)).1.f).1 (checkF (linesF pS0 0 (linesB s)).1.f).2.1 = a →
      1 ≤ a → a ≤ ((linesB s).length : Int) → Told s (noFl, a, e)
  | ok : (linesF pS0 0 (linesB s)).2 = none → (linesF pS0 0 (linesB s)).1.next = 4 → (checkF (linesF pS0 0 (linesB s)).1.f).2.2 = 0 → Told s ((linesF pS0 0 (linesB s)).1.f, 0, 0)
theorem told {s : List UInt8} (h : s.length ≤ 4000) : Told s (parseF s) := by
  unfold parseF
  rw [if_neg (by omega)]
  cases hn : (linesF pS0 0 (linesB s)).2 with
  | some n =>
    have := lines_at_ _ _ _ _ hn
    exact .line n hn (by omega) (by omega)
  | none =>
    simp only
    unfold finF
    have hag := (lines_tot (linesB s) pS0 0 pS0_agree).2 hn
    have hat := linesF_at (linesB s) pS0 0 pS0_at
    rw [Nat.zero_add] at hat
    split
    · rename_i h4; exact .open hn h4
    · rename_i h4
      have h4 : (linesF pS0 0 (linesB s)).1.next = 4 := by
        by_cases e : (linesF pS0 0 (linesB s)).1.next = 4
        · exact e
        · exact absurd e h4
      split
      · rename_i h0
        have hw := whereF_at hat h4 hag h0
        exact .wrong _ _ hn h4 hag rfl h0 rfl hw.1 hw.2
      · rename_i h0
        have h0 : (checkF (linesF pS0 0 (linesB s)).1.f).2.2 = 0 := by
          by_cases e : (checkF (linesF pS0 0 (linesB s)).1.f).2.2 = 0
          · exact e
          · exact absurd e h0
        exact .ok hn h4 h0
structure SmallF (f : Fl) : Prop where
  init : f.init.length ≤ 4000
  thr : f.thr.length ≤ 4000
  cond : f.cond.length ≤ 4000
  len : ∀ l ∈ f.thr, l.length ≤ 4000
  tot : f.init.length + (f.thr.map List.length).sum + f.thr.length + f.cond.length ≤ 4000
theorem noFl_small : SmallF noFl := ⟨by decide, by decide, by decide, fun l hl => by simp [noFl] at hl, by decide⟩
theorem small_of {s : PS} (h : totF s ≤ 4000) : SmallF s.f := by
  have h' := h
  unfold totF at h
  refine ⟨by omega, by omega, by omega, fun l hl => ?_, h'⟩
  have := sum_mem (List.mem_map.2 ⟨l, hl, rfl⟩ : l.length ∈ s.f.thr.map List.length)
  omega
theorem parse_small {s : List UInt8} (h : s.length ≤ 4000) : SmallF (parseF s).1 := by
  have hs := sumW_lines s
  have ht := (lines_tot (linesB s) pS0 0 pS0_agree).1
  have h0 : totF pS0 = 0 := rfl
  have hd := told h
  generalize parseF s = r at hd ⊢
  cases hd with
  | line n _ _ _ => exact noFl_small
  | «open» _ _ => exact noFl_small
  | wrong a e _ _ _ _ _ _ _ _ => exact noFl_small
  | ok _ _ _ => exact small_of (by omega)
def renS (φ : Int → Int) (s : PS) : PS := { s with lines := s.lines.map (·.map φ), head := φ s.head, fin := φ s.fin }
theorem lastF_map (φ : Int → Int) (l : List (List Int)) (x : Int) : (lastF l x).map (·.map φ) = lastF (l.map (·.map φ)) (φ x) := by
  unfold lastF
  rw [List.map_append, List.map_dropLast, List.getLast?_map]
  cases l.getLast? <;> simp
theorem read_ren (φ : Int → Int) (s : PS) (w : List (List UInt8)) (a : Int) : readF (renS φ s) w (φ a) = (renS φ (readF s w a).1, (readF s w a).2) := by
  have thr : threadF (renS φ s) w = (renS φ (threadF s w).1, (threadF s w).2) := by
    unfold threadF
    split
    · simp [renS]
    · rfl
  unfold readF
  show (if s.next = 0 then _ else if s.next = 1 then _ else if s.next = 3 then _ else if s.next = 2 then _ else _) = _
  split
  · unfold headF; split <;> rfl
  split
  · unfold startF; split <;> rfl
  split
  · unfold bodyF
    split
    · rfl
    split
    · exact thr
    · show (({ renS φ s with f := _, lines := lastF (s.lines.map (·.map φ)) (φ a) } : PS), _) = _
      rw [← lastF_map]
      rfl
  split
  · exact thr
  · rfl
theorem where_ren {φ : Int → Int} {s : PS} {t i : Int} (h : 0 ≤ t → t ≠ s.f.thr.length → 0 ≤ i ∧ ∃ ln, s.lines[t.toNat]? = some ln ∧ i.toNat < ln.length) : whereF (renS φ s) t i = φ (whereF s t i) := by
  unfold whereF
  show (if t < 0 then φ s.head else if t = s.f.thr.length then φ s.fin else _) = _
  split
  · rfl
  · rename_i h1
    split
    · rfl
    · rename_i h2
      obtain ⟨g, ln, e1, e2⟩ := h (by omega) h2
      have e3 : (renS φ s).lines[t.toNat]? = some (ln.map φ) := by show (s.lines.map _)[_]? = _; rw [List.getElem?_map, e1]; rfl
      rw [e1, e3]
      simp [List.getElem?_eq_getElem e2]
inductive Ren (φ : Int → Int) : Nat → List (List UInt8) → Nat → List (List UInt8) → Prop where
  | nil (k j : Nat) : Ren φ k [] j []
  | blank {k j : Nat} {l : List (List UInt8)} {x : List UInt8} {r : List (List UInt8)} : wordsB x = [] → Ren φ k l (j + 1) r → Ren φ k l j (x :: r)
  | word {k j : Nat} {l : List (List UInt8)} {x y : List UInt8} {r : List (List UInt8)} : wordsB x = wordsB y → φ ((k + 1 : Nat) : Int) = ((j + 1 : Nat) : Int) → Ren φ (k + 1) l (j + 1) r → Ren φ k (x :: l) j (y :: r)
theorem lines_ren {φ : Int → Int} {k j : Nat} {l r : List (List UInt8)} (h : Ren φ k l j r) : ∀ s : PS, ∃ st, (linesF s k l).1 = st ∧ ((linesF s k l).2 = none → (linesF (renS φ s) j r) = (renS φ st, none)) ∧ (∀ n, (linesF s k l).2 = some n → ∃ m : Nat, (linesF (renS φ s) j r).2 = some m ∧ φ (n : Int) = (m : Int)) := by
  induction h with
  | nil k j => exact fun s => ⟨_, rfl, fun _ => rfl, fun n hn => by simp [linesF] at hn⟩
  | blank hx _ ih =>
    intro s
    obtain ⟨st, e, h1, h2⟩ := ih s
    refine ⟨st, e, fun hn => ?_, fun n hn => ?_⟩
    · rw [linesF, if_pos hx]; exact h1 hn
    · rw [linesF, if_pos hx]; exact h2 n hn
  | word hw hφ _ ih =>
    rename_i k j l x y r _
    intro s
    rw [linesF, linesF, ← hw]
    by_cases h0 : wordsB x = []
    · rw [if_pos h0, if_pos h0]; exact ih s
    · rw [if_neg h0, if_neg h0, ← hφ, read_ren]
      by_cases hb : (readF s (wordsB x) ((k + 1 : Nat) : Int)).2 = true
      · rw [if_pos hb, if_pos hb]; exact ih _
      · rw [if_neg hb, if_neg hb]
        exact ⟨_, rfl, fun hn => (by cases hn), fun n hn => ⟨j + 1, rfl, by simp at hn; rw [← hn]; exact hφ⟩⟩
theorem parse_ren {φ : Int → Int} {s t : List UInt8} (hs : s.length ≤ 4000) (ht : t.length ≤ 4000) (h0 : φ 0 = 0) (h : Ren φ 0 (linesB s) 0 (linesB t)) :
    (parseF t).1 = (parseF s).1 ∧ (parseF t).2.2 = (parseF s).2.2 ∧ (((parseF s).2.2 = 0 ∧ (parseF s).2.1 = 0 ∧ (parseF t).2.1 = 0) ∨ ((parseF s).2.2 ≠ 0 ∧ ((1 ≤ (parseF s).2.1 ∧ (parseF s).2.1 ≤ (linesB s).length ∧ (parseF t).2.1 = φ (parseF s).2.1) ∨ ((parseF s).2.1 = (((linesB s).length + 1 : Nat) : Int) ∧ (parseF t).2.1 = (((linesB t).length + 1 : Nat) : Int))))) := by
  have hr := lines_ren h pS0
  have hz : renS φ pS0 = pS0 := by unfold renS; show (⟨noFl, 0, [], φ 0, φ 0⟩ : PS) = _; rw [h0]; rfl
  rw [hz] at hr
  obtain ⟨st, e, h1, h2⟩ := hr
  have pt : parseF t = match (linesF pS0 0 (linesB t)).2 with
    | some n => (noFl, (n : Int), 11)
    | none => finF (linesF pS0 0 (linesB t)).1 (linesB t).length := by
    unfold parseF
    rw [if_neg (by omega)]
    cases (linesF pS0 0 (linesB t)).2 <;> rfl
  rw [pt]
  have hd := told hs
  generalize parseF s = r at hd ⊢
  cases hd with
  | line n hn g1 g2 =>
    obtain ⟨m, hm, hφ⟩ := h2 n hn
    rw [hm]
    exact ⟨rfl, rfl, .inr ⟨by simp, .inl ⟨by simp; omega, by simp; omega, by simp [hφ]⟩⟩⟩
  | «open» hn h4 =>
    have ht := h1 hn
    rw [ht]
    rw [e] at h4
    simp only
    unfold finF
    rw [if_pos (by exact h4)]
    exact ⟨by trivial, by trivial, .inr ⟨by simp, .inr ⟨by trivial, by trivial⟩⟩⟩
  | wrong a er hn h4 ag hc he hw g1 g2 =>
    have ht := h1 hn
    rw [ht]
    rw [e] at h4 ag hc hw
    have hat := checkF_at ag (by rw [hc]; exact he)
    simp only
    unfold finF
    rw [if_neg (by simp only [renS, h4]; simp)]
    have hf : (renS φ st).f = st.f := rfl
    rw [hf, if_pos (by rw [hc]; exact he), where_ren hat, hw]
    exact ⟨rfl, hc, .inr ⟨he, .inl ⟨g1, g2, rfl⟩⟩⟩
  | ok hn h4 hc =>
    have ht := h1 hn
    rw [ht]
    rw [e] at h4 hc
    simp only
    unfold finF
    rw [if_neg (by simp only [renS, h4]; simp)]
    have hf : (renS φ st).f = st.f := rfl
    rw [hf, if_neg (by simp [hc])]
    exact ⟨by rw [e], by trivial, .inl ⟨by trivial, by trivial, by trivial⟩⟩
end Go.Proofs.YtmapdjdnnhlpiaaGreatDoor
namespace Go.Proofs.YtmapdjdnnhlpiaaGreatDoor
open Go.RowKit
set_option maxRecDepth 8000
theorem HCalls.convP {P : Program} {f : FuncId} {H : Heap} {args args' : List HV} {Q : HV → Heap → Prop} (h : HCalls P f H args' Q) (hc : ConvL args args') : HCalls P f H args Q :=
  ⟨h.1, fun Z G FP w vals hi ha => h.2 Z G FP w vals hi (RL_conv hc ha)⟩
theorem Conv.zeroFile : Conv zH (fileH noFl) := Conv.ag ⟨Conv.refl _, Conv.nilSl, Conv.nilSl, Conv.refl _, Conv.nilSl, trivial⟩
theorem refSameSm (f g : Fl) (h : SmallF f) : HFn Tryz.prog 12 [fileH f, fileH g] (.v (.bool (decide (f = g)))) :=
  refSameFl f g (by have := h.init; omega) (by have := h.thr; omega) (by have := h.cond; omega) (fun l hl => by have := h.len l hl; omega)
theorem refSameZero (f : Fl) (h : SmallF f) : HFn Tryz.prog 12 [fileH f, zH] (.v (.bool (decide (f = noFl)))) :=
  HCalls.convP (refSameSm f noFl h) ⟨Conv.refl _, Conv.zeroFile, trivial⟩
theorem regB_len {s : List UInt8} (h : 0 ≤ regB s) : s.length ≤ 3 := by
  rcases regB_cases s with h1 | ⟨h1, h2, h3⟩
  · omega
  · rw [← h3]
    unfold regNm
    repeat' split
    all_goals decide
theorem right_lens {x : LT} (h : x.right = true) : x.rg.length ≤ 1000000 ∧ x.loc.length ≤ 1000000 ∧ x.lab.length ≤ 1000000 := by
  have hr : ∀ s, 0 ≤ regB s → s.length ≤ 1000000 := fun s hs => by have := regB_len hs; omega
  have hn : ∀ s, nameB s = true → s.length ≤ 1000000 := fun s hs => by have := nameB_len8 hs; omega
  have h0 : ([] : List UInt8).length ≤ 1000000 := by decide
  cases (right_iff x).1 h <;> refine ⟨?_, ?_, ?_⟩ <;> first | exact h0 | (apply hr; assumption) | (apply hn; assumption)
theorem read_name {s : PS} {w : List (List UInt8)} {a : Int} (hw : ∀ x ∈ w, x.length ≤ 1000000) (h : s.f.name.length ≤ 1000000) : (readF s w a).1.f.name.length ≤ 1000000 := by
  unfold readF
  split
  · unfold headF; split
    · show (w[1]?.getD []).length ≤ _
      cases e : w[1]? with
      | none => simp
      | some x => exact hw x (List.mem_of_getElem? e)
    · exact h
  split
  · unfold startF; split <;> exact h
  split
  · unfold bodyF; split
    · exact h
    split
    · unfold threadF; split <;> exact h
    · exact h
  split
  · unfold threadF; split <;> exact h
  · exact h
theorem lines_name : ∀ (l : List (List UInt8)) (s : PS) (k : Nat), (∀ x ∈ l, x.length ≤ 1000000) → s.f.name.length ≤ 1000000 → (linesF s k l).1.f.name.length ≤ 1000000
  | [], s, k, _, h => h
  | x :: l, s, k, hl, h => by
    have hx : ∀ w ∈ wordsB x, w.length ≤ 1000000 := fun w hw => Nat.le_trans (word_len hw) (hl x (by simp))
    have hl' : ∀ y ∈ l, y.length ≤ 1000000 := fun y hy => hl y (by simp [hy])
    rw [linesF]
    split
    · exact lines_name l s _ hl' h
    · split
      · exact lines_name l _ _ hl' (read_name hx h)
      · exact h
theorem flatLoc_len (r : List (List LT)) : (r.flatMap fun l => l.map (·.loc)).length = (r.map List.length).sum := by
  induction r with
  | nil => rfl
  | cons a r ih => simp [List.flatMap_cons, ih]
theorem okR_sm {f : Fl} (h : SmallF f) (hn : NmA f) (hg : GoodF f) (hm : f.name.length ≤ 1000000) : OkR f := by
  have h1 := h.init
  have h2 := h.thr
  have h3 := h.cond
  have h4 := h.tot
  refine ⟨by omega, by omega, by omega, fun l hl => by have := h.len l hl; omega, ?_, hm, hn.i, fun l hl x hx => right_lens (hg.t l hl x hx).1, hn.c⟩
  have := condL_len f.cond
  unfold rawL
  rw [List.length_append, List.length_append, List.length_map, flatLoc_len]
  omega
theorem okR_of {s : List UInt8} (hs : s.length ≤ 4000) (hn : (linesF pS0 0 (linesB s)).2 = none) : OkR (linesF pS0 0 (linesB s)).1.f := by
  have hsw := sumW_lines s
  have ht := (lines_tot (linesB s) pS0 0 pS0_agree).1
  have h0 : totF pS0 = 0 := rfl
  have hl : ∀ x ∈ linesB s, x.length ≤ 1000000 := fun x hx => Nat.le_trans (line_len hx) (by omega)
  exact okR_sm (small_of (by omega)) (lines_nm _ _ _ hl pS0_nm) (lines_good _ _ _ good0 hn) (lines_name _ _ _ hl (by decide))
set_option maxHeartbeats 8000000 in
theorem parseRightH (s : List UInt8) : HFn Tryz.prog 4 [.v (str s)] (.v (.bool true)) := by
  refine HCalls_body (fn := Tryz.f4) 81 [2] (by kernel_rfl) rfl (by kernel_rfl) (HW.run 400 (by kernel_rfl) ?_)
  simp (config := { decide := true }) only [go_sem, Int.reduceToNat, Nat.reduceAdd, Nat.reduceSub, Nat.reduceMul, Nat.reduceBEq, reduceIte, reduceCtorEq]
  refine callX_fn 3 (parHead) (by simp only [go_sem]) rfl ?_
  rcases tfP ((5000 : Int) < (s.length : Int)) with ⟨d1, c1⟩ | ⟨d1, c1⟩
  · simp (config := { decide := true }) only [go_sem, Int.reduceToNat, Nat.reduceAdd, Nat.reduceSub, Nat.reduceMul, Nat.reduceBEq, reduceIte, reduceCtorEq, c1]
  simp (config := { decide := true }) only [go_sem, Int.reduceToNat, Nat.reduceAdd, Nat.reduceSub, Nat.reduceMul, Nat.reduceBEq, reduceIte, reduceCtorEq, c1]
  refine callX_nm (parseParse s (by omega)) rfl rfl ?_
  have hsame := refSameZero noFl noFl_small
  rw [decide_eq_true rfl] at hsame
  have hL := refLinesS s (by omega)
  have hll := linesB_length s
  have wl : IntKind.i64.wrap (((linesB s).length : Int) + 1) = (((linesB s).length + 1 : Nat) : Int) := by rw [w64 (by omega) (by omega)]; rfl
  by_cases d2 : 4000 < s.length
  · have e : parseF s = (noFl, 0, 5) := by unfold parseF; rw [if_pos d2]
    rw [e]
    have c2 : ((s.length : Int) ≤ 4000) = False := eq_false (by omega)
    have c3 : ((4000 : Int) < (s.length : Int)) = True := eq_true (by omega)
    simp (config := { decide := true }) only [go_sem, Int.reduceToNat, Nat.reduceAdd, Nat.reduceSub, Nat.reduceMul, Nat.reduceBEq, reduceIte, reduceCtorEq]
    refine callX_nm (hL) rfl rfl ?_
    simp (config := { decide := true }) only [go_sem, Int.reduceToNat, Nat.reduceAdd, Nat.reduceSub, Nat.reduceMul, Nat.reduceBEq, reduceIte, reduceCtorEq]
    refine callX_nm (hsame) rfl rfl ?_
    simp (config := { decide := true }) only [go_sem, Int.reduceToNat, Nat.reduceAdd, Nat.reduceSub, Nat.reduceMul, Nat.reduceBEq, reduceIte, reduceCtorEq, c2, c3]
  have c2 : ((s.length : Int) ≤ 4000) = True := eq_true (by omega)
  have hd := told (s := s) (by omega)
  generalize parseF s = r at hd ⊢
  cases hd with
  | line n hn g1 g2 =>
    have b1 : ((1 : Int) ≤ (n : Int)) = True := eq_true (by omega)
    have b2 : ((n : Int) ≤ (((linesB s).length + 1 : Nat) : Int)) = True := eq_true (by omega)
    have b3 : ((n : Int) ≤ ((linesB s).length : Int)) = True := eq_true (by omega)
    simp (config := { decide := true }) only [go_sem, Int.reduceToNat, Nat.reduceAdd, Nat.reduceSub, Nat.reduceMul, Nat.reduceBEq, reduceIte, reduceCtorEq]
    refine callX_nm (hL) rfl rfl ?_
    simp (config := { decide := true }) only [go_sem, Int.reduceToNat, Nat.reduceAdd, Nat.reduceSub, Nat.reduceMul, Nat.reduceBEq, reduceIte, reduceCtorEq]
    refine callX_nm (hsame) rfl rfl ?_
    simp (config := { decide := true }) only [go_sem, Int.reduceToNat, Nat.reduceAdd, Nat.reduceSub, Nat.reduceMul, Nat.reduceBEq, reduceIte, reduceCtorEq, c2, b1, b2, b3, wl]
  | «open» hn h4 =>
    have b1 : ((1 : Int) ≤ (((linesB s).length + 1 : Nat) : Int)) = True := eq_true (by omega)
    have b2 : ((((linesB s).length + 1 : Nat) : Int) ≤ (((linesB s).length + 1 : Nat) : Int)) = True := eq_true (by omega)
    have b3 : ((((linesB s).length + 1 : Nat) : Int) ≤ ((linesB s).length : Int)) = False := eq_false (by omega)
    simp (config := { decide := true }) only [go_sem, Int.reduceToNat, Nat.reduceAdd, Nat.reduceSub, Nat.reduceMul, Nat.reduceBEq, reduceIte, reduceCtorEq]
    refine callX_nm (hL) rfl rfl ?_
    simp (config := { decide := true }) only [go_sem, Int.reduceToNat, Nat.reduceAdd, Nat.reduceSub, Nat.reduceMul, Nat.reduceBEq, reduceIte, reduceCtorEq]
    refine callX_nm (hsame) rfl rfl ?_
    simp (config := { decide := true }) only [go_sem, Int.reduceToNat, Nat.reduceAdd, Nat.reduceSub, Nat.reduceMul, Nat.reduceBEq, reduceIte, reduceCtorEq, c2, b1, b2, b3, wl]
  | wrong a e hn h4 ag hc he hw g1 g2 =>
    have b1 : ((1 : Int) ≤ a) = True := eq_true (by omega)
    have b2 : (a ≤ (((linesB s).length + 1 : Nat) : Int)) = True := eq_true (by omega)
    have b3 : (a ≤ ((linesB s).length : Int)) = True := eq_true (by omega)
    have b4 : (e = 0) = False := eq_false he
    simp (config := { decide := true }) only [go_sem, Int.reduceToNat, Nat.reduceAdd, Nat.reduceSub, Nat.reduceMul, Nat.reduceBEq, reduceIte, reduceCtorEq, b4]
    refine callX_nm (hL) rfl rfl ?_
    simp (config := { decide := true }) only [go_sem, Int.reduceToNat, Nat.reduceAdd, Nat.reduceSub, Nat.reduceMul, Nat.reduceBEq, reduceIte, reduceCtorEq]
    refine callX_nm (hsame) rfl rfl ?_
    simp (config := { decide := true }) only [go_sem, Int.reduceToNat, Nat.reduceAdd, Nat.reduceSub, Nat.reduceMul, Nat.reduceBEq, reduceIte, reduceCtorEq, c2, b1, b2, b3, wl]
  | ok hn h4 hc =>
    have hR := refRight4 _ (okR_of (s := s) (by omega) hn)
    rw [hc, decide_eq_true rfl] at hR
    simp (config := { decide := true }) only [go_sem, Int.reduceToNat, Nat.reduceAdd, Nat.reduceSub, Nat.reduceMul, Nat.reduceBEq, reduceIte, reduceCtorEq]
    refine callX_nm (hR) rfl rfl ?_
    simp (config := { decide := true }) only [go_sem, Int.reduceToNat, Nat.reduceAdd, Nat.reduceSub, Nat.reduceMul, Nat.reduceBEq, reduceIte, reduceCtorEq, c2]
end Go.Proofs.YtmapdjdnnhlpiaaGreatDoor
namespace Go.Proofs.YtmapdjdnnhlpiaaGreatDoor
open Go.RowKit
set_option maxRecDepth 8000
def sufK (k : Nat) : List UInt8 := if k = 2 then [32, 32] else []
def preK (k : Nat) : List (List UInt8) := if k = 1 then [[32, 32]] else []
def rowK (k : Nat) (ws : List (List UInt8)) : List UInt8 := ws.flatMap fun w => 32 :: w ++ sufK k
def newK (κ : Nat → Nat) (k : Nat) (l : List (List UInt8)) : List (List UInt8) := (l.zipIdx k).flatMap fun p => preK (κ p.2) ++ [rowK (κ p.2) (wordsB p.1)]
theorem newK_cons (κ : Nat → Nat) (k : Nat) (x : List UInt8) (l : List (List UInt8)) : newK κ k (x :: l) = preK (κ k) ++ rowK (κ k) (wordsB x) :: newK κ (k + 1) l := by
  simp [newK, List.zipIdx_cons]
theorem newK_snoc (κ : Nat → Nat) (x : List UInt8) (l : List (List UInt8)) : newK κ 0 (l ++ [x]) = newK κ 0 l ++ preK (κ l.length) ++ [rowK (κ l.length) (wordsB x)] := by
  simp [newK, List.zipIdx_append]
theorem rowK_cons (k : Nat) (w : List UInt8) (ws : List (List UInt8)) : rowK k (w :: ws) = 32 :: w ++ sufK k ++ rowK k ws := by simp [rowK]
theorem rowK_snoc (k : Nat) (w : List UInt8) (ws : List (List UInt8)) : rowK k (ws ++ [w]) = rowK k ws ++ [32] ++ w ++ sufK k := by simp [rowK]
theorem word1 {w : List UInt8} (h1 : w ≠ []) (h2 : (32 : UInt8) ∉ w) : wordsB w = [w] := by
  unfold wordsB
  rw [cutB_plain h2]
  cases w with
  | nil => exact absurd rfl h1
  | cons a w => rfl
theorem words32 (r : List UInt8) : wordsB (32 :: r) = wordsB r := by
  have := wordsB_parts [] r
  simpa [wordsB_nil] using this
theorem words_row (k : Nat) : ∀ ws : List (List UInt8), (∀ w ∈ ws, w ≠ [] ∧ (32 : UInt8) ∉ w) → wordsB (rowK k ws) = ws
  | [], _ => wordsB_nil
  | w :: ws, h => by
    have ih := words_row k ws fun x hx => h x (by simp [hx])
    obtain ⟨h1, h2⟩ := h w (by simp)
    rw [rowK_cons, List.append_assoc, List.cons_append, words32]
    unfold sufK
    split
    · have e : w ++ ([32, 32] ++ rowK k ws) = w ++ [32] ++ (32 :: rowK k ws) := by simp
      rw [e, wordsB_parts, words32, word1 h1 h2, ih]; rfl
    · cases ws with
      | nil => simp [rowK, word1 h1 h2]
      | cons x ws =>
        rw [rowK_cons] at ih ⊢
        rw [List.append_assoc, List.cons_append, words32] at ih
        have e : w ++ ([] ++ (32 :: x ++ sufK k ++ rowK k ws)) = w ++ [32] ++ (x ++ (sufK k ++ rowK k ws)) := by simp
        rw [e, wordsB_parts, ih, word1 h1 h2]; rfl
theorem cut_sub (c b : UInt8) : ∀ (s w : List UInt8), w ∈ cutB c s → b ∈ w → b ∈ s
  | [], w, hw, hb => by simp [cutB] at hw; subst hw; cases hb
  | x :: s, w, hw, hb => by
    have ih := cut_sub c b s
    unfold cutB at hw
    split at hw
    · rcases List.mem_cons.1 hw with rfl | hw
      · cases hb
      · exact List.mem_cons_of_mem _ (ih w hw hb)
    · cases h : cutB c s with
      | nil => rw [h] at hw; simp at hw; subst hw; simp at hb; simp [hb]
      | cons v r =>
        rw [h] at hw ih
        rcases List.mem_cons.1 hw with rfl | hw
        · rcases List.mem_cons.1 hb with rfl | hb
          · simp
          · exact List.mem_cons_of_mem _ (ih v (by simp) hb)
        · exact List.mem_cons_of_mem _ (ih w (by simp [hw]) hb)
theorem words_ok {s : List UInt8} : ∀ w ∈ wordsB s, w ≠ [] ∧ (32 : UInt8) ∉ w := fun w hw => by
  obtain ⟨h1, h2⟩ := List.mem_filter.1 hw
  exact ⟨fun e => by subst e; simp at h2, cut_no10 32 s w h1⟩
theorem row_no10 {k : Nat} {x : List UInt8} (h : (10 : UInt8) ∉ x) : (10 : UInt8) ∉ rowK k (wordsB x) := fun hm => by
  obtain ⟨w, hw, hm⟩ := List.mem_flatMap.1 hm
  rcases List.mem_append.1 hm with hm | hm
  · rcases List.mem_cons.1 hm with hm | hm
    · cases hm
    · exact h (cut_sub 32 10 x w (List.mem_filter.1 hw).1 hm)
  · unfold sufK at hm
    split at hm
    · simp at hm
    · cases hm
theorem newK_no10 (κ : Nat → Nat) : ∀ (l : List (List UInt8)) (k : Nat), (∀ x ∈ l, (10 : UInt8) ∉ x) → ∀ x ∈ newK κ k l, (10 : UInt8) ∉ x
  | [], _, _, x, hx => by cases hx
  | y :: l, k, h, x, hx => by
    rw [newK_cons] at hx
    rcases List.mem_append.1 hx with hx | hx
    · unfold preK at hx
      split at hx
      · simp at hx; subst hx; decide
      · cases hx
    · rcases List.mem_cons.1 hx with rfl | hx
      · exact row_no10 (h y (by simp))
      · exact newK_no10 κ l _ (fun z hz => h z (by simp [hz])) x hx
def atK (κ : Nat → Nat) (l : List (List UInt8)) (i : Nat) : Nat := (newK κ 0 (l.take i)).length + (preK (κ i)).length + 1
def phiK (κ : Nat → Nat) (l : List (List UInt8)) (x : Int) : Int := if 1 ≤ x then ((atK κ l (x - 1).toNat : Nat) : Int) else 0
theorem phiK_at (κ : Nat → Nat) (l : List (List UInt8)) (i : Nat) : phiK κ l ((i + 1 : Nat) : Int) = ((atK κ l i : Nat) : Int) := by
  unfold phiK
  rw [if_pos (by omega), show (((i + 1 : Nat) : Int) - 1).toNat = i by omega]
theorem ren_newK (κ : Nat → Nat) (L : List (List UInt8)) : ∀ (l pre : List (List UInt8)), L = pre ++ l → Ren (phiK κ L) pre.length l (newK κ 0 pre).length (newK κ pre.length l)
  | [], pre, _ => .nil _ _
  | x :: l, pre, h => by
    have h' : L = (pre ++ [x]) ++ l := by rw [h]; simp
    have ih := ren_newK κ L l (pre ++ [x]) h'
    rw [List.length_append, newK_snoc, List.length_append, List.length_append] at ih
    simp only [List.length_cons, List.length_nil, Nat.zero_add] at ih
    have htk : L.take pre.length = pre := by rw [h]; simp
    have hp := phiK_at κ L pre.length
    unfold atK at hp
    rw [htk] at hp
    have hw : wordsB x = wordsB (rowK (κ pre.length) (wordsB x)) := (words_row _ _ words_ok).symm
    rw [newK_cons]
    unfold preK at ih hp ⊢
    split
    · rename_i hk
      rw [if_pos hk] at ih hp
      refine .blank (by decide) ?_
      exact .word hw (by rw [hp]; simp) (by simpa using ih)
    · rename_i hk
      rw [if_neg hk] at ih hp
      exact .word hw (by rw [hp]; simp) (by simpa using ih)
theorem parse_newK (κ : Nat → Nat) {s : List UInt8} (hs : s.length ≤ 4000) (ht : (joinN (newK κ 0 (linesB s))).length ≤ 4000) :
    linesB (joinN (newK κ 0 (linesB s))) = newK κ 0 (linesB s) ∧ Ren (phiK κ (linesB s)) 0 (linesB s) 0 (linesB (joinN (newK κ 0 (linesB s)))) := by
  have e : linesB (joinN (newK κ 0 (linesB s))) = newK κ 0 (linesB s) := by
    have := lines_joinN [] (newK κ 0 (linesB s)) (newK_no10 κ _ 0 fun x hx => lines_no10 hx)
    rw [List.append_nil, linesB_nilN, List.append_nil] at this
    exact this
  refine ⟨e, ?_⟩
  rw [e]
  exact ren_newK κ (linesB s) (linesB s) [] rfl
def kOf (more : List UInt8) (i : Nat) : Nat := if more = [] then 0 else ((more[i % more.length]?).getD 0).toNat % 3
theorem joinN_app (a b : List (List UInt8)) : joinN (a ++ b) = joinN a ++ joinN b := by simp [joinN]
end Go.Proofs.YtmapdjdnnhlpiaaGreatDoor
namespace Go.Proofs.YtmapdjdnnhlpiaaGreatDoor
open Go.RowKit
set_option maxRecDepth 8000
def atsK (κ : Nat → Nat) (l : List (List UInt8)) (n : Nat) : List Int := (List.range n).map fun i => ((atK κ l i : Nat) : Int)
theorem atsK_snoc (κ : Nat → Nat) (l : List (List UInt8)) (n : Nat) : atsK κ l (n + 1) = atsK κ l n ++ [((atK κ l n : Nat) : Int)] := by simp [atsK, List.range_succ]
theorem atsK_len (κ : Nat → Nat) (l : List (List UInt8)) (n : Nat) : (atsK κ l n).length = n := by simp [atsK]
theorem atsK_get (κ : Nat → Nat) (l : List (List UInt8)) {i n : Nat} (h : i < n) : (atsK κ l n)[i]? = some ((atK κ l i : Nat) : Int) := by
  unfold atsK
  rw [List.getElem?_map, List.getElem?_range h]; rfl
theorem preK_len (k : Nat) : (preK k).length ≤ 1 := by unfold preK; split <;> simp
theorem newK_len (κ : Nat → Nat) : ∀ (l : List (List UInt8)) (k : Nat), (newK κ k l).length ≤ 2 * l.length
  | [], _ => by simp [newK]
  | x :: l, k => by
    rw [newK_cons]
    have := newK_len κ l (k + 1)
    have := preK_len (κ k)
    simp only [List.length_append, List.length_cons]; omega
theorem takeS {α : Type} {l : List α} {i : Nat} {x : α} (h : l[i]? = some x) : l.take (i + 1) = l.take i ++ [x] := by rw [List.take_add_one, h]; rfl
theorem bytes_flat : Plain byteRow 1 := ⟨fun _ => rfl, fun _ => rfl⟩
theorem bytes_nmR {l : List UInt8} {m : Nat} : nmR m (l.map byteRow) = true := bytes_flat.nmR l
set_option maxHeartbeats 16000000 in
theorem parseBlanksH (s : List UInt8) (more : List UInt8) : HFn Tryz.prog 6 [.v (str s), .sl (more.map byteRow)] (.v (.bool true)) := by
  refine HCalls_body (fn := Tryz.f6) 152 [4] (by kernel_rfl) rfl (by kernel_rfl) (HW.run 400 (by kernel_rfl) ?_)
  simp (config := { decide := true }) only [go_sem, Int.reduceToNat, Nat.reduceAdd, Nat.reduceSub, Nat.reduceMul, Nat.reduceBEq, reduceIte, reduceCtorEq]
  refine callX_fn 3 (parHead) (by simp only [go_sem]) rfl ?_
  rcases tfP ((900 : Int) < (s.length : Int)) with ⟨d1, c1⟩ | ⟨d1, c1⟩
  · simp (config := { decide := true }) only [go_sem, Int.reduceToNat, Nat.reduceAdd, Nat.reduceSub, Nat.reduceMul, Nat.reduceBEq, reduceIte, reduceCtorEq, c1]
  rcases tfP ((30 : Int) < (more.length : Int)) with ⟨d2, c2⟩ | ⟨d2, c2⟩
  · simp (config := { decide := true }) only [go_sem, Int.reduceToNat, Nat.reduceAdd, Nat.reduceSub, Nat.reduceMul, Nat.reduceBEq, reduceIte, reduceCtorEq, c1, c2, List.length_map]
  simp (config := { decide := true }) only [go_sem, Int.reduceToNat, Nat.reduceAdd, Nat.reduceSub, Nat.reduceMul, Nat.reduceBEq, reduceIte, reduceCtorEq, c1, c2, List.length_map]
  refine callX_nm (refLinesS s (by omega)) rfl rfl ?_
  have hll := linesB_length s
  have hxl : ∀ x ∈ linesB s, x.length ≤ 900 := fun x hx => Nat.le_trans (line_len hx) (by omega)
  simp (config := { decide := true }) only [go_sem, Int.reduceToNat, Nat.reduceAdd, Nat.reduceSub, Nat.reduceMul, Nat.reduceBEq, reduceIte, reduceCtorEq]
  have hK : ∀ i, kOf more i < 3 := fun i => by unfold kOf; split <;> omega
  have hrun : ∀ l, l = linesB s → linesB s = l := fun l h => h.symm
  have hP := parse_newK (kOf more) (s := s) (by omega)
  have hE := parse_ren (φ := phiK (kOf more) (linesB s)) (s := s) (t := joinN (newK (kOf more) 0 (linesB s))) (by omega)
  have hpl : ∀ i, phiK (kOf more) (linesB s) ((i + 1 : Nat) : Int) = ((atK (kOf more) (linesB s) i : Nat) : Int) := phiK_at (kOf more) (linesB s)
  generalize linesB s = l at *
  generalize hκ : kOf more = κ at *
  refine HW.loopG (fun k T H => ∃ (i : Nat) (u : List UInt8), k = l.length - i ∧ i ≤ l.length ∧ u = joinN (newK κ 0 (l.take i)) ∧ u.length ≤ i * 4000000 ∧ T 0 = .v (str s) ∧ T 1 = .sl (more.map byteRow) ∧ T 5 = .v (.bool true) ∧ T 6 = .sl (strs l) ∧ T 7 = .v (str u) ∧ T 8 = .hd 0 0 i ∧ T 9 = .v (.int .i64 ((newK κ 0 (l.take i)).length + 1 : Nat)) ∧ T 10 = .v (.int .i64 i) ∧ H = [some ⟨3, 1, ints (atsK κ l i)⟩]) l.length ⟨_, _, Ghost.nil 8 3 1 rfl, 0, [], rfl, by omega, rfl, by simp, rfl, rfl, rfl, rfl, rfl, rfl, rfl, rfl, rfl⟩ ?_
  rintro k T H ⟨i, u, rfl, hil, hu, hul, h0, h1, h5, h6, h7, h8, h9, h10, rfl⟩
  refine HW.run 200 (by kernel_rfl) ?_
  have hnl := newK_len κ (l.take i) 0
  rw [List.length_take] at hnl
  by_cases hlt : i < l.length
  · have hlt' : ((i : Int) < (l.length : Int)) = True := eq_true (by omega)
    have hx : l[i]? = some l[i] := List.getElem?_eq_getElem hlt
    have hxx := hxl _ (List.getElem_mem hlt)
    have hsn := newK_snoc κ l[i] (l.take i)
    have hatk : atsK κ l (i + 1) = atsK κ l i ++ [((atK κ l i : Nat) : Int)] := atsK_snoc κ l i
    rw [← takeS hx, List.length_take, Nat.min_eq_left hil] at hsn
    have hatd : atK κ l i = (newK κ 0 (l.take i)).length + (preK (κ i)).length + 1 := rfl
    generalize l[i] = x at hx hxx hsn
    generalize newK κ 0 (l.take i) = nk at *
    rcases tfP ((0 : Int) < (more.length : Int)) with ⟨e1, q1⟩ | ⟨e1, q1⟩
    · have hne : more ≠ [] := fun h => by rw [h] at e1; simp at e1
      have hb : more[i % more.length]? = some (more[i % more.length]'(Nat.mod_lt _ (by omega))) := List.getElem?_eq_getElem _
      have q2 : (i : Int).tmod (more.length : Int) = ((i % more.length : Nat) : Int) := by
        rw [Int.tmod_eq_emod_of_nonneg (by omega)]; rfl
      have q3 : ((more.length : Int) = 0) = False := eq_false (by omega)
      have q5 : (((i % more.length : Nat) : Int) < (more.length : Int)) = True := eq_true (by have := Nat.mod_lt i (show 0 < more.length by omega); omega)
      have hkk : kOf more i = (more[i % more.length]'(Nat.mod_lt _ (by omega))).toNat % 3 := by unfold kOf; rw [if_neg hne, hb]; rfl
      rw [hκ] at hkk
      generalize more[i % more.length]'(Nat.mod_lt _ (by omega)) = b at hb hkk
      have hb' : (more.map byteRow)[i % more.length]? = some [.v (.int .u8 (b.toNat : Int))] := by rw [List.getElem?_map, hb]; rfl
      have hbn := b.toNat_lt
      have q4 : (IntKind.i64.wrap (b.toNat : Int)).tmod 3 = ((κ i : Nat) : Int) := by
        rw [w64 (by omega) (by omega), Int.tmod_eq_emod_of_nonneg (by omega), hkk]; omega
      have h3 := hK i
      obtain hk | hk | hk : κ i = 0 ∨ κ i = 1 ∨ κ i = 2 := by omega
      all_goals rw [hk] at q4
      · have q4 : (IntKind.i64.wrap (b.toNat : Int)).tmod 3 = 0 := q4
        rw [hk] at hsn hatd
        have hatd : atK κ l i = nk.length + 1 := hatd
        have hbase : ∃ base : List UInt8, base = u ∧ base.length ≤ i * 4000000 + 10 := ⟨_, rfl, by exact Nat.le_trans hul (Nat.le_add_right _ _)⟩
        obtain ⟨base, hbe, hbl⟩ := hbase
        simp (config := { decide := true }) only [go_sem, Int.reduceToNat, Nat.reduceAdd, Nat.reduceSub, Nat.reduceMul, Nat.reduceBEq, reduceIte, reduceCtorEq, h0, h1, h5, h6, h7, h8, h9, h10, hlt', hx, List.length_map, RowsLen_bytes, atsK_len, q1, q2, q3, hb', q4, q5]
        repeat (with_reducible refine And.intro ?_ ?_; · (with_reducible and_intros) <;> omega)
        refine callX_nm (refWordsS x (by omega)) rfl rfl ?_
        have hwn := wordsB_length x
        have hwl : ∀ w ∈ wordsB x, w.length ≤ 900 := fun w hw => Nat.le_trans (word_len hw) (by omega)
        generalize wordsB x = ws at *
        simp (config := { decide := true }) only [go_sem, Int.reduceToNat, Nat.reduceAdd, Nat.reduceSub, Nat.reduceMul, Nat.reduceBEq, reduceIte, reduceCtorEq, h0, h1, h5, h6, h7, h8, h9, h10, hlt', hx, List.length_map, RowsLen_bytes, atsK_len, q1, q2, q3, hb', q4, q5]
        refine HW.loopG (fun k T H => ∃ (j : Nat) (v : List UInt8), k = ws.length - j ∧ j ≤ ws.length ∧ v = base ++ rowK 0 (ws.take j) ∧ v.length ≤ i * 4000000 + 10 + j * 1000 ∧ T 0 = .v (str s) ∧ T 1 = .sl (more.map byteRow) ∧ T 5 = .v (.bool true) ∧ T 6 = .sl (strs l) ∧ T 7 = .v (str v) ∧ T 8 = .hd 0 0 (i + 1) ∧ T 9 = .v (.int .i64 (nk.length + 1 : Nat)) ∧ T 10 = .v (.int .i64 i) ∧ T 11 = .v (.int .i64 0) ∧ T 12 = .sl (strs ws) ∧ T 13 = .v (.int .i64 j) ∧ H = [some ⟨3, 1, ints (atsK κ l (i + 1))⟩]) ws.length ⟨_, _, Ghost.trunc [0, 1, 5, 6, 7, 8, 9, 10, 11, 12, 13] 1 (by omega) ?_ ?_, 0, base, rfl, by omega, by simp [rowK], by omega, ?_, ?_, ?_, ?_, ?_, ?_, ?_, ?_, ?_, ?_, ?_, ?_⟩ ?_
        any_goals first | (simp (config := { decide := true }) only [go_sem, Nat.reduceBEq, reduceIte, h0, h1, h5, h6, h8, h9, h10]; done) | (simp (config := { decide := true }) only [go_sem, Nat.reduceBEq, reduceIte, h7]; rw [hbe]; done) | (simp (config := { decide := true }) only [go_sem, Nat.reduceBEq, reduceIte, w1]; done) | (simp (config := { decide := true }) only [go_sem, Nat.reduceBEq, reduceIte]; rfl) | (simp (config := { decide := true }) only [go_sem, Nat.reduceBEq, reduceIte, hatk, hatd]; done) | (simp (config := { decide := true }) only [go_sem, Int.reduceToNat, Nat.reduceAdd, Nat.reduceSub, Nat.reduceMul, Nat.reduceBEq, reduceIte, reduceCtorEq, h0, h1, h5, h6, h7, h8, h9, h10, bytes_nmR, List.length_append, List.length_cons, List.length_nil]; done)
        try any_goals (simp only [hatk, hatd, ints, irow, List.map_append, List.map_cons, List.map_nil]; done)
        clear h0 h1 h5 h6 h7 h8 h9 h10
        rintro k T H ⟨j, v, rfl, hjl, hv, hvl, h0, h1, h5, h6, h7, h8, h9, h10, h11, h12, h13, rfl⟩
        refine HW.run 200 (by kernel_rfl) ?_
        by_cases hjt : j < ws.length
        · have hjt' : ((j : Int) < (ws.length : Int)) = True := eq_true (by omega)
          have hy : ws[j]? = some ws[j] := List.getElem?_eq_getElem hjt
          have hyl := hwl _ (List.getElem_mem hjt)
          have hr := rowK_snoc 0 ws[j] (ws.take j)
          rw [← takeS hy] at hr
          generalize ws[j] = y at hy hyl hr
          have hr' : base ++ rowK 0 (ws.take (j + 1)) = v ++ [32] ++ y := by rw [hr, hv]; simp [sufK]
          have hvl' : (v ++ [32] ++ y).length ≤ i * 4000000 + 10 + (j + 1) * 1000 := by simp only [List.length_append, List.length_cons, List.length_nil]; omega
          simp (config := { decide := true }) only [go_sem, Int.reduceToNat, Nat.reduceAdd, Nat.reduceSub, Nat.reduceMul, Nat.reduceBEq, reduceIte, reduceCtorEq, h0, h1, h5, h6, h7, h8, h9, h10, h11, h12, h13, hjt', hy]
          repeat (with_reducible refine And.intro ?_ ?_; · (with_reducible and_intros) <;> omega)
          refine ⟨_, _, Ghost.refl, ws.length - (j + 1), by omega, j + 1, _, rfl, by omega, hr'.symm, hvl', ?_, ?_, ?_, ?_, ?_, ?_, ?_, ?_, ?_, ?_, ?_, rfl⟩
          all_goals first | (simp (config := { decide := true }) only [go_sem, Nat.reduceBEq, reduceIte, h0, h1, h5, h6, h8, h9, h10, h11, h12]; done) | (simp (config := { decide := true }) only [go_sem, Nat.reduceBEq, reduceIte]; rw [w64 (by omega) (by omega)]; rfl) | (simp (config := { decide := true }) only [go_sem, Nat.reduceBEq, reduceIte, h7]; done) | (simp (config := { decide := true }) only [go_sem, Nat.reduceBEq, reduceIte, h7]; simp; done)
        · obtain rfl : j = ws.length := by omega
          have hjt' : ((ws.length : Int) < (ws.length : Int)) = False := eq_false (by omega)
          rw [List.take_length] at hv
          have hnx : (newK κ 0 (l.take (i + 1))).length = nk.length + 1 := by rw [hsn]; simp [preK]
          have hjo : joinN (newK κ 0 (l.take (i + 1))) = v ++ [10] := by rw [hsn, joinN_app, joinN_app, ← hu, hv, hbe]; simp [joinN, preK]
          have hul2 : (v ++ [10]).length ≤ (i + 1) * 4000000 := by simp only [List.length_append, List.length_cons, List.length_nil]; omega
          simp (config := { decide := true }) only [go_sem, Int.reduceToNat, Nat.reduceAdd, Nat.reduceSub, Nat.reduceMul, Nat.reduceBEq, reduceIte, reduceCtorEq, h0, h1, h5, h6, h7, h8, h9, h10, h11, h12, h13, hjt']
          repeat (with_reducible refine And.intro ?_ ?_; · (with_reducible and_intros) <;> omega)
          refine ⟨_, _, Ghost.refl, l.length - (i + 1), by omega, i + 1, _, rfl, by omega, hjo.symm, hul2, ?_, ?_, ?_, ?_, ?_, ?_, ?_, ?_, rfl⟩
          all_goals first | (simp (config := { decide := true }) only [go_sem, Nat.reduceBEq, reduceIte, h0, h1, h5, h6, h8]; done) | (simp (config := { decide := true }) only [go_sem, Nat.reduceBEq, reduceIte]; rw [w64 (by omega) (by omega)]; rfl) | (simp (config := { decide := true }) only [go_sem, Nat.reduceBEq, reduceIte, h7]; done) | (simp (config := { decide := true }) only [go_sem, Nat.reduceBEq, reduceIte]; rw [w64 (by omega) (by omega), hnx]; done) | (simp (config := { decide := true }) only [go_sem, Nat.reduceBEq, reduceIte]; rw [w64 (by omega) (by omega), hnx]; omega) | (simp (config := { decide := true }) only [go_sem, Nat.reduceBEq, reduceIte]; rw [w64 (by omega) (by omega), hnx]; rfl)
      · have q4 : (IntKind.i64.wrap (b.toNat : Int)).tmod 3 = 1 := q4
        rw [hk] at hsn hatd
        have hatd : atK κ l i = nk.length + 2 := hatd
        have hbase : ∃ base : List UInt8, base = u ++ [32, 32, 10] ∧ base.length ≤ i * 4000000 + 10 := ⟨_, rfl, by rw [List.length_append]; exact Nat.add_le_add hul (by decide)⟩
        obtain ⟨base, hbe, hbl⟩ := hbase
        have w1 : IntKind.i64.wrap (((nk.length + 1 : Nat) : Int) + 1) = ((nk.length + 2 : Nat) : Int) := by rw [w64 (by omega) (by omega)]; rfl
        simp (config := { decide := true }) only [go_sem, Int.reduceToNat, Nat.reduceAdd, Nat.reduceSub, Nat.reduceMul, Nat.reduceBEq, reduceIte, reduceCtorEq, h0, h1, h5, h6, h7, h8, h9, h10, hlt', hx, List.length_map, RowsLen_bytes, atsK_len, w1, q1, q2, q3, hb', q4, q5]
        repeat (with_reducible refine And.intro ?_ ?_; · (with_reducible and_intros) <;> omega)
        refine callX_nm (refWordsS x (by omega)) rfl rfl ?_
        have hwn := wordsB_length x
        have hwl : ∀ w ∈ wordsB x, w.length ≤ 900 := fun w hw => Nat.le_trans (word_len hw) (by omega)
        generalize wordsB x = ws at *
        simp (config := { decide := true }) only [go_sem, Int.reduceToNat, Nat.reduceAdd, Nat.reduceSub, Nat.reduceMul, Nat.reduceBEq, reduceIte, reduceCtorEq, h0, h1, h5, h6, h7, h8, h9, h10, hlt', hx, List.length_map, RowsLen_bytes, atsK_len, w1, q1, q2, q3, hb', q4, q5]
        refine HW.loopG (fun k T H => ∃ (j : Nat) (v : List UInt8), k = ws.length - j ∧ j ≤ ws.length ∧ v = base ++ rowK 1 (ws.take j) ∧ v.length ≤ i * 4000000 + 10 + j * 1000 ∧ T 0 = .v (str s) ∧ T 1 = .sl (more.map byteRow) ∧ T 5 = .v (.bool true) ∧ T 6 = .sl (strs l) ∧ T 7 = .v (str v) ∧ T 8 = .hd 0 0 (i + 1) ∧ T 9 = .v (.int .i64 (nk.length + 2 : Nat)) ∧ T 10 = .v (.int .i64 i) ∧ T 11 = .v (.int .i64 1) ∧ T 12 = .sl (strs ws) ∧ T 13 = .v (.int .i64 j) ∧ H = [some ⟨3, 1, ints (atsK κ l (i + 1))⟩]) ws.length ⟨_, _, Ghost.trunc [0, 1, 5, 6, 7, 8, 9, 10, 11, 12, 13] 1 (by omega) ?_ ?_, 0, base, rfl, by omega, by simp [rowK], by omega, ?_, ?_, ?_, ?_, ?_, ?_, ?_, ?_, ?_, ?_, ?_, ?_⟩ ?_
        any_goals first | (simp (config := { decide := true }) only [go_sem, Nat.reduceBEq, reduceIte, h0, h1, h5, h6, h8, h9, h10]; done) | (simp (config := { decide := true }) only [go_sem, Nat.reduceBEq, reduceIte, h7]; rw [hbe]; done) | (simp (config := { decide := true }) only [go_sem, Nat.reduceBEq, reduceIte, w1]; done) | (simp (config := { decide := true }) only [go_sem, Nat.reduceBEq, reduceIte]; rfl) | (simp (config := { decide := true }) only [go_sem, Nat.reduceBEq, reduceIte, hatk, hatd]; done) | (simp (config := { decide := true }) only [go_sem, Int.reduceToNat, Nat.reduceAdd, Nat.reduceSub, Nat.reduceMul, Nat.reduceBEq, reduceIte, reduceCtorEq, h0, h1, h5, h6, h7, h8, h9, h10, bytes_nmR, List.length_append, List.length_cons, List.length_nil]; done)
        try any_goals (simp only [hatk, hatd, ints, irow, List.map_append, List.map_cons, List.map_nil]; done)
        clear h0 h1 h5 h6 h7 h8 h9 h10
        rintro k T H ⟨j, v, rfl, hjl, hv, hvl, h0, h1, h5, h6, h7, h8, h9, h10, h11, h12, h13, rfl⟩
        refine HW.run 200 (by kernel_rfl) ?_
        by_cases hjt : j < ws.length
        · have hjt' : ((j : Int) < (ws.length : Int)) = True := eq_true (by omega)
          have hy : ws[j]? = some ws[j] := List.getElem?_eq_getElem hjt
          have hyl := hwl _ (List.getElem_mem hjt)
          have hr := rowK_snoc 1 ws[j] (ws.take j)
          rw [← takeS hy] at hr
          generalize ws[j] = y at hy hyl hr
          have hr' : base ++ rowK 1 (ws.take (j + 1)) = v ++ [32] ++ y := by rw [hr, hv]; simp [sufK]
          have hvl' : (v ++ [32] ++ y).length ≤ i * 4000000 + 10 + (j + 1) * 1000 := by simp only [List.length_append, List.length_cons, List.length_nil]; omega
          simp (config := { decide := true }) only [go_sem, Int.reduceToNat, Nat.reduceAdd, Nat.reduceSub, Nat.reduceMul, Nat.reduceBEq, reduceIte, reduceCtorEq, h0, h1, h5, h6, h7, h8, h9, h10, h11, h12, h13, hjt', hy]
          repeat (with_reducible refine And.intro ?_ ?_; · (with_reducible and_intros) <;> omega)
          refine ⟨_, _, Ghost.refl, ws.length - (j + 1), by omega, j + 1, _, rfl, by omega, hr'.symm, hvl', ?_, ?_, ?_, ?_, ?_, ?_, ?_, ?_, ?_, ?_, ?_, rfl⟩
          all_goals first | (simp (config := { decide := true }) only [go_sem, Nat.reduceBEq, reduceIte, h0, h1, h5, h6, h8, h9, h10, h11, h12]; done) | (simp (config := { decide := true }) only [go_sem, Nat.reduceBEq, reduceIte]; rw [w64 (by omega) (by omega)]; rfl) | (simp (config := { decide := true }) only [go_sem, Nat.reduceBEq, reduceIte, h7]; done) | (simp (config := { decide := true }) only [go_sem, Nat.reduceBEq, reduceIte, h7]; simp; done)
        · obtain rfl : j = ws.length := by omega
          have hjt' : ((ws.length : Int) < (ws.length : Int)) = False := eq_false (by omega)
          rw [List.take_length] at hv
          have hnx : (newK κ 0 (l.take (i + 1))).length = nk.length + 2 := by rw [hsn]; simp [preK]
          have hjo : joinN (newK κ 0 (l.take (i + 1))) = v ++ [10] := by rw [hsn, joinN_app, joinN_app, ← hu, hv, hbe]; simp [joinN, preK]
          have hul2 : (v ++ [10]).length ≤ (i + 1) * 4000000 := by simp only [List.length_append, List.length_cons, List.length_nil]; omega
          simp (config := { decide := true }) only [go_sem, Int.reduceToNat, Nat.reduceAdd, Nat.reduceSub, Nat.reduceMul, Nat.reduceBEq, reduceIte, reduceCtorEq, h0, h1, h5, h6, h7, h8, h9, h10, h11, h12, h13, hjt']
          repeat (with_reducible refine And.intro ?_ ?_; · (with_reducible and_intros) <;> omega)
          refine ⟨_, _, Ghost.refl, l.length - (i + 1), by omega, i + 1, _, rfl, by omega, hjo.symm, hul2, ?_, ?_, ?_, ?_, ?_, ?_, ?_, ?_, rfl⟩
          all_goals first | (simp (config := { decide := true }) only [go_sem, Nat.reduceBEq, reduceIte, h0, h1, h5, h6, h8]; done) | (simp (config := { decide := true }) only [go_sem, Nat.reduceBEq, reduceIte]; rw [w64 (by omega) (by omega)]; rfl) | (simp (config := { decide := true }) only [go_sem, Nat.reduceBEq, reduceIte, h7]; done) | (simp (config := { decide := true }) only [go_sem, Nat.reduceBEq, reduceIte]; rw [w64 (by omega) (by omega), hnx]; done) | (simp (config := { decide := true }) only [go_sem, Nat.reduceBEq, reduceIte]; rw [w64 (by omega) (by omega), hnx]; omega) | (simp (config := { decide := true }) only [go_sem, Nat.reduceBEq, reduceIte]; rw [w64 (by omega) (by omega), hnx]; rfl)
      · have q4 : (IntKind.i64.wrap (b.toNat : Int)).tmod 3 = 2 := q4
        rw [hk] at hsn hatd
        have hatd : atK κ l i = nk.length + 1 := hatd
        have hbase : ∃ base : List UInt8, base = u ∧ base.length ≤ i * 4000000 + 10 := ⟨_, rfl, by exact Nat.le_trans hul (Nat.le_add_right _ _)⟩
        obtain ⟨base, hbe, hbl⟩ := hbase
        simp (config := { decide := true }) only [go_sem, Int.reduceToNat, Nat.reduceAdd, Nat.reduceSub, Nat.reduceMul, Nat.reduceBEq, reduceIte, reduceCtorEq, h0, h1, h5, h6, h7, h8, h9, h10, hlt', hx, List.length_map, RowsLen_bytes, atsK_len, q1, q2, q3, hb', q4, q5]
        repeat (with_reducible refine And.intro ?_ ?_; · (with_reducible and_intros) <;> omega)
        refine callX_nm (refWordsS x (by omega)) rfl rfl ?_
        have hwn := wordsB_length x
        have hwl : ∀ w ∈ wordsB x, w.length ≤ 900 := fun w hw => Nat.le_trans (word_len hw) (by omega)
        generalize wordsB x = ws at *
        simp (config := { decide := true }) only [go_sem, Int.reduceToNat, Nat.reduceAdd, Nat.reduceSub, Nat.reduceMul, Nat.reduceBEq, reduceIte, reduceCtorEq, h0, h1, h5, h6, h7, h8, h9, h10, hlt', hx, List.length_map, RowsLen_bytes, atsK_len, q1, q2, q3, hb', q4, q5]
        refine HW.loopG (fun k T H => ∃ (j : Nat) (v : List UInt8), k = ws.length - j ∧ j ≤ ws.length ∧ v = base ++ rowK 2 (ws.take j) ∧ v.length ≤ i * 4000000 + 10 + j * 1000 ∧ T 0 = .v (str s) ∧ T 1 = .sl (more.map byteRow) ∧ T 5 = .v (.bool true) ∧ T 6 = .sl (strs l) ∧ T 7 = .v (str v) ∧ T 8 = .hd 0 0 (i + 1) ∧ T 9 = .v (.int .i64 (nk.length + 1 : Nat)) ∧ T 10 = .v (.int .i64 i) ∧ T 11 = .v (.int .i64 2) ∧ T 12 = .sl (strs ws) ∧ T 13 = .v (.int .i64 j) ∧ H = [some ⟨3, 1, ints (atsK κ l (i + 1))⟩]) ws.length ⟨_, _, Ghost.trunc [0, 1, 5, 6, 7, 8, 9, 10, 11, 12, 13] 1 (by omega) ?_ ?_, 0, base, rfl, by omega, by simp [rowK], by omega, ?_, ?_, ?_, ?_, ?_, ?_, ?_, ?_, ?_, ?_, ?_, ?_⟩ ?_
        any_goals first | (simp (config := { decide := true }) only [go_sem, Nat.reduceBEq, reduceIte, h0, h1, h5, h6, h8, h9, h10]; done) | (simp (config := { decide := true }) only [go_sem, Nat.reduceBEq, reduceIte, h7]; rw [hbe]; done) | (simp (config := { decide := true }) only [go_sem, Nat.reduceBEq, reduceIte, w1]; done) | (simp (config := { decide := true }) only [go_sem, Nat.reduceBEq, reduceIte]; rfl) | (simp (config := { decide := true }) only [go_sem, Nat.reduceBEq, reduceIte, hatk, hatd]; done) | (simp (config := { decide := true }) only [go_sem, Int.reduceToNat, Nat.reduceAdd, Nat.reduceSub, Nat.reduceMul, Nat.reduceBEq, reduceIte, reduceCtorEq, h0, h1, h5, h6, h7, h8, h9, h10, bytes_nmR, List.length_append, List.length_cons, List.length_nil]; done)
        try any_goals (simp only [hatk, hatd, ints, irow, List.map_append, List.map_cons, List.map_nil]; done)
        clear h0 h1 h5 h6 h7 h8 h9 h10
        rintro k T H ⟨j, v, rfl, hjl, hv, hvl, h0, h1, h5, h6, h7, h8, h9, h10, h11, h12, h13, rfl⟩
        refine HW.run 200 (by kernel_rfl) ?_
        by_cases hjt : j < ws.length
        · have hjt' : ((j : Int) < (ws.length : Int)) = True := eq_true (by omega)
          have hy : ws[j]? = some ws[j] := List.getElem?_eq_getElem hjt
          have hyl := hwl _ (List.getElem_mem hjt)
          have hr := rowK_snoc 2 ws[j] (ws.take j)
          rw [← takeS hy] at hr
          generalize ws[j] = y at hy hyl hr
          have hr' : base ++ rowK 2 (ws.take (j + 1)) = v ++ [32] ++ y ++ [32, 32] := by rw [hr, hv]; simp [sufK]
          have hvl' : (v ++ [32] ++ y ++ [32, 32]).length ≤ i * 4000000 + 10 + (j + 1) * 1000 := by simp only [List.length_append, List.length_cons, List.length_nil]; omega
          simp (config := { decide := true }) only [go_sem, Int.reduceToNat, Nat.reduceAdd, Nat.reduceSub, Nat.reduceMul, Nat.reduceBEq, reduceIte, reduceCtorEq, h0, h1, h5, h6, h7, h8, h9, h10, h11, h12, h13, hjt', hy]
          repeat (with_reducible refine And.intro ?_ ?_; · (with_reducible and_intros) <;> omega)
          refine ⟨_, _, Ghost.refl, ws.length - (j + 1), by omega, j + 1, _, rfl, by omega, hr'.symm, hvl', ?_, ?_, ?_, ?_, ?_, ?_, ?_, ?_, ?_, ?_, ?_, rfl⟩
          all_goals first | (simp (config := { decide := true }) only [go_sem, Nat.reduceBEq, reduceIte, h0, h1, h5, h6, h8, h9, h10, h11, h12]; done) | (simp (config := { decide := true }) only [go_sem, Nat.reduceBEq, reduceIte]; rw [w64 (by omega) (by omega)]; rfl) | (simp (config := { decide := true }) only [go_sem, Nat.reduceBEq, reduceIte, h7]; done) | (simp (config := { decide := true }) only [go_sem, Nat.reduceBEq, reduceIte, h7]; simp; done)
        · obtain rfl : j = ws.length := by omega
          have hjt' : ((ws.length : Int) < (ws.length : Int)) = False := eq_false (by omega)
          rw [List.take_length] at hv
          have hnx : (newK κ 0 (l.take (i + 1))).length = nk.length + 1 := by rw [hsn]; simp [preK]
          have hjo : joinN (newK κ 0 (l.take (i + 1))) = v ++ [10] := by rw [hsn, joinN_app, joinN_app, ← hu, hv, hbe]; simp [joinN, preK]
          have hul2 : (v ++ [10]).length ≤ (i + 1) * 4000000 := by simp only [List.length_append, List.length_cons, List.length_nil]; omega
          simp (config := { decide := true }) only [go_sem, Int.reduceToNat, Nat.reduceAdd, Nat.reduceSub, Nat.reduceMul, Nat.reduceBEq, reduceIte, reduceCtorEq, h0, h1, h5, h6, h7, h8, h9, h10, h11, h12, h13, hjt']
          repeat (with_reducible refine And.intro ?_ ?_; · (with_reducible and_intros) <;> omega)
          refine ⟨_, _, Ghost.refl, l.length - (i + 1), by omega, i + 1, _, rfl, by omega, hjo.symm, hul2, ?_, ?_, ?_, ?_, ?_, ?_, ?_, ?_, rfl⟩
          all_goals first | (simp (config := { decide := true }) only [go_sem, Nat.reduceBEq, reduceIte, h0, h1, h5, h6, h8]; done) | (simp (config := { decide := true }) only [go_sem, Nat.reduceBEq, reduceIte]; rw [w64 (by omega) (by omega)]; rfl) | (simp (config := { decide := true }) only [go_sem, Nat.reduceBEq, reduceIte, h7]; done) | (simp (config := { decide := true }) only [go_sem, Nat.reduceBEq, reduceIte]; rw [w64 (by omega) (by omega), hnx]; done) | (simp (config := { decide := true }) only [go_sem, Nat.reduceBEq, reduceIte]; rw [w64 (by omega) (by omega), hnx]; omega) | (simp (config := { decide := true }) only [go_sem, Nat.reduceBEq, reduceIte]; rw [w64 (by omega) (by omega), hnx]; rfl)
    · have hme : more = [] := List.length_eq_zero_iff.1 (by omega)
      have hk : κ i = 0 := by rw [← hκ]; unfold kOf; rw [if_pos hme]
      rw [hk] at hsn hatd
      have hatd : atK κ l i = nk.length + 1 := hatd
      have hbase : ∃ base : List UInt8, base = u ∧ base.length ≤ i * 4000000 + 10 := ⟨_, rfl, by exact Nat.le_trans hul (Nat.le_add_right _ _)⟩
      obtain ⟨base, hbe, hbl⟩ := hbase
      simp (config := { decide := true }) only [go_sem, Int.reduceToNat, Nat.reduceAdd, Nat.reduceSub, Nat.reduceMul, Nat.reduceBEq, reduceIte, reduceCtorEq, h0, h1, h5, h6, h7, h8, h9, h10, hlt', hx, List.length_map, RowsLen_bytes, atsK_len, q1]
      repeat (with_reducible refine And.intro ?_ ?_; · (with_reducible and_intros) <;> omega)
      refine callX_nm (refWordsS x (by omega)) rfl rfl ?_
      have hwn := wordsB_length x
      have hwl : ∀ w ∈ wordsB x, w.length ≤ 900 := fun w hw => Nat.le_trans (word_len hw) (by omega)
      generalize wordsB x = ws at *
      simp (config := { decide := true }) only [go_sem, Int.reduceToNat, Nat.reduceAdd, Nat.reduceSub, Nat.reduceMul, Nat.reduceBEq, reduceIte, reduceCtorEq, h0, h1, h5, h6, h7, h8, h9, h10, hlt', hx, List.length_map, RowsLen_bytes, atsK_len, q1]
      refine HW.loopG (fun k T H => ∃ (j : Nat) (v : List UInt8), k = ws.length - j ∧ j ≤ ws.length ∧ v = base ++ rowK 0 (ws.take j) ∧ v.length ≤ i * 4000000 + 10 + j * 1000 ∧ T 0 = .v (str s) ∧ T 1 = .sl (more.map byteRow) ∧ T 5 = .v (.bool true) ∧ T 6 = .sl (strs l) ∧ T 7 = .v (str v) ∧ T 8 = .hd 0 0 (i + 1) ∧ T 9 = .v (.int .i64 (nk.length + 1 : Nat)) ∧ T 10 = .v (.int .i64 i) ∧ T 11 = .v (.int .i64 0) ∧ T 12 = .sl (strs ws) ∧ T 13 = .v (.int .i64 j) ∧ H = [some ⟨3, 1, ints (atsK κ l (i + 1))⟩]) ws.length ⟨_, _, Ghost.trunc [0, 1, 5, 6, 7, 8, 9, 10, 11, 12, 13] 1 (by omega) ?_ ?_, 0, base, rfl, by omega, by simp [rowK], by omega, ?_, ?_, ?_, ?_, ?_, ?_, ?_, ?_, ?_, ?_, ?_, ?_⟩ ?_
      any_goals first | (simp (config := { decide := true }) only [go_sem, Nat.reduceBEq, reduceIte, h0, h1, h5, h6, h8, h9, h10]; done) | (simp (config := { decide := true }) only [go_sem, Nat.reduceBEq, reduceIte, h7]; rw [hbe]; done) | (simp (config := { decide := true }) only [go_sem, Nat.reduceBEq, reduceIte, w1]; done) | (simp (config := { decide := true }) only [go_sem, Nat.reduceBEq, reduceIte]; rfl) | (simp (config := { decide := true }) only [go_sem, Nat.reduceBEq, reduceIte, hatk, hatd]; done) | (simp (config := { decide := true }) only [go_sem, Int.reduceToNat, Nat.reduceAdd, Nat.reduceSub, Nat.reduceMul, Nat.reduceBEq, reduceIte, reduceCtorEq, h0, h1, h5, h6, h7, h8, h9, h10, bytes_nmR, List.length_append, List.length_cons, List.length_nil]; done)
      try any_goals (simp only [hatk, hatd, ints, irow, List.map_append, List.map_cons, List.map_nil]; done)
      clear h0 h1 h5 h6 h7 h8 h9 h10
      rintro k T H ⟨j, v, rfl, hjl, hv, hvl, h0, h1, h5, h6, h7, h8, h9, h10, h11, h12, h13, rfl⟩
      refine HW.run 200 (by kernel_rfl) ?_
      by_cases hjt : j < ws.length
      · have hjt' : ((j : Int) < (ws.length : Int)) = True := eq_true (by omega)
        have hy : ws[j]? = some ws[j] := List.getElem?_eq_getElem hjt
        have hyl := hwl _ (List.getElem_mem hjt)
        have hr := rowK_snoc 0 ws[j] (ws.take j)
        rw [← takeS hy] at hr
        generalize ws[j] = y at hy hyl hr
        have hr' : base ++ rowK 0 (ws.take (j + 1)) = v ++ [32] ++ y := by rw [hr, hv]; simp [sufK]
        have hvl' : (v ++ [32] ++ y).length ≤ i * 4000000 + 10 + (j + 1) * 1000 := by simp only [List.length_append, List.length_cons, List.length_nil]; omega
        simp (config := { decide := true }) only [go_sem, Int.reduceToNat, Nat.reduceAdd, Nat.reduceSub, Nat.reduceMul, Nat.reduceBEq, reduceIte, reduceCtorEq, h0, h1, h5, h6, h7, h8, h9, h10, h11, h12, h13, hjt', hy]
        repeat (with_reducible refine And.intro ?_ ?_; · (with_reducible and_intros) <;> omega)
        refine ⟨_, _, Ghost.refl, ws.length - (j + 1), by omega, j + 1, _, rfl, by omega, hr'.symm, hvl', ?_, ?_, ?_, ?_, ?_, ?_, ?_, ?_, ?_, ?_, ?_, rfl⟩
        all_goals first | (simp (config := { decide := true }) only [go_sem, Nat.reduceBEq, reduceIte, h0, h1, h5, h6, h8, h9, h10, h11, h12]; done) | (simp (config := { decide := true }) only [go_sem, Nat.reduceBEq, reduceIte]; rw [w64 (by omega) (by omega)]; rfl) | (simp (config := { decide := true }) only [go_sem, Nat.reduceBEq, reduceIte, h7]; done) | (simp (config := { decide := true }) only [go_sem, Nat.reduceBEq, reduceIte, h7]; simp; done)
      · obtain rfl : j = ws.length := by omega
        have hjt' : ((ws.length : Int) < (ws.length : Int)) = False := eq_false (by omega)
        rw [List.take_length] at hv
        have hnx : (newK κ 0 (l.take (i + 1))).length = nk.length + 1 := by rw [hsn]; simp [preK]
        have hjo : joinN (newK κ 0 (l.take (i + 1))) = v ++ [10] := by rw [hsn, joinN_app, joinN_app, ← hu, hv, hbe]; simp [joinN, preK]
        have hul2 : (v ++ [10]).length ≤ (i + 1) * 4000000 := by simp only [List.length_append, List.length_cons, List.length_nil]; omega
        simp (config := { decide := true }) only [go_sem, Int.reduceToNat, Nat.reduceAdd, Nat.reduceSub, Nat.reduceMul, Nat.reduceBEq, reduceIte, reduceCtorEq, h0, h1, h5, h6, h7, h8, h9, h10, h11, h12, h13, hjt']
        repeat (with_reducible refine And.intro ?_ ?_; · (with_reducible and_intros) <;> omega)
        refine ⟨_, _, Ghost.refl, l.length - (i + 1), by omega, i + 1, _, rfl, by omega, hjo.symm, hul2, ?_, ?_, ?_, ?_, ?_, ?_, ?_, ?_, rfl⟩
        all_goals first | (simp (config := { decide := true }) only [go_sem, Nat.reduceBEq, reduceIte, h0, h1, h5, h6, h8]; done) | (simp (config := { decide := true }) only [go_sem, Nat.reduceBEq, reduceIte]; rw [w64 (by omega) (by omega)]; rfl) | (simp (config := { decide := true }) only [go_sem, Nat.reduceBEq, reduceIte, h7]; done) | (simp (config := { decide := true }) only [go_sem, Nat.reduceBEq, reduceIte]; rw [w64 (by omega) (by omega), hnx]; done) | (simp (config := { decide := true }) only [go_sem, Nat.reduceBEq, reduceIte]; rw [w64 (by omega) (by omega), hnx]; omega) | (simp (config := { decide := true }) only [go_sem, Nat.reduceBEq, reduceIte]; rw [w64 (by omega) (by omega), hnx]; rfl)
  obtain rfl : i = l.length := by omega
  have hlt' : ((l.length : Int) < (l.length : Int)) = False := eq_false (by omega)
  rw [List.take_length] at hu hnl h9
  rcases tfP ((4000 : Int) < (u.length : Int)) with ⟨d3, c3⟩ | ⟨d3, c3⟩
  · simp (config := { decide := true }) only [go_sem, Int.reduceToNat, Nat.reduceAdd, Nat.reduceSub, Nat.reduceMul, Nat.reduceBEq, reduceIte, reduceCtorEq, h0, h1, h5, h6, h7, h8, h9, h10, hlt', c3]
  have hP := hP (by rw [← hu]; omega)
  have hE := hE (by rw [← hu]; omega) (by unfold phiK; rfl) hP.2
  have hsm := parse_small (s := s) (by omega)
  have hLu := refLinesS u (by omega)
  rw [← hu] at hP hE
  rw [hP.1] at hLu
  simp (config := { decide := true }) only [go_sem, Int.reduceToNat, Nat.reduceAdd, Nat.reduceSub, Nat.reduceMul, Nat.reduceBEq, reduceIte, reduceCtorEq, h0, h1, h5, h6, h7, h8, h9, h10, hlt', c3]
  refine callX_nm (parseParse s (by omega)) rfl rfl ?_
  simp (config := { decide := true }) only [go_sem, Int.reduceToNat, Nat.reduceAdd, Nat.reduceSub, Nat.reduceMul, Nat.reduceBEq, reduceIte, reduceCtorEq, h0, h1, h5, h6, h7, h8, h9, h10]
  refine callX_nm (parseParse u (by omega)) rfl rfl ?_
  rw [hP.1] at hE
  obtain ⟨z1, z2, z3⟩ := hE
  generalize parseF s = r at *
  generalize parseF u = q at *
  obtain ⟨f, a, e⟩ := r
  obtain ⟨g, b, h⟩ := q
  simp only at z1 z2 z3 hsm
  subst z1 z2
  have hS := refSameSm g g hsm
  rw [decide_eq_true rfl] at hS
  have hnl2 := newK_len κ l 0
  have w1 : IntKind.i64.wrap ((l.length : Int) + 1) = ((l.length + 1 : Nat) : Int) := by rw [w64 (by omega) (by omega)]; rfl
  have w2 : IntKind.i64.wrap (((newK κ 0 l).length : Int) + 1) = (((newK κ 0 l).length + 1 : Nat) : Int) := by rw [w64 (by omega) (by omega)]; rfl
  simp (config := { decide := true }) only [go_sem, Int.reduceToNat, Nat.reduceAdd, Nat.reduceSub, Nat.reduceMul, Nat.reduceBEq, reduceIte, reduceCtorEq, h0, h1, h5, h6, h7, h8, h9, h10]
  refine callX_nm (hS) rfl rfl ?_
  rcases z3 with ⟨y1, y2, y3⟩ | ⟨y1, ⟨y2, y3, y4⟩ | ⟨y2, y3⟩⟩
  · subst y1 y2 y3
    simp (config := { decide := true }) only [go_sem, Int.reduceToNat, Nat.reduceAdd, Nat.reduceSub, Nat.reduceMul, Nat.reduceBEq, reduceIte, reduceCtorEq, h0, h1, h5, h6, h7, h8, h9, h10]
  · have y1' : (h = 0) = False := eq_false y1
    obtain ⟨n, hn⟩ : ∃ n : Nat, a = ((n + 1 : Nat) : Int) := ⟨(a - 1).toNat, by omega⟩
    subst hn
    rw [hpl] at y4
    have a1 : (((n + 1 : Nat) : Int) < 1) = False := eq_false (by omega)
    have a2 : ((l.length : Int) < ((n + 1 : Nat) : Int)) = False := eq_false (by omega)
    have a3 : IntKind.i64.wrap (((n + 1 : Nat) : Int) - 1) = (n : Int) := by rw [w64 (by omega) (by omega)]; omega
    have a4 : ((n : Int) < (l.length : Int)) = True := eq_true (by omega)
    have a5 := atsK_get κ l (show n < l.length by omega)
    simp (config := { decide := true }) only [go_sem, Int.reduceToNat, Nat.reduceAdd, Nat.reduceSub, Nat.reduceMul, Nat.reduceBEq, reduceIte, reduceCtorEq, h0, h1, h5, h6, h7, h8, h9, h10, y1', a1, a2, a3, a4, a5, y4, atsK_len, irow]
    repeat (with_reducible refine And.intro ?_ ?_; · (with_reducible and_intros) <;> omega)
  · have y1' : (h = 0) = False := eq_false y1
    subst y2 y3
    have a1 : (((l.length + 1 : Nat) : Int) < 1) = False := eq_false (by omega)
    have a2 : ((l.length : Int) < ((l.length + 1 : Nat) : Int)) = True := eq_true (by omega)
    simp (config := { decide := true }) only [go_sem, Int.reduceToNat, Nat.reduceAdd, Nat.reduceSub, Nat.reduceMul, Nat.reduceBEq, reduceIte, reduceCtorEq, h0, h1, h5, h6, h7, h8, h9, h10, y1', a1, a2, w1]
    refine callX_nm (hLu) rfl rfl ?_
    simp (config := { decide := true }) only [go_sem, Int.reduceToNat, Nat.reduceAdd, Nat.reduceSub, Nat.reduceMul, Nat.reduceBEq, reduceIte, reduceCtorEq, h0, h1, h5, h6, h7, h8, h9, h10, y1', a1, a2, w1, w2]
end Go.Proofs.YtmapdjdnnhlpiaaGreatDoor
namespace Go.Proofs.YtmapdjdnnhlpiaaGreatDoor
open Go.ChangeShapes Go.WideShapes Go.RowKit
set_option maxRecDepth 8000
section
variable {H : Type} {enc : TypeId × Value → H} {w : World} {base : Nat} {sp : Nat → Bool} {held : Bool} {Z : Nat → Prop}
theorem open_u8s (hZ : ∀ b, b < w.heap.size → Z b) {r : Reach} {b0 : Nat} {v : Value} {d : DataW H} {ps : List MemPlace} (hval : Value.okWide Tryz.prog w r b0 37 v) (hd : DataW.Trod enc Tryz.prog w base sp held 37 v d ps) :
    ∃ l : List UInt8, RV Z [] w (.sl (l.map byteRow)) v [] := by
  obtain ⟨rows, _, h1, h2⟩ := open_sl (Z := Z) (n := 1) hZ Tryz.underlying37 (by kernel_rfl) hval hd
  obtain ⟨l, rfl⟩ := rows_map (p := byteRow) rows fun r hr => by
    obtain ⟨x, hx, rfl⟩ := shp_int Tryz.underlying5 (h2 r hr)
    obtain ⟨c, hc⟩ := u8_of hx
    exact ⟨c, by rw [← hc]; rfl⟩
  exact ⟨l, h1⟩
end
end Go.Proofs.YtmapdjdnnhlpiaaGreatDoor
