/- Word: the law on words. -/
import Derived.Test.YtdajmbjgbpbidaaWn
namespace Go.Proofs.Ytdajmbjgbpbidaa
open Go.RowKit
set_option linter.unusedVariables false
set_option linter.unusedSimpArgs false
set_option maxRecDepth 8000

theorem wordsB_blank (r : List UInt8) : wordsB (32 :: r) = wordsB r := by
  unfold wordsB
  simp [cutB]

/-- The first word, and what is behind it. -/
theorem wordsB_head {b : UInt8} {r : List UInt8} (hb : b ≠ 32) : ∃ w rest, b :: r = w ++ rest ∧ w ≠ [] ∧ (32 : UInt8) ∉ w ∧ (rest = [] ∨ ∃ r', rest = 32 :: r') ∧ wordsB (b :: r) = w :: wordsB rest := by
  rcases cut1 32 (b :: r) with ⟨p, q, e, h1, _⟩ | ⟨h1, _⟩
  · cases p with
    | nil => simp at e; exact absurd e.1 hb
    | cons a p =>
      refine ⟨a :: p, 32 :: q, e, by simp, h1, .inr ⟨q, rfl⟩, ?_⟩
      rw [e]
      unfold wordsB
      rw [cutB_sep h1]
      simp [cutB]
  · refine ⟨b :: r, [], by simp, by simp, h1, .inl rfl, ?_⟩
    unfold wordsB
    rw [cutB_plain h1]
    simp [cutB]

theorem wordsB_none : wordsB [] = [] := by decide

/-- Where the search stands. -/
structure At (s : List UInt8) (i a : Nat) : Prop where
  le : a ≤ s.length
  i_le : i ≤ (wordsB s).length
  left : wordsB (s.drop a) = (wordsB s).drop i
  edge : i = 0 ∧ a = 0 ∨ a = s.length ∨ s[a]? = some 32

theorem At.skip {s : List UInt8} {i a : Nat} (h : wordsB (s.drop a) = (wordsB s).drop i) (hb : s[a]? = some 32) : wordsB (s.drop (a + 1)) = (wordsB s).drop i := by
  have hlt := (List.getElem?_eq_some_iff.1 hb).1
  have e : s.drop a = 32 :: s.drop (a + 1) := by
    rw [List.drop_eq_getElem_cons hlt]; rw [(List.getElem?_eq_some_iff.1 hb).2]
  rw [← h, e, wordsB_blank]

/-- A word is met. -/
theorem at_word {s : List UInt8} {i a : Nat} (hi : i < (wordsB s).length) (h : wordsB (s.drop a) = (wordsB s).drop i) (hb : s[a]? ≠ some 32) :
    ∃ w, (wordsB s)[i]? = some w ∧ w ≠ [] ∧ (32 : UInt8) ∉ w ∧ a + w.length ≤ s.length ∧ (s.take (a + w.length)).drop a = w ∧ wordsB (s.drop (a + w.length)) = (wordsB s).drop (i + 1) ∧ (a + w.length = s.length ∨ s[a + w.length]? = some 32) := by
  have hlt : a < s.length := by
    rcases Nat.lt_or_ge a s.length with h1 | h1
    · exact h1
    · rw [List.drop_of_length_le h1, wordsB_none] at h
      have := congrArg List.length h
      simp at this; omega
  have hd := List.drop_eq_getElem_cons hlt
  have hb' : s[a] ≠ 32 := fun e => hb (by rw [List.getElem?_eq_getElem hlt, e])
  obtain ⟨w, rest, e1, e2, e3, e4, e5⟩ := wordsB_head (r := s.drop (a + 1)) hb'
  rw [← hd] at e1 e5
  have hw : w :: wordsB rest = (wordsB s).drop i := by rw [← e5, h]
  have hl : (s.drop a).length = w.length + rest.length := by rw [e1, List.length_append]
  rw [List.length_drop] at hl
  have hr : s.drop (a + w.length) = rest := by rw [← List.drop_drop, e1, List.drop_left]
  refine ⟨w, ?_, e2, e3, by omega, ?_, ?_, ?_⟩
  · have := congrArg (fun l => l[0]?) hw
    simpa using this.symm
  · rw [List.drop_take, e1, show a + w.length - a = w.length by omega, List.take_left]
  · rw [hr]
    have := congrArg (fun l => l.drop 1) hw
    simpa [List.drop_drop] using this
  · rcases e4 with e4 | ⟨r', e4⟩
    · left; rw [e4] at hl; simp at hl; omega
    · right
      have : (s.drop (a + w.length))[0]? = some 32 := by rw [hr, e4]; rfl
      simpa using this

theorem byte32 {b : UInt8} : ((b.toNat : Int) = 32) = (b = 32) := by
  simp only [eq_iff_iff]
  constructor
  · intro h; exact UInt8.toNat_inj.1 (by have : (32 : UInt8).toNat = 32 := rfl; omega)
  · rintro rfl; rfl

def WBase (s : List UInt8) (T : Nat → HV) (H : Heap) : Prop := T 0 = .v (str s) ∧ T 3 = .v (.bool true) ∧ T 4 = .hd 0 0 (wordsB s).length ∧ H = [some ⟨9, 1, strs (wordsB s)⟩]
/-- At the head of the loop over the words. -/
def WordsO (s : List UInt8) (k : Nat) (T : Nat → HV) (H : Heap) : Prop := ∃ i a, k = (wordsB s).length - i ∧ At s i a ∧ WBase s T H ∧ T 5 = .v (.int .i64 a) ∧ T 6 = .v (.int .i64 i)
/-- At the head of the loop over the blanks. -/
def WordsS (s : List UInt8) (i a : Nat) (k : Nat) (T : Nat → HV) (H : Heap) : Prop := ∃ c, k = s.length - c ∧ a ≤ c ∧ c ≤ s.length ∧ wordsB (s.drop c) = (wordsB s).drop i ∧ (a = c ∨ s[c - 1]? = some 32) ∧ WBase s T H ∧ T 5 = .v (.int .i64 c) ∧ T 6 = .v (.int .i64 i)
/-- At the head of the loop over a word's bytes. -/
def WordsN (s w : List UInt8) (i c : Nat) (k : Nat) (T : Nat → HV) (H : Heap) : Prop := ∃ j, k = w.length - j ∧ j ≤ w.length ∧ WBase s T H ∧ T 5 = .v (.int .i64 c) ∧ T 6 = .v (.int .i64 i) ∧ T 7 = .v (.int .i64 w.length) ∧ T 8 = .v (.int .i64 ((c + j : Nat) : Int))

theorem wordWords_law (s : List UInt8) : HFn Try.prog 5 [.v (str s)] (.v (.bool true)) := by
  refine HCalls_body (fn := Try.f5) 111 [2] rfl rfl (by kernel_rfl) (HW.run 400 (by kernel_rfl) ?_)
  simp (config := { decide := true }) only [go_sem, Nat.reduceAdd, Nat.reduceSub, Nat.reduceMul, Nat.reduceBEq, reduceIte, reduceCtorEq]
  refine callX_fn 3 (headPr) (by simp only [go_sem]) rfl ?_
  by_cases h : (2000 : Int) < s.length
  · simp (config := { decide := true }) only [go_sem, Nat.reduceAdd, Nat.reduceSub, Nat.reduceMul, Nat.reduceBEq, reduceIte, reduceCtorEq, h]
  · have hll := wordsB_length s
    simp (config := { decide := true }) only [go_sem, Nat.reduceAdd, Nat.reduceSub, Nat.reduceMul, Nat.reduceBEq, reduceIte, reduceCtorEq, h]
    refine callX_fn 3 (wordsPr s (by omega)) (by simp only [go_sem]) nz_owStrs ?_
    simp (config := { decide := true }) only [go_sem, Nat.reduceAdd, Nat.reduceSub, Nat.reduceMul, Nat.reduceBEq, reduceIte, reduceCtorEq, owStrs]
    refine HW.loopG (WordsO s) (wordsB s).length ⟨_, _, Ghost.refl, 0, 0, by simp, ⟨by omega, by omega, rfl, .inl ⟨rfl, rfl⟩⟩, ⟨rfl, rfl, rfl, rfl⟩, rfl, rfl⟩ ?_
    rintro k T H ⟨i, a, rfl, ⟨ha, hi, hleft, hedge⟩, ⟨t0, t3, t4, rfl⟩, t5, t6⟩
    refine HW.run 200 (by kernel_rfl) ?_
    rcases Nat.lt_or_ge i (wordsB s).length with hlt | hge
    · have hlt' : (i : Int) < ((wordsB s).length : Int) := by omega
      simp (config := { decide := true }) only [go_sem, Nat.reduceAdd, Nat.reduceSub, Nat.reduceMul, Nat.reduceBEq, reduceIte, reduceCtorEq, t0, t3, t4, t5, t6, hlt']
      refine HW.loopG (WordsS s i a) (s.length - a) ⟨_, _, Ghost.refl, a, rfl, by omega, by omega, hleft, .inl rfl, ⟨?_, ?_, ?_, rfl⟩, ?_, ?_⟩ ?_
      iterate 5
        · simp (config := { decide := true }) only [go_sem, Nat.reduceBEq, reduceIte, t0, t3, t4, t5, t6]
      rintro k T H ⟨c, rfl, hac, hc, hleft, hprev, ⟨t0, t3, t4, rfl⟩, t5, t6⟩
      refine HW.run 200 (by kernel_rfl) ?_
      by_cases hb : s[c]? = some 32
      · have hcl := (List.getElem?_eq_some_iff.1 hb).1
        have hcl' : (c : Int) < (s.length : Int) := by omega
        simp (config := { decide := true }) only [go_sem, Nat.reduceAdd, Nat.reduceSub, Nat.reduceMul, Nat.reduceBEq, reduceIte, reduceCtorEq, t0, t3, t4, t5, t6, hcl', hb]
        refine ⟨_, _, Ghost.refl, s.length - (c + 1), by omega, c + 1, rfl, by omega, by omega, At.skip hleft hb, .inr (by simpa using hb), ⟨?_, ?_, ?_, rfl⟩, ?_, ?_⟩
        all_goals simp (config := { decide := true }) only [go_sem, Nat.reduceBEq, reduceIte, t0, t3, t4, t6]
        rw [w64 (by omega) (by omega)]; rfl
      · obtain ⟨w, hx, hne, hno, hfit, hcut, hleft2, hnext⟩ := at_word hlt hleft hb
        have hwp : 0 < w.length := List.length_pos_iff.2 hne
        have hcl : c < s.length := by omega
        have hcl' : (c : Int) < (s.length : Int) := by omega
        have hxc : s[c]? = some s[c] := by simp [hcl]
        have hn32 : ¬ (s[c].toNat : Int) = 32 := fun e => hb (by rw [hxc]; rw [byte32] at e; rw [e])
        have n1 : ¬ (w.length : Int) = 0 := by omega
        have n2 : IntKind.i64.wrap ((s.length : Int) - (c : Int)) = ((s.length - c : Nat) : Int) := by rw [w64 (by omega) (by omega)]; omega
        have n3 : ¬ ((s.length - c : Nat) : Int) < (w.length : Int) := by omega
        have n4 : IntKind.i64.wrap ((c : Int) + (w.length : Int)) = ((c + w.length : Nat) : Int) := by rw [w64 (by omega) (by omega)]; omega
        have c0 : (0 : Int) ≤ (c : Int) := by omega
        have c1 : (c : Int) ≤ ((c + w.length : Nat) : Int) := by omega
        have c2 : ((c + w.length : Nat) : Int) ≤ (s.length : Int) := by omega
        have inner : ∀ {Q : Exit → KS} {code : Code} {T : Nat → HV}, T 0 = .v (str s) → T 3 = .v (.bool true) → T 4 = .hd 0 0 (wordsB s).length → T 5 = .v (.int .i64 c) → T 6 = .v (.int .i64 i) → T 7 = .v (.int .i64 w.length) → T 8 = .v (.int .i64 c) →
            (∀ k T H, WordsN s w i c k T H → HW Try.prog 111 0 code (fin (GQ 111 0 fun T' H' => ∃ k', k' < k ∧ WordsN s w i c k' T' H') Q) T H) → HW Try.prog 111 0 (.loop code) Q T [some ⟨9, 1, strs (wordsB s)⟩] :=
          fun t0 t3 t4 t5 t6 t7 t8 hr => HW.loopG (WordsN s w i c) w.length ⟨_, _, Ghost.refl, 0, rfl, by omega, ⟨t0, t3, t4, rfl⟩, t5, t6, t7, t8⟩ hr
        simp (config := { decide := true }) only [go_sem, Nat.reduceAdd, Nat.reduceSub, Nat.reduceMul, Nat.reduceBEq, reduceIte, reduceCtorEq, t0, t3, t4, t5, t6, hcl', hxc, hn32, hlt', hx]
        refine HW.quiet 80 follows (by kernel_rfl) (by kernel_rfl) ?_
        by_cases h0 : i = 0
        · have h00 : ¬ (0 : Int) < (i : Int) := by omega
          simp (config := { decide := true }) only [go_sem, Nat.reduceAdd, Nat.reduceSub, Nat.reduceMul, Nat.reduceBEq, reduceIte, reduceCtorEq, t0, t3, t4, t5, t6, hcl', hxc, hn32, hlt', hx, n1, n2, n3, n4, h00, hcut, c0, c1, c2]
          refine inner ?_ ?_ ?_ ?_ ?_ ?_ ?_ ?_
          iterate 7
            · simp (config := { decide := true }) only [go_sem, Nat.reduceBEq, reduceIte, t0, t3, t4, t5, t6]
          rintro k T H ⟨j, rfl, hj, ⟨t0, t3, t4, rfl⟩, t5, t6, t7, t8⟩
          refine HW.run 200 (by kernel_rfl) ?_
          rcases Nat.lt_or_ge j w.length with hlj | hgj
          · have hlj' : ((c + j : Nat) : Int) < ((c + w.length : Nat) : Int) := by omega
            have hxj : s[c + j]? = some w[j] := by
              have e := congrArg (fun l => l[j]?) hcut
              simp only [List.getElem?_drop, List.getElem?_take, hlj, List.getElem?_eq_getElem] at e
              rw [if_pos (by omega)] at e
              exact e
            have hwj : ¬ (w[j].toNat : Int) = 32 := fun e => hno (by rw [byte32] at e; rw [← e]; exact List.getElem_mem hlj)
            have c3 : (0 : Int) ≤ ((c + j : Nat) : Int) := by omega
            simp (config := { decide := true }) only [go_sem, Nat.reduceAdd, Nat.reduceSub, Nat.reduceMul, Nat.reduceBEq, reduceIte, reduceCtorEq, t0, t3, t4, t5, t6, t7, t8, n4, hlj', hxj, hwj, c3]
            refine ⟨_, _, Ghost.refl, w.length - (j + 1), by omega, j + 1, rfl, by omega, ⟨?_, ?_, ?_, rfl⟩, ?_, ?_, ?_, ?_⟩
            all_goals simp (config := { decide := true }) only [go_sem, Nat.reduceBEq, reduceIte, t0, t3, t4, t5, t6, t7]
            rw [w64 (by omega) (by omega)]; rfl
          · have hgj' : ¬ ((c + j : Nat) : Int) < ((c + w.length : Nat) : Int) := by omega
            simp (config := { decide := true }) only [go_sem, Nat.reduceAdd, Nat.reduceSub, Nat.reduceMul, Nat.reduceBEq, reduceIte, reduceCtorEq, t0, t3, t4, t5, t6, t7, t8, n4, hgj']
            refine ⟨_, _, Ghost.refl, (wordsB s).length - (i + 1), by omega, i + 1, c + w.length, rfl, ⟨hfit, by omega, hleft2, .inr hnext⟩, ⟨?_, ?_, ?_, rfl⟩, ?_, ?_⟩
            all_goals simp (config := { decide := true }) only [go_sem, Nat.reduceBEq, reduceIte, t0, t3, t4]
            rw [w64 (by omega) (by omega)]; rfl
        · have h00 : (0 : Int) < (i : Int) := by omega
          have hpb : s[c - 1]? = some 32 ∧ 0 < c := by
            rcases hprev with rfl | hp
            · rcases hedge with ⟨e, _⟩ | e | e
              · exact absurd e h0
              · omega
              · exact absurd e hb
            · refine ⟨hp, ?_⟩
              rcases Nat.eq_zero_or_pos c with rfl | hp0
              · exact absurd hp hb
              · exact hp0
          have h01 : (0 : Int) < (c : Int) := by omega
          have n5 : IntKind.i64.wrap ((c : Int) - 1) = ((c - 1 : Nat) : Int) := by rw [w64 (by omega) (by omega)]; omega
          have c4 : (0 : Int) ≤ ((c - 1 : Nat) : Int) := by omega
          have hpb1 := hpb.1
          simp (config := { decide := true }) only [go_sem, Nat.reduceAdd, Nat.reduceSub, Nat.reduceMul, Nat.reduceBEq, reduceIte, reduceCtorEq, t0, t3, t4, t5, t6, hcl', hxc, hn32, hlt', hx, n1, n2, n3, n4, n5, h00, h01, hpb1, hcut, c0, c1, c2, c4]
          refine inner ?_ ?_ ?_ ?_ ?_ ?_ ?_ ?_
          iterate 7
            · simp (config := { decide := true }) only [go_sem, Nat.reduceBEq, reduceIte, t0, t3, t4, t5, t6]
          rintro k T H ⟨j, rfl, hj, ⟨t0, t3, t4, rfl⟩, t5, t6, t7, t8⟩
          refine HW.run 200 (by kernel_rfl) ?_
          rcases Nat.lt_or_ge j w.length with hlj | hgj
          · have hlj' : ((c + j : Nat) : Int) < ((c + w.length : Nat) : Int) := by omega
            have hxj : s[c + j]? = some w[j] := by
              have e := congrArg (fun l => l[j]?) hcut
              simp only [List.getElem?_drop, List.getElem?_take, hlj, List.getElem?_eq_getElem] at e
              rw [if_pos (by omega)] at e
              exact e
            have hwj : ¬ (w[j].toNat : Int) = 32 := fun e => hno (by rw [byte32] at e; rw [← e]; exact List.getElem_mem hlj)
            have c3 : (0 : Int) ≤ ((c + j : Nat) : Int) := by omega
            simp (config := { decide := true }) only [go_sem, Nat.reduceAdd, Nat.reduceSub, Nat.reduceMul, Nat.reduceBEq, reduceIte, reduceCtorEq, t0, t3, t4, t5, t6, t7, t8, n4, hlj', hxj, hwj, c3]
            refine ⟨_, _, Ghost.refl, w.length - (j + 1), by omega, j + 1, rfl, by omega, ⟨?_, ?_, ?_, rfl⟩, ?_, ?_, ?_, ?_⟩
            all_goals simp (config := { decide := true }) only [go_sem, Nat.reduceBEq, reduceIte, t0, t3, t4, t5, t6, t7]
            rw [w64 (by omega) (by omega)]; rfl
          · have hgj' : ¬ ((c + j : Nat) : Int) < ((c + w.length : Nat) : Int) := by omega
            simp (config := { decide := true }) only [go_sem, Nat.reduceAdd, Nat.reduceSub, Nat.reduceMul, Nat.reduceBEq, reduceIte, reduceCtorEq, t0, t3, t4, t5, t6, t7, t8, n4, hgj']
            refine ⟨_, _, Ghost.refl, (wordsB s).length - (i + 1), by omega, i + 1, c + w.length, rfl, ⟨hfit, by omega, hleft2, .inr hnext⟩, ⟨?_, ?_, ?_, rfl⟩, ?_, ?_⟩
            all_goals simp (config := { decide := true }) only [go_sem, Nat.reduceBEq, reduceIte, t0, t3, t4]
            rw [w64 (by omega) (by omega)]; rfl
    · have hge' : ¬ (i : Int) < ((wordsB s).length : Int) := by omega
      have hnil : wordsB (s.drop a) = [] := by rw [hleft, List.drop_of_length_le hge]
      simp (config := { decide := true }) only [go_sem, Nat.reduceAdd, Nat.reduceSub, Nat.reduceMul, Nat.reduceBEq, reduceIte, reduceCtorEq, t0, t3, t4, t5, t6, hge']
      refine HW.loopG (fun k T H => ∃ c, k = s.length - c ∧ c ≤ s.length ∧ wordsB (s.drop c) = [] ∧ T 0 = .v (str s) ∧ T 3 = .v (.bool true) ∧ T 5 = .v (.int .i64 c)) (s.length - a) ⟨_, _, Ghost.refl, a, rfl, ha, hnil, ?_, ?_, ?_⟩ ?_
      iterate 3
        · simp (config := { decide := true }) only [go_sem, Nat.reduceBEq, reduceIte, t0, t3, t5]
      rintro k T H ⟨c, rfl, hc, hnil, t0, t3, t5⟩
      refine HW.run 200 (by kernel_rfl) ?_
      rcases Nat.lt_or_ge c s.length with hcl | hcg
      · have hcl' : (c : Int) < (s.length : Int) := by omega
        have hb : s[c]? = some 32 := by
          rw [List.getElem?_eq_getElem hcl]
          by_cases e : s[c] = 32
          · rw [e]
          · obtain ⟨w, rest, _, _, _, _, e5⟩ := wordsB_head (r := s.drop (c + 1)) e
            rw [← List.drop_eq_getElem_cons hcl, hnil] at e5
            cases e5
        simp (config := { decide := true }) only [go_sem, Nat.reduceAdd, Nat.reduceSub, Nat.reduceMul, Nat.reduceBEq, reduceIte, reduceCtorEq, t0, t3, t5, hcl', hb]
        refine ⟨_, _, Ghost.refl, s.length - (c + 1), by omega, c + 1, rfl, by omega, ?_, ?_, ?_, ?_⟩
        · have := At.skip (s := s) (i := (wordsB s).length) (a := c) (by rw [hnil, List.drop_length]) hb
          rw [this, List.drop_length]
        all_goals simp (config := { decide := true }) only [go_sem, Nat.reduceBEq, reduceIte, t0, t3]
        rw [w64 (by omega) (by omega)]; rfl
      · have hcg' : ¬ (c : Int) < (s.length : Int) := by omega
        have ec : c = s.length := by omega
        subst ec
        simp (config := { decide := true }) only [go_sem, Nat.reduceAdd, Nat.reduceSub, Nat.reduceMul, Nat.reduceBEq, reduceIte, reduceCtorEq, t0, t3, t5, hcg', Int.lt_irrefl]
end Go.Proofs.Ytdajmbjgbpbidaa
