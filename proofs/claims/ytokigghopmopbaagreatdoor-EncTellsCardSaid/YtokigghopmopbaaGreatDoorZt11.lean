/- Parts of the proof: Ma, LyAtoi, Mb, Wl, Wm, Wn, Ep, Er, Es, Et, Eu. -/
import Derived.Lib.AtoiAll
import Derived.Test.YtokigghopmopbaaGreatDoorZt10
import Derived.Test.YtokigghopmopbaaGreatDoorZt06
import Derived.Laws.BitsLemmas
import Derived.Shelf.LaysC
import Derived.Test.YtokigghopmopbaaGreatDoorProg
import Derived.KernelRfl
import Derived.Shelf.Strconv.AtoiAll
import Derived.Lib.AtoiErrMem
import Derived.Test.YtokigghopmopbaaGreatDoorZt07
set_option linter.unusedSectionVars false
set_option linter.unusedVariables false
set_option linter.unusedSimpArgs false
namespace Go.Proofs.YtokigghopmopbaaGreatDoor
open Go
def dig (d : Nat) : UInt8 := UInt8.ofNat (48 + d % 10)
theorem dig_toNat (d : Nat) : (dig d).toNat = 48 + d % 10 := by
  unfold dig
  rw [UInt8.toNat_ofNat']
  omega
def dB (m : Nat) : List UInt8 := if h : m < 10 then [dig m] else dB (m / 10) ++ [dig m]
termination_by m
decreasing_by omega
theorem dB_lt {m : Nat} (h : m < 10) : dB m = [dig m] := by rw [dB, dif_pos h]
theorem dB_ge {m : Nat} (h : 10 ≤ m) : dB m = dB (m / 10) ++ [dig m] := by rw [dB, dif_neg (by omega)]
def textB (n : Int) : List UInt8 := if n < 0 then 45 :: dB n.natAbs else dB n.natAbs
def isDig (c : UInt8) : Bool := decide (48 ≤ c.toNat) && decide (c.toNat ≤ 57)
theorem isDig_dig (d : Nat) : isDig (dig d) = true := by
  simp only [isDig, dig_toNat, Bool.and_eq_true, decide_eq_true_eq]; omega
def dstep (acc : Nat) (c : UInt8) : Nat := acc * 10 + (c.toNat - 48)
def dval (acc : Nat) (l : List UInt8) : Nat := l.foldl dstep acc
theorem dval_nil (a : Nat) : dval a [] = a := rfl
theorem dval_cons (a : Nat) (c : UInt8) (r : List UInt8) : dval a (c :: r) = dval (a * 10 + (c.toNat - 48)) r := by
  unfold dval; rw [List.foldl_cons]; rfl
theorem dval_snoc (c : UInt8) : ∀ (l : List UInt8) (acc : Nat), dval acc (l ++ [c]) = dval acc l * 10 + (c.toNat - 48)
  | [], acc => by rw [List.nil_append, dval_cons, dval_nil, dval_nil]
  | x :: l, acc => by rw [List.cons_append, dval_cons, dval_cons, dval_snoc c l]
theorem dval_ge : ∀ (l : List UInt8) (a : Nat), a ≤ dval a l
  | [], a => Nat.le_refl _
  | x :: l, a => by rw [dval_cons]; exact Nat.le_trans (by omega) (dval_ge l (a * 10 + (x.toNat - 48)))
def canonB (l : List UInt8) : Bool := !l.isEmpty && l.all isDig && (decide (l = [48]) || decide (l.head? ≠ some 48))
theorem dval_dB (m : Nat) : dval 0 (dB m) = m := by
  induction m using Nat.strongRecOn with
  | _ m ih =>
    by_cases h : m < 10
    · rw [dB_lt h, dval_cons, dval_nil, dig_toNat]; omega
    · rw [dB_ge (by omega), dval_snoc, ih (m / 10) (by omega), dig_toNat]; omega
theorem dB_ne (m : Nat) : dB m ≠ [] := by
  by_cases h : m < 10
  · rw [dB_lt h]; simp
  · rw [dB_ge (by omega)]; simp
theorem dB_digs (m : Nat) : (dB m).all isDig = true := by
  induction m using Nat.strongRecOn with
  | _ m ih =>
    by_cases h : m < 10
    · rw [dB_lt h]; simp [isDig_dig]
    · rw [dB_ge (by omega)]; simp [ih (m / 10) (by omega), isDig_dig]
theorem dB_head (m : Nat) (hm : m ≠ 0) : (dB m).head? ≠ some 48 := by
  induction m using Nat.strongRecOn with
  | _ m ih =>
    by_cases h : m < 10
    · rw [dB_lt h]
      simp only [List.head?_cons, ne_eq, Option.some.injEq]
      intro hc
      have := congrArg UInt8.toNat hc
      rw [dig_toNat] at this
      have e : (48 : UInt8).toNat = 48 := rfl
      omega
    · rw [dB_ge (by omega)]
      have := ih (m / 10) (by omega) (by omega)
      cases hd : dB (m / 10) with
      | nil => exact absurd hd (dB_ne _)
      | cons x l => rw [hd] at this; simpa using this
theorem dB_canon (m : Nat) : canonB (dB m) = true := by
  unfold canonB
  have h1 := dB_digs m
  have h2 := dB_ne m
  by_cases hm : m = 0
  · subst hm; rw [dB_lt (by omega)] at *; decide
  · have h3 := dB_head m hm
    simp only [Bool.and_eq_true, Bool.not_eq_true', List.isEmpty_eq_false_iff, Bool.or_eq_true, decide_eq_true_eq]
    exact ⟨⟨h2, h1⟩, .inr h3⟩
theorem dig_of {c : UInt8} (h : isDig c = true) : dig (c.toNat - 48) = c := by
  simp only [isDig, Bool.and_eq_true, decide_eq_true_eq] at h
  apply UInt8.toNat_inj.1
  rw [dig_toNat]; omega
theorem dB_dval : ∀ (k : Nat) (l : List UInt8), l.length = k → canonB l = true → dB (dval 0 l) = l := by
  intro k
  induction k with
  | zero => intro l hl hc; obtain rfl := List.eq_nil_of_length_eq_zero hl; simp [canonB] at hc
  | succ k ih =>
    intro l hl hc
    obtain ⟨l', c, rfl⟩ : ∃ l' c, l = l' ++ [c] := ⟨l.dropLast, l.getLast (by intro h; subst h; simp at hl), (List.dropLast_concat_getLast _).symm⟩
    simp only [canonB, Bool.and_eq_true, Bool.not_eq_true', List.isEmpty_eq_false_iff, Bool.or_eq_true, decide_eq_true_eq, List.all_append, List.all_cons, List.all_nil] at hc
    obtain ⟨⟨_, h1, hcd, _⟩, h2⟩ := hc
    rw [dval_snoc]
    have hc57 : c.toNat ≤ 57 ∧ 48 ≤ c.toNat := by
      have := hcd; simp only [isDig, Bool.and_eq_true, decide_eq_true_eq] at this; exact ⟨this.2, this.1⟩
    by_cases hl' : l' = []
    · subst hl'
      rw [dval_nil, List.nil_append]
      rw [dB_lt (by omega), show 0 * 10 + (c.toNat - 48) = c.toNat - 48 by omega, dig_of hcd]
    · have hcan : canonB l' = true := by
        simp only [canonB, Bool.and_eq_true, Bool.not_eq_true', List.isEmpty_eq_false_iff, Bool.or_eq_true, decide_eq_true_eq]
        refine ⟨⟨hl', h1⟩, .inr ?_⟩
        rcases h2 with h2 | h2
        · have := congrArg List.length h2; simp at this; exact absurd this hl'
        · cases l' with
          | nil => exact absurd rfl hl'
          | cons x r => simpa using h2
      have hpos : 1 ≤ dval 0 l' := by
        cases l' with
        | nil => exact absurd rfl hl'
        | cons x r =>
          rw [dval_cons]
          have hx : x ≠ 48 := by
            rcases h2 with h2 | h2
            · simp at h2
            · simpa using h2
          have hx2 : isDig x = true := by simp at h1; exact h1.1
          simp only [isDig, Bool.and_eq_true, decide_eq_true_eq] at hx2
          have hx3 : x.toNat ≠ 48 := fun e => hx (UInt8.toNat_inj.1 e)
          have := dval_ge r (0 * 10 + (x.toNat - 48))
          omega
      have hd := ih l' (by simpa using hl) hcan
      rw [dB_ge (by omega), show (dval 0 l' * 10 + (c.toNat - 48)) / 10 = dval 0 l' by omega, hd]
      congr 1
      have : dig (dval 0 l' * 10 + (c.toNat - 48)) = dig (c.toNat - 48) := by
        apply UInt8.toNat_inj.1; rw [dig_toNat, dig_toNat]; omega
      rw [this, dig_of hcd]
def inI (n : Int) : Prop := -9223372036854775808 ≤ n ∧ n < 9223372036854775808
instance (n : Int) : Decidable (inI n) := by unfold inI; infer_instance
def numB (s : List UInt8) : Int × Bool :=
  match s with
  | 45 :: r => if canonB r = true ∧ r ≠ [48] ∧ dval 0 r ≤ 9223372036854775808 then (-(dval 0 r : Int), true) else (0, false)
  | s => if canonB s = true ∧ dval 0 s < 9223372036854775808 then ((dval 0 s : Int), true) else (0, false)
theorem numB_neg (r : List UInt8) : numB (45 :: r) = if canonB r = true ∧ r ≠ [48] ∧ dval 0 r ≤ 9223372036854775808 then (-(dval 0 r : Int), true) else (0, false) := rfl
theorem numB_pos {s : List UInt8} (h : s.head? ≠ some 45) : numB s = if canonB s = true ∧ dval 0 s < 9223372036854775808 then ((dval 0 s : Int), true) else (0, false) := by
  unfold numB
  split
  · simp at h
  · rfl
theorem dB_head45 (m : Nat) : (dB m).head? ≠ some 45 := by
  intro h
  have h1 := dB_digs m
  cases hd : dB m with
  | nil => exact dB_ne m hd
  | cons x l =>
    rw [hd] at h h1
    simp only [List.head?_cons, Option.some.injEq] at h
    subst h
    simp [isDig] at h1
theorem numB_text {n : Int} (h : inI n) : numB (textB n) = (n, true) := by
  unfold inI at h
  unfold textB
  split
  · rw [numB_neg, dval_dB, dB_canon, if_pos]
    · congr 1; omega
    · refine ⟨rfl, fun hc => ?_, by omega⟩
      have := congrArg (dval 0) hc
      rw [dval_dB] at this
      have e : dval 0 [48] = 0 := rfl
      omega
  · rw [numB_pos (dB_head45 _), dval_dB, dB_canon, if_pos ⟨rfl, by omega⟩]
    congr 1; omega
theorem numB_true {s : List UInt8} (h : (numB s).2 = true) : inI (numB s).1 ∧ textB (numB s).1 = s := by
  unfold inI
  by_cases hs : s.head? = some 45
  · cases s with
    | nil => simp at hs
    | cons x r =>
      simp only [List.head?_cons, Option.some.injEq] at hs
      subst hs
      rw [numB_neg] at h ⊢
      split at h
      · rename_i hc
        rw [if_pos hc]
        have hd := dB_dval _ r rfl hc.1
        have hp : 1 ≤ dval 0 r := by
          rcases Nat.eq_zero_or_pos (dval 0 r) with e | e
          · rw [e, dB_lt (by omega)] at hd
            exact absurd hd.symm hc.2.1
          · exact e
        refine ⟨⟨by simp only; omega, by simp only; omega⟩, ?_⟩
        unfold textB
        rw [if_pos (by simp only; omega)]
        rw [show (-(dval 0 r : Int), true).1.natAbs = dval 0 r by simp, hd]
      · simp at h
  · rw [numB_pos hs] at h ⊢
    split at h
    · rename_i hc
      rw [if_pos hc]
      refine ⟨⟨by simp only; omega, by simp only; omega⟩, ?_⟩
      unfold textB
      rw [if_neg (by simp only; omega), show ((dval 0 s : Int), true).1.natAbs = dval 0 s by simp, dB_dval _ s rfl hc.1]
    · simp at h
theorem numB_false {s : List UInt8} (h : (numB s).2 = false) : numB s = (0, false) := by
  unfold numB at h ⊢
  split <;> simp only at h <;> split <;> simp_all
theorem textB_ne (n : Int) : textB n ≠ [] := by
  unfold textB; split
  · simp
  · exact dB_ne _
theorem dB_length (m : Nat) : ∀ k, m < 10 ^ k → 1 ≤ k → (dB m).length ≤ k := by
  induction m using Nat.strongRecOn with
  | _ m ih =>
    intro k hk h1
    by_cases h : m < 10
    · rw [dB_lt h]; simpa using h1
    · rw [dB_ge (by omega)]
      obtain ⟨k', rfl⟩ : ∃ k', k = k' + 1 := ⟨k - 1, by omega⟩
      have h2 : 1 ≤ k' := by
        rcases Nat.eq_zero_or_pos k' with e | e
        · subst e; simp at hk; omega
        · exact e
      have := ih (m / 10) (by omega) k' (by rw [Nat.pow_succ] at hk; omega) h2
      simpa using this
theorem textB_length {n : Int} (h : inI n) : (textB n).length ≤ 20 := by
  unfold inI at h
  have := dB_length n.natAbs 19 (by omega) (by omega)
  unfold textB
  split <;> simp <;> omega
end Go.Proofs.YtokigghopmopbaaGreatDoor
namespace Go.Proofs.YtokigghopmopbaaGreatDoor
open Go
theorem pu_ok : ∀ (l : List UInt8) (acc u : Nat), Lib.parseUint10 acc l = .ok u → l.all isDig = true ∧ u = dval acc l
  | [], acc, u, h => by
    simp only [Lib.parseUint10] at h
    injection h with h
    exact ⟨rfl, h.symm⟩
  | c :: r, acc, u, h => by
    simp only [Lib.parseUint10] at h
    split at h
    · rename_i hc
      split at h
      · cases h
      · split at h
        · cases h
        · obtain ⟨h1, h2⟩ := pu_ok r _ u h
          refine ⟨?_, by rw [dval_cons]; exact h2⟩
          simp only [List.all_cons, h1, Bool.and_true, isDig, Bool.and_eq_true, decide_eq_true_eq]
          exact hc
    · cases h
theorem pu_digs : ∀ (l : List UInt8) (acc : Nat), l.all isDig = true → dval acc l < 18446744073709551616 → Lib.parseUint10 acc l = .ok (dval acc l)
  | [], acc, _, _ => rfl
  | c :: r, acc, h, hd => by
    simp only [List.all_cons, Bool.and_eq_true] at h
    obtain ⟨hc, hr⟩ := h
    simp only [isDig, Bool.and_eq_true, decide_eq_true_eq] at hc
    rw [dval_cons] at hd ⊢
    have := dval_ge r (acc * 10 + (c.toNat - 48))
    simp only [Lib.parseUint10]
    rw [if_pos hc, if_neg (by omega), if_neg (by omega)]
    exact pu_digs r _ hr hd
def shapeB : List UInt8 → Bool
  | 45 :: c :: r => decide (c ≠ 48) && (c :: r).all isDig
  | s => canonB s
theorem shapeB_neg (c : UInt8) (r : List UInt8) : shapeB (45 :: c :: r) = (decide (c ≠ 48) && (c :: r).all isDig) := rfl
theorem shapeB_pos {s : List UInt8} (h : s.head? ≠ some 45) : shapeB s = canonB s := by
  unfold shapeB
  split
  · simp at h
  · rfl
theorem canonB_digs {l : List UInt8} (h : canonB l = true) : l.all isDig = true ∧ l ≠ [] := by
  simp only [canonB, Bool.and_eq_true, Bool.not_eq_true', List.isEmpty_eq_false_iff] at h
  exact ⟨h.1.2, h.1.1⟩
theorem canonB_cons {c : UInt8} {r : List UInt8} (h : (c :: r).all isDig = true) : (canonB (c :: r) = true ∧ c :: r ≠ [48]) ↔ c ≠ 48 := by
  simp only [canonB, h, Bool.and_true, Bool.and_eq_true, Bool.or_eq_true, decide_eq_true_eq, List.isEmpty_cons, Bool.not_false, true_and, List.head?_cons, ne_eq, Option.some.injEq]
  constructor
  · rintro ⟨h1 | h1, h2⟩
    · exact absurd h1 h2
    · exact h1
  · intro h1
    refine ⟨.inr h1, fun h2 => h1 ?_⟩
    injection h2
def numOf (s : List UInt8) : Lib.NumEnd Int → Int × Bool
  | .ok v => if shapeB s = true then (v, true) else (0, false)
  | Lib.NumEnd.syntax => (0, false)
  | .range => (0, false)
def negOf : Lib.NumEnd Nat → Lib.NumEnd Int
  | .ok u => if 9223372036854775808 < u then .range else .ok (-(u : Int))
  | Lib.NumEnd.syntax => Lib.NumEnd.syntax
  | .range => .range
def posOf : Lib.NumEnd Nat → Lib.NumEnd Int
  | .ok u => if 9223372036854775808 ≤ u then .range else .ok (u : Int)
  | Lib.NumEnd.syntax => Lib.NumEnd.syntax
  | .range => .range
theorem atoi_neg (r : List UInt8) : Lib.atoiAll (45 :: r) = negOf (Lib.parseMag r) := by
  have h45 : (45 : UInt8).toNat = 45 := rfl
  unfold Lib.atoiAll
  simp only [h45, or_true, if_true, not_true_eq_false, false_and, if_false, true_and]
  cases Lib.parseMag r <;> rfl
theorem atoi_pos {x : UInt8} {r : List UInt8} (h1 : x.toNat ≠ 45) (h2 : x.toNat ≠ 43) : Lib.atoiAll (x :: r) = posOf (Lib.parseMag (x :: r)) := by
  unfold Lib.atoiAll
  simp only [h1, h2, or_self, if_false, not_false_eq_true, true_and, false_and]
  cases Lib.parseMag (x :: r) <;> rfl
theorem mag_cons (x : UInt8) (r : List UInt8) : Lib.parseMag (x :: r) = Lib.parseUint10 0 (x :: r) := by
  unfold Lib.parseMag
  rw [if_neg (by simp)]
theorem atoi_num (s : List UInt8) : numB s = numOf s (Lib.atoiAll s) := by
  cases s with
  | nil => rfl
  | cons x r =>
    by_cases hx : x = 45
    · subst hx
      rw [numB_neg, atoi_neg]
      cases r with
      | nil =>
        rw [if_neg (fun h => by have := h.1; simp [canonB] at this)]
        rfl
      | cons c r =>
        rw [mag_cons]
        cases hp : Lib.parseUint10 0 (c :: r) with
        | ok u =>
          obtain ⟨h1, rfl⟩ := pu_ok _ _ _ hp
          simp only [negOf]
          by_cases hu : 9223372036854775808 < dval 0 (c :: r)
          · rw [if_pos hu, if_neg (fun h => by omega)]; rfl
          · rw [if_neg hu]
            simp only [numOf]
            rw [shapeB_neg, h1]
            have := canonB_cons h1
            by_cases hc : c = 48
            · rw [if_neg (fun h => this.1 ⟨h.1, h.2.1⟩ hc), if_neg (by simp [hc])]
            · obtain ⟨h2, h3⟩ := this.2 hc
              rw [if_pos ⟨h2, h3, by omega⟩, if_pos (by simp [hc])]
        | range =>
          simp only [negOf, numOf]
          rw [if_neg]
          rintro ⟨h1, h2, h3⟩
          rw [pu_digs _ 0 (canonB_digs h1).1 (by omega)] at hp
          cases hp
        | _ =>
          simp only [negOf, numOf]
          rw [if_neg]
          rintro ⟨h1, h2, h3⟩
          rw [pu_digs _ 0 (canonB_digs h1).1 (by omega)] at hp
          cases hp
    · have hh : (x :: r).head? ≠ some 45 := by simpa using hx
      have hxn : x.toNat ≠ 45 := fun h => hx (UInt8.toNat_inj.1 h)
      rw [numB_pos hh]
      by_cases hp43 : x = 43
      · subst hp43
        have : canonB (43 :: r) = false := by
          cases hc : canonB (43 :: r) with
          | false => rfl
          | true =>
            have := (canonB_digs hc).1
            simp [isDig] at this
        have h2 : shapeB (43 :: r) = false := by rw [shapeB_pos hh]; exact this
        rw [this, if_neg (by simp)]
        cases Lib.atoiAll (43 :: r) <;> simp [numOf, h2]
      · have hx43 : x.toNat ≠ 43 := fun h => hp43 (UInt8.toNat_inj.1 h)
        rw [atoi_pos hxn hx43, mag_cons]
        cases hp : Lib.parseUint10 0 (x :: r) with
        | ok u =>
          obtain ⟨h1, rfl⟩ := pu_ok _ _ _ hp
          simp only [posOf]
          by_cases hu : 9223372036854775808 ≤ dval 0 (x :: r)
          · rw [if_pos hu, if_neg (fun h => by omega)]; rfl
          · rw [if_neg hu]
            simp only [numOf]
            rw [shapeB_pos hh]
            by_cases hc : canonB (x :: r) = true
            · rw [if_pos ⟨hc, by omega⟩, if_pos hc]
            · rw [if_neg (fun h => hc h.1), if_neg hc]
        | range =>
          simp only [posOf, numOf]
          rw [if_neg]
          rintro ⟨h1, h3⟩
          rw [pu_digs _ 0 (canonB_digs h1).1 (by omega)] at hp
          cases hp
        | _ =>
          simp only [posOf, numOf]
          rw [if_neg]
          rintro ⟨h1, h3⟩
          rw [pu_digs _ 0 (canonB_digs h1).1 (by omega)] at hp
          cases hp
def Dig (n : Int) (j : Nat) (k : Int) (ds : List UInt8) : Prop :=
  ds.length = j ∧ (k ≠ 0 → dB n.natAbs = dB k.natAbs ++ ds) ∧ (k = 0 → 1 ≤ j → dB n.natAbs = ds) ∧ (j = 0 → k = n) ∧ k.natAbs = n.natAbs / 10 ^ j ∧ (0 ≤ n → 0 ≤ k) ∧ (n ≤ 0 → k ≤ 0)
theorem Dig.zero (n : Int) : Dig n 0 n [] := ⟨rfl, fun _ => by simp, fun _ h => by omega, fun _ => rfl, by simp, id, id⟩
theorem Dig.step {n k : Int} {j : Nat} {ds : List UInt8} (h : Dig n j k ds) (hk : k ≠ 0 ∨ j = 0) : Dig n (j + 1) (k.tdiv 10) (dig k.natAbs :: ds) := by
  obtain ⟨h1, h2, h3, h4, h5, h6, h7⟩ := h
  have ht : (k.tdiv 10).natAbs = k.natAbs / 10 := by rw [Int.natAbs_tdiv]; rfl
  have hsgn1 : 0 ≤ k → 0 ≤ k.tdiv 10 := fun h => Int.tdiv_nonneg h (by omega)
  have hsgn2 : k ≤ 0 → k.tdiv 10 ≤ 0 := fun h => by
    have := Int.neg_tdiv (a := k) (b := 10)
    have h3 := Int.tdiv_nonneg (a := -k) (b := 10) (by omega) (by omega)
    omega
  have hd : k ≠ 0 → dB n.natAbs = dB k.natAbs ++ ds := h2
  refine ⟨by simp [h1], fun hk2 => ?_, fun hk2 _ => ?_, fun h => by omega, ?_, fun h => hsgn1 (h6 h), fun h => hsgn2 (h7 h)⟩
  · have hk0 : k ≠ 0 := by rintro rfl; simp at hk2
    have h10 : 10 ≤ k.natAbs := by
      have : (k.tdiv 10).natAbs ≠ 0 := by omega
      omega
    rw [hd hk0, dB_ge h10, ht]
    simp
  · have h10 : k.natAbs < 10 := by
      have : (k.tdiv 10).natAbs = 0 := by rw [hk2]; rfl
      omega
    by_cases hk0 : k = 0
    · rcases hk with hk | hk
      · exact absurd hk0 hk
      · subst hk
        have hn := h4 rfl
        subst hn
        have : ds = [] := List.eq_nil_of_length_eq_zero h1
        subst this
        rw [dB_lt h10]
    · rw [hd hk0, dB_lt h10]; rfl
  · rw [ht, h5, Nat.div_div_eq_div_mul, Nat.pow_succ]
theorem Dig.room {n k : Int} {j : Nat} {ds : List UInt8} (h : Dig n j k ds) (hn : inI n) (hk : k ≠ 0) : j ≤ 18 := by
  obtain ⟨h1, h2, h3, h4, h5, h6, h7⟩ := h
  unfold inI at hn
  have hp : 10 ^ j ≤ n.natAbs := by
    have h9 : n.natAbs / 10 ^ j ≠ 0 := by omega
    rcases Nat.lt_or_ge n.natAbs (10 ^ j) with h | h
    · exact absurd (Nat.div_eq_of_lt h) h9
    · exact h
  rcases Nat.lt_or_ge 18 j with h | h
  · have : 10 ^ 19 ≤ 10 ^ j := Nat.pow_le_pow_right (by omega) (by omega)
    omega
  · exact h
theorem Dig.room0 {n k : Int} {j : Nat} {ds : List UInt8} (h : Dig n j k ds) (hn : inI n) (hj : 1 ≤ j) (hk : k = 0) : j ≤ 19 ∧ dB n.natAbs = ds := by
  obtain ⟨h1, h2, h3, h4, h5, h6, h7⟩ := h
  have e := h3 hk hj
  unfold inI at hn
  have := dB_length n.natAbs 19 (by omega) (by omega)
  rw [e, h1] at this
  exact ⟨this, e⟩
end Go.Proofs.YtokigghopmopbaaGreatDoor
namespace Go.Proofs.YtokigghopmopbaaGreatDoor
open Go.RowKit
set_option maxRecDepth 8000
def bc (b : UInt8) : HV := .v (.int .u8 (b.toNat : Int))
theorem fzoL_bc (m : Nat) (l : List UInt8) : fzoL (List.replicate m (.v (.int .u8 0)) ++ l.map bc) = List.replicate m (.v (.int .u8 0)) ++ l.map bc := by
  rw [fzoL_map, List.map_append, List.map_replicate, List.map_map]
  congr 1
theorem bytes_room {m z : Nat} (l : List UInt8) (h : z = m) : bytesOf (((fzoL (List.replicate m (.v (.int .u8 0)) ++ l.map bc)).map fun c => [c]).drop z) = some l := by
  subst h
  rw [fzoL_bc, List.map_append, List.drop_append_of_le_length (by simp), List.drop_eq_nil_of_le (by simp), List.nil_append, List.map_map]
  exact bytesOf_map l
theorem digit_eq {k : Int} : IntKind.u8.wrap (48 + IntKind.u8.wrap (if IntKind.i64.wrap (0 - k.tmod 10) > k.tmod 10 then IntKind.i64.wrap (0 - k.tmod 10) else k.tmod 10)) = ((dig k.natAbs).toNat : Int) := by
  have h1 : -9 ≤ k.tmod 10 ∧ k.tmod 10 ≤ 9 := by
    have := Int.tmod_lt_of_pos k (b := 10) (by omega)
    have h2 := Int.lt_tmod_of_pos k (b := 10) (by omega)
    omega
  have h3 : (k.tmod 10).natAbs = k.natAbs % 10 := by rw [Int.natAbs_tmod]; rfl
  have h4 : (if IntKind.i64.wrap (0 - k.tmod 10) > k.tmod 10 then IntKind.i64.wrap (0 - k.tmod 10) else k.tmod 10) = ((k.natAbs % 10 : Nat) : Int) := by
    rw [w64 (by omega) (by omega)]
    split <;> omega
  have h5 : k.natAbs % 10 < 10 := Nat.mod_lt _ (by omega)
  have h6 : IntKind.u8.wrap ((k.natAbs % 10 : Nat) : Int) = ((k.natAbs % 10 : Nat) : Int) := w8 (by omega) (by omega)
  rw [h4, dig_toNat, h6, w8 (by omega) (by omega)]
  omega
theorem room_set {m : Nat} {z : Nat} (l : List UInt8) (b : UInt8) (h : m = z + 1) : (List.replicate m (HV.v (.int .u8 0)) ++ l.map bc).take z ++ ([bc b] ++ (List.replicate m (HV.v (.int .u8 0)) ++ l.map bc).drop (z + 1)) = List.replicate z (.v (.int .u8 0)) ++ (b :: l).map bc := by
  subst h
  rw [List.take_append_of_le_length (by simp), List.take_replicate, List.drop_append_of_le_length (by simp)]
  simp
theorem Dig.tdiv {n k : Int} {j : Nat} {ds : List UInt8} (h : Dig n j k ds) (hn : inI n) : IntKind.i64.wrap (k.tdiv 10) = k.tdiv 10 := by
  obtain ⟨h1, h2, h3, h4, h5, h6, h7⟩ := h
  unfold inI at hn
  have h8 : k.natAbs ≤ n.natAbs := by rw [h5]; exact Nat.div_le_self _ _
  have ht : (k.tdiv 10).natAbs = k.natAbs / 10 := by rw [Int.natAbs_tdiv]; rfl
  exact w64 (by omega) (by omega)
theorem numText (n : Int) (hn : inI n) : HFn Tryz.prog 29 [.v (.int .i64 n)] (.v (str (textB n))) := by
  refine HCalls_body (fn := Tryz.f29) 36 [2] (by kernel_rfl) rfl (by kernel_rfl) (HW.run 400 (by kernel_rfl) ?_)
  simp (config := { decide := true }) only [go_sem, Int.reduceToNat, Nat.reduceAdd, Nat.reduceSub, Nat.reduceMul, Nat.reduceBEq, reduceIte, reduceCtorEq]
  refine HW.loopG (fun μ T H => ∃ (j : Nat) (k : Int) (ds : List UInt8), μ = 21 - j ∧ j ≤ 19 ∧ Dig n j k ds ∧ T 0 = .v (.int .i64 n) ∧ T 3 = .pt 0 1 0 0 ∧ T 4 = .v (.int .i64 (20 - j)) ∧ T 5 = .v (.int .i64 k) ∧
    H = [some ⟨83, 20, [List.replicate (20 - j) (.v (.int .u8 0)) ++ ds.map bc]⟩]) 21
    ⟨_, _, Ghost.refl, 0, n, [], by simp, by omega, Dig.zero n, rfl, rfl, rfl, rfl, rfl⟩ ?_
  rintro μ T H ⟨j, k, ds, rfl, hj, hD, h0, h3, h4, h5, rfl⟩
  refine HW.run 200 (by kernel_rfl) ?_
  have e1 : IntKind.i64.wrap (20 - (j : Int) - 1) = 19 - (j : Int) := by rw [w64 (by omega) (by omega)]; omega
  have e2 : (19 - (j : Int)).toNat = 19 - j := by omega
  have e3 : (0 : Int) ≤ 19 - (j : Int) ∧ 19 - (j : Int) < 20 := by omega
  have e4 := hD.tdiv hn
  by_cases hk : k ≠ 0 ∨ j = 0
  · have hj2 : j ≤ 18 := by
      rcases hk with h | h
      · exact hD.room hn h
      · omega
    have hD' := hD.step hk
    have fin : ∀ T' : Nat → HV, T' 0 = .v (.int .i64 n) → T' 3 = .pt 0 1 0 0 → T' 4 = .v (.int .i64 (19 - (j : Int))) → T' 5 = .v (.int .i64 (k.tdiv 10)) → ∀ row, row = List.replicate (20 - (j + 1)) (.v (.int .u8 0)) ++ (dig k.natAbs :: ds).map bc →
        GQ 36 0 (fun T' H' => ∃ k', k' < 21 - j ∧ ∃ j k ds, k' = 21 - j ∧ j ≤ 19 ∧ Dig n j k ds ∧ T' 0 = .v (.int .i64 n) ∧ T' 3 = .pt 0 1 0 0 ∧ T' 4 = .v (.int .i64 (20 - j)) ∧ T' 5 = .v (.int .i64 k) ∧
          H' = [some ⟨83, 20, [List.replicate (20 - j) (.v (.int .u8 0)) ++ ds.map bc]⟩]) T' [some ⟨83, 20, [row]⟩] := by
      rintro T' g0 g3 g4 g5 row rfl
      refine ⟨_, _, Ghost.refl, 21 - (j + 1), by omega, j + 1, _, _, rfl, by omega, hD', g0, g3, ?_, g5, rfl⟩
      rw [g4]; congr 2; omega
    have hk0 : (k = 0) = True ∨ (k = 0) = False := by by_cases h : k = 0 <;> simp [h]
    rcases hk0 with hk0 | hk0
    · have hj0 : j = 0 := by rcases hk with h | h; exact absurd (of_eq_true hk0) h; exact h
      subst hj0
      simp (config := { decide := true }) only [go_sem, Int.reduceToNat, Nat.reduceAdd, Nat.reduceSub, Nat.reduceMul, Nat.reduceBEq, reduceIte, reduceCtorEq, h0, h3, h4, h5, hk0, e1, e2, e3, e4, digit_eq]
      refine fin _ ?_ ?_ ?_ ?_ _ ?_
      iterate 4
        · simp (config := { decide := true }) only [go_sem, Nat.reduceBEq, reduceIte, h0, h3]
      · simp only [List.append_assoc]; exact room_set ds (dig k.natAbs) (z := 19) rfl
    · simp (config := { decide := true }) only [go_sem, Int.reduceToNat, Nat.reduceAdd, Nat.reduceSub, Nat.reduceMul, Nat.reduceBEq, reduceIte, reduceCtorEq, h0, h3, h4, h5, hk0, e1, e2, e3, e4, digit_eq]
      refine ⟨by omega, by omega, fin _ ?_ ?_ ?_ ?_ _ ?_⟩
      iterate 4
        · simp (config := { decide := true }) only [go_sem, Nat.reduceBEq, reduceIte, h0, h3]
      · simp only [List.append_assoc, Nat.mul_one]
        rw [show 20 - (j + 1) = 19 - j by omega]
        exact room_set ds (dig k.natAbs) (z := 19 - j) (by omega)
  · have hk0 : k = 0 := by
      rcases Classical.em (k = 0) with h | h
      · exact h
      · exact absurd (.inl h) hk
    have hj1 : 1 ≤ j := by omega
    subst hk0
    obtain ⟨hj2, hd⟩ := hD.room0 hn hj1 rfl
    have hne : ¬ (20 - (j : Int) = 20) := by omega
    have e5 : (20 - (j : Int)).toNat = 20 - j := by omega
    by_cases hneg : n < 0
    · simp (config := { decide := true }) only [go_sem, Int.reduceToNat, Nat.reduceAdd, Nat.reduceSub, Nat.reduceMul, Nat.reduceBEq, reduceIte, reduceCtorEq, h0, h3, h4, h5, hne, hneg, e1, e2, e3, e4]
      have hb : bytesOf (List.drop (19 - j) (List.map (fun c => [c]) (fzoL (List.take ((19 - j) * 1) (List.replicate (20 - j) (HV.v (Value.int IntKind.u8 0)) ++ List.map bc ds) ++ [HV.v (Value.int IntKind.u8 45)] ++
          List.drop ((19 - j) * 1 + 1) (List.replicate (20 - j) (HV.v (Value.int IntKind.u8 0)) ++ List.map bc ds))))) = some (45 :: ds) := by
        rw [List.append_assoc, Nat.mul_one]
        have := room_set ds 45 (z := 19 - j) (m := 20 - j) (by omega)
        rw [show [HV.v (Value.int IntKind.u8 45)] = [bc 45] from rfl, this]
        exact bytes_room _ rfl
      refine ⟨by omega, by omega, ⟨by rw [List.length_take, List.length_drop]; simp [hD.1]; omega, by omega⟩, ?_⟩
      rw [hb]
      simp (config := { decide := true }) only [go_sem, Int.reduceToNat, Nat.reduceAdd, Nat.reduceSub, Nat.reduceMul, Nat.reduceBEq, reduceIte, reduceCtorEq]
      unfold textB
      rw [if_pos hneg, hd]
    · simp (config := { decide := true }) only [go_sem, Int.reduceToNat, Nat.reduceAdd, Nat.reduceSub, Nat.reduceMul, Nat.reduceBEq, reduceIte, reduceCtorEq, h0, h3, h4, h5, hne, hneg, e1, e2, e3, e5]
      refine ⟨⟨by simp [hD.1]; omega, by omega, by omega⟩, ?_⟩
      rw [bytes_room ds rfl]
      simp (config := { decide := true }) only [go_sem, Int.reduceToNat, Nat.reduceAdd, Nat.reduceSub, Nat.reduceMul, Nat.reduceBEq, reduceIte, reduceCtorEq]
      unfold textB
      rw [if_neg hneg, hd]
end Go.Proofs.YtokigghopmopbaaGreatDoor
namespace Go.Proofs.YtokigghopmopbaaGreatDoor
open Go.RowKit
set_option maxRecDepth 8000
theorem textB_zero : textB 0 = [48] := by
  unfold textB
  rw [if_neg (by omega), dB_lt (by decide)]
  rfl
theorem tmod_bd (k : Int) : -9 ≤ k.tmod 10 ∧ k.tmod 10 ≤ 9 := by
  have := Int.tmod_lt_of_pos k (b := 10) (by omega)
  have h2 := Int.lt_tmod_of_pos k (b := 10) (by omega)
  omega
theorem tmod_abs (k : Int) : (k.tmod 10).natAbs = k.natAbs % 10 := by rw [Int.natAbs_tmod]; rfl
theorem dig_neg {k : Int} (h : k.tmod 10 < 0) : UInt8.ofNat (IntKind.u8.wrap (IntKind.i64.wrap (48 + IntKind.i64.wrap (0 - k.tmod 10)))).toNat = dig k.natAbs := by
  have h1 := tmod_bd k
  have h2 := tmod_abs k
  rw [w64 (x := 0 - k.tmod 10) (by omega) (by omega), w64 (by omega) (by omega), w8 (by omega) (by omega)]
  unfold dig
  congr 1
  omega
theorem dig_pos {k : Int} (h : ¬ k.tmod 10 < 0) : UInt8.ofNat (IntKind.u8.wrap (IntKind.i64.wrap (48 + k.tmod 10))).toNat = dig k.natAbs := by
  have h1 := tmod_bd k
  have h2 := tmod_abs k
  rw [w64 (by omega) (by omega), w8 (by omega) (by omega)]
  unfold dig
  congr 1
  omega
theorem refText (n : Int) (hn : inI n) : HFn Tryz.prog 30 [.v (.int .i64 n)] (.v (str (textB n))) := by
  refine HCalls_body (fn := Tryz.f30) 31 [2] (by kernel_rfl) rfl (by kernel_rfl) (HW.run 400 (by kernel_rfl) ?_)
  by_cases hn0 : n = 0
  · subst hn0
    simp (config := { decide := true }) only [go_sem, Int.reduceToNat, Nat.reduceAdd, Nat.reduceSub, Nat.reduceMul, Nat.reduceBEq, reduceIte, reduceCtorEq]
    rw [textB_zero]
  simp (config := { decide := true }) only [go_sem, Int.reduceToNat, Nat.reduceAdd, Nat.reduceSub, Nat.reduceMul, Nat.reduceBEq, reduceIte, reduceCtorEq, hn0]
  refine HW.loopG (fun μ T H => ∃ (j : Nat) (k : Int) (ds : List UInt8), μ = 21 - j ∧ j ≤ 19 ∧ Dig n j k ds ∧ T 0 = .v (.int .i64 n) ∧ T 3 = .v (str ds) ∧ T 4 = .v (.int .i64 k) ∧ H = []) 21
    ⟨_, _, Ghost.refl, 0, n, [], by simp, by omega, Dig.zero n, rfl, rfl, rfl, rfl⟩ ?_
  rintro μ T H ⟨j, k, ds, rfl, hj, hD, h0, h3, h4, rfl⟩
  refine HW.run 200 (by kernel_rfl) ?_
  have e4 := hD.tdiv hn
  have hlen := hD.1
  by_cases hk : k = 0
  · subst hk
    by_cases hneg : n < 0
    · simp (config := { decide := true }) only [go_sem, Int.reduceToNat, Nat.reduceAdd, Nat.reduceSub, Nat.reduceMul, Nat.reduceBEq, reduceIte, reduceCtorEq, h0, h3, h4, hneg]
      have hj1 : 1 ≤ j := by
        rcases Nat.eq_zero_or_pos j with h | h
        · exact absurd (hD.2.2.2.1 h).symm hn0
        · exact h
      obtain ⟨_, hd⟩ := hD.room0 hn hj1 rfl
      refine ⟨by omega, ?_⟩
      unfold textB
      rw [if_pos hneg, hd]
    · simp (config := { decide := true }) only [go_sem, Int.reduceToNat, Nat.reduceAdd, Nat.reduceSub, Nat.reduceMul, Nat.reduceBEq, reduceIte, reduceCtorEq, h0, h3, h4, hneg]
      have hj1 : 1 ≤ j := by
        rcases Nat.eq_zero_or_pos j with h | h
        · exact absurd (hD.2.2.2.1 h).symm hn0
        · exact h
      obtain ⟨_, hd⟩ := hD.room0 hn hj1 rfl
      unfold textB
      rw [if_neg hneg, hd]
  · have hj2 := hD.room hn hk
    have hD' := hD.step (.inl hk)
    by_cases hd : k.tmod 10 < 0
    · simp (config := { decide := true }) only [go_sem, Int.reduceToNat, Nat.reduceAdd, Nat.reduceSub, Nat.reduceMul, Nat.reduceBEq, reduceIte, reduceCtorEq, h0, h3, h4, hk, hd, e4, dig_neg hd]
      repeat (with_reducible refine And.intro ?_ ?_; · (with_reducible and_intros) <;> omega)
      refine ⟨_, _, Ghost.trunc [0, 3, 4] 0 (by omega) ?_ ?_, 21 - (j + 1), by omega, j + 1, _, _, rfl, by omega, hD', ?_, ?_, ?_, ?_⟩
      · simp (config := { decide := true }) only [go_sem, Nat.reduceBEq, reduceIte, h0]
      · simp (config := { decide := true }) only [go_sem, Nat.reduceBEq, reduceIte]
      · simp (config := { decide := true }) only [go_sem, Nat.reduceBEq, reduceIte, h0]
      · simp (config := { decide := true }) only [go_sem, Nat.reduceBEq, reduceIte]
      · simp (config := { decide := true }) only [go_sem, Nat.reduceBEq, reduceIte]
      · rfl
    · simp (config := { decide := true }) only [go_sem, Int.reduceToNat, Nat.reduceAdd, Nat.reduceSub, Nat.reduceMul, Nat.reduceBEq, reduceIte, reduceCtorEq, h0, h3, h4, hk, hd, e4, dig_pos hd]
      repeat (with_reducible refine And.intro ?_ ?_; · (with_reducible and_intros) <;> omega)
      refine ⟨_, _, Ghost.trunc [0, 3, 4] 0 (by omega) ?_ ?_, 21 - (j + 1), by omega, j + 1, _, _, rfl, by omega, hD', ?_, ?_, ?_, ?_⟩
      · simp (config := { decide := true }) only [go_sem, Nat.reduceBEq, reduceIte, h0]
      · simp (config := { decide := true }) only [go_sem, Nat.reduceBEq, reduceIte]
      · simp (config := { decide := true }) only [go_sem, Nat.reduceBEq, reduceIte, h0]
      · simp (config := { decide := true }) only [go_sem, Nat.reduceBEq, reduceIte]
      · simp (config := { decide := true }) only [go_sem, Nat.reduceBEq, reduceIte]
      · rfl
def sgnAt (s : List UInt8) : Nat := if s.head? = some 45 then 1 else 0
def sgnOf (s : List UInt8) : Int := if s.head? = some 45 then -1 else 1
theorem numB_parts {s : List UInt8} (h : (numB s).2 = true) : (numB s).1 = sgnOf s * (dval 0 (s.drop (sgnAt s)) : Int) ∧ (s.drop (sgnAt s)).all isDig = true ∧ s.length ≤ 20 := by
  have hl : s.length ≤ 20 := by
    have := numB_true h
    rw [← this.2]; exact textB_length this.1
  unfold sgnOf sgnAt
  by_cases hs : s.head? = some 45
  · cases s with
    | nil => simp at hs
    | cons x r =>
      simp only [List.head?_cons, Option.some.injEq] at hs
      subst hs
      rw [numB_neg] at h ⊢
      split at h
      · rename_i hc
        rw [if_pos hc]
        simp only [List.head?_cons, if_true, List.drop_one, List.tail_cons]
        exact ⟨by omega, (canonB_digs hc.1).1, hl⟩
      · simp at h
  · rw [numB_pos hs] at h ⊢
    split at h
    · rename_i hc
      rw [if_pos hc]
      simp only [hs, if_false, List.drop_zero]
      exact ⟨by omega, (canonB_digs hc.1).1, hl⟩
    · simp at h
theorem wrap_in (x : Int) : inI (IntKind.i64.wrap x) := by
  unfold inI
  rw [IntKind.wrap_i64]
  omega
theorem wrap_step (x y : Int) : IntKind.i64.wrap (IntKind.i64.wrap (IntKind.i64.wrap x * 10) + y) = IntKind.i64.wrap (x * 10 + y) := by
  simp only [IntKind.wrap_i64]
  omega
theorem numB_none {s : List UInt8} (h : (numB s).2 ≠ true) : numB s = (0, false) := numB_false (by cases hb : (numB s).2 <;> simp_all)
theorem numB_end {s : List UInt8} {w : Int} (hw : s.length ≤ 20 → w = IntKind.i64.wrap (sgnOf s * (dval 0 (s.drop (sgnAt s)) : Int))) (hin : inI w) :
    (textB w = s → numB s = (w, true)) ∧ (textB w ≠ s → numB s = (0, false)) := by
  refine ⟨fun h => by rw [← h]; exact numB_text hin, fun h => numB_none fun hc => h ?_⟩
  obtain ⟨e1, e2, e3⟩ := numB_parts hc
  obtain ⟨e4, e5⟩ := numB_true hc
  have : w = (numB s).1 := by
    rw [hw e3, ← e1]
    unfold inI at e4
    exact w64 e4.1 e4.2
  rw [this]; exact e5
theorem byte_lt {b : UInt8} : ((b.toNat : Int) < 48) = (b.toNat < 48) := by simp only [eq_iff_iff]; omega
theorem byte_gt {b : UInt8} : ((57 : Int) < (b.toNat : Int)) = (57 < b.toNat) := by simp only [eq_iff_iff]; omega
theorem byte_45 {b : UInt8} : ((b.toNat : Int) = 45) = (b = 45) := by
  have : ((45 : UInt8).toNat : Int) = 45 := rfl
  rw [← this, byteEq]
theorem dig_sub {b : UInt8} (h1 : ¬ b.toNat < 48) (h2 : ¬ 57 < b.toNat) : IntKind.i64.wrap (IntKind.u8.wrap ((b.toNat : Int) - 48)) = ((b.toNat - 48 : Nat) : Int) := by
  rw [w8 (by omega) (by omega), w64 (by omega) (by omega)]; omega
theorem take_step {s : List UInt8} {a i : Nat} (ha : a ≤ i) (hi : i < s.length) : (s.take (i + 1)).drop a = (s.take i).drop a ++ [s[i]] := by
  rw [List.take_add_one, List.getElem?_eq_getElem hi, List.drop_append_of_le_length (by simp; omega)]
  rfl
theorem refGet (s : List UInt8) (hs : s.length ≤ 1000000) : HFn Tryz.prog 28 [.v (str s)] (.tu [.v (.int .i64 (numB s).1), .v (.bool (numB s).2)]) := by
  refine HCalls_body (fn := Tryz.f28) 56 [2, 3] (by kernel_rfl) rfl (by kernel_rfl) (HW.run 400 (by kernel_rfl) ?_)
  have hal : sgnAt s ≤ s.length := by
    unfold sgnAt; split
    · cases s with
      | nil => rename_i h; simp at h
      | cons x r => simp
    · omega
  have hcase : (s = [] ∧ sgnAt s = 0 ∧ sgnOf s = 1) ∨ (∃ x r, s = x :: r ∧ x ≠ 45 ∧ sgnAt s = 0 ∧ sgnOf s = 1) ∨ (∃ r, s = 45 :: r ∧ sgnAt s = 1 ∧ sgnOf s = -1) := by
    cases s with
    | nil => exact .inl ⟨rfl, rfl, rfl⟩
    | cons x r =>
      by_cases hx : x = 45
      · subst hx; exact .inr (.inr ⟨r, rfl, rfl, rfl⟩)
      · refine .inr (.inl ⟨x, r, rfl, hx, ?_, ?_⟩)
        · unfold sgnAt; rw [if_neg (by simpa using hx)]
        · unfold sgnOf; rw [if_neg (by simpa using hx)]
  let J := fun (μ : Nat) (T : Nat → HV) (H : Heap) => ∃ (i : Nat), μ = s.length - i ∧ sgnAt s ≤ i ∧ i ≤ s.length ∧ ((s.take i).drop (sgnAt s)).all isDig = true ∧ T 0 = .v (str s) ∧ T 4 = .v (.int .i64 (sgnAt s)) ∧ T 5 = .v (.int .i64 (IntKind.i64.wrap (sgnOf s * (dval 0 ((s.take i).drop (sgnAt s)) : Int)))) ∧ T 6 = .v (.int .i64 i) ∧ H = []
  have hent : ((s.take (sgnAt s)).drop (sgnAt s)) = [] := List.drop_eq_nil_of_le (by simp; omega)
  have hw0 : IntKind.i64.wrap (sgnOf s * (dval 0 ((s.take (sgnAt s)).drop (sgnAt s)) : Int)) = 0 := by
    rw [hent, dval_nil]; simp; rfl
  rcases hcase with ⟨he, ha0, hsg⟩ | ⟨x, r, he, hx, ha0, hsg⟩ | ⟨r, he, ha0, hsg⟩
  · have hlen : s.length = 0 := by rw [he]; rfl
    simp (config := { decide := true }) only [go_sem, Int.reduceToNat, Nat.reduceAdd, Nat.reduceSub, Nat.reduceMul, Nat.reduceBEq, reduceIte, reduceCtorEq, hlen]
    have hat : (((sgnAt s : Nat) : Int) = 1) = False := by rw [ha0]; simp
    refine HW.loopG J (s.length - sgnAt s) ⟨_, _, Ghost.refl, sgnAt s, rfl, by omega, hal, by rw [hent]; rfl, rfl, ?_, ?_, ?_, rfl⟩ ?_
    · rw [ha0]; rfl
    · rw [hw0]; rfl
    · rw [ha0]; rfl
    · rintro μ T H ⟨i, rfl, hai, hi, hd, h0, h4, h5, h6, rfl⟩
      refine HW.run 400 (by kernel_rfl) ?_
      by_cases hlt : i < s.length
      · have hlt' : (i : Int) < (s.length : Int) := by omega
        by_cases h20 : s.length ≤ 20
        · have h20' : (s.length : Int) ≤ 20 := by omega
          have hx : s[i]? = some s[i] := List.getElem?_eq_getElem hlt
          have hmem : s[i] ∈ s.drop (sgnAt s) := by
            rw [List.mem_iff_getElem?]
            exact ⟨i - sgnAt s, by rw [List.getElem?_drop, show sgnAt s + (i - sgnAt s) = i by omega]; exact hx⟩
          by_cases hb1 : s[i].toNat < 48
          · simp (config := { decide := true }) only [go_sem, Int.reduceToNat, Nat.reduceAdd, Nat.reduceSub, Nat.reduceMul, Nat.reduceBEq, reduceIte, reduceCtorEq, h0, h4, h5, h6, hlt', h20', hx, byte_lt, byte_gt, hb1]
            have : numB s = (0, false) := numB_none fun hc => by
              have := List.all_eq_true.1 (numB_parts hc).2.1 _ hmem
              simp only [isDig, Bool.and_eq_true, decide_eq_true_eq] at this
              omega
            rw [this]
          · by_cases hb2 : 57 < s[i].toNat
            · simp (config := { decide := true }) only [go_sem, Int.reduceToNat, Nat.reduceAdd, Nat.reduceSub, Nat.reduceMul, Nat.reduceBEq, reduceIte, reduceCtorEq, h0, h4, h5, h6, hlt', h20', hx, byte_lt, byte_gt, hb1, hb2]
              have : numB s = (0, false) := numB_none fun hc => by
                have := List.all_eq_true.1 (numB_parts hc).2.1 _ hmem
                simp only [isDig, Bool.and_eq_true, decide_eq_true_eq] at this
                omega
              rw [this]
            · have hdg : isDig s[i] = true := by simp only [isDig, Bool.and_eq_true, decide_eq_true_eq]; omega
              simp (config := { decide := true }) only [go_sem, Int.reduceToNat, Nat.reduceAdd, Nat.reduceSub, Nat.reduceMul, Nat.reduceBEq, reduceIte, reduceCtorEq, h0, h4, h5, h6, hlt', h20', hx, byte_lt, byte_gt, hb1, hb2, hat]
              refine ⟨_, _, Ghost.refl, s.length - (i + 1), by omega, i + 1, rfl, by omega, by omega, ?_, ?_, ?_, ?_, ?_, rfl⟩
              · rw [take_step hai hlt, List.all_append, hd]; simp [hdg]
              · simp (config := { decide := true }) only [go_sem, Nat.reduceBEq, reduceIte, h0]
              · simp (config := { decide := true }) only [go_sem, Nat.reduceBEq, reduceIte, h4]
              · simp (config := { decide := true }) only [go_sem, Nat.reduceBEq, reduceIte]
                rw [dig_sub hb1 hb2, take_step hai hlt, dval_snoc]
                have e9 : ((s[i].toNat - 48 : Nat) : Int) ≤ 9 := by omega
                first
                  | (rw [wrap_step]; congr 3; rw [hsg]; omega)
                  | (rw [w64 (x := 0 - ((s[i].toNat - 48 : Nat) : Int)) (by omega) (by omega), wrap_step]; congr 3; rw [hsg]; omega)
              · simp (config := { decide := true }) only [go_sem, Nat.reduceBEq, reduceIte]
                rw [w64 (by omega) (by omega)]; rfl
        · have h20' : ¬ (s.length : Int) ≤ 20 := by omega
          simp (config := { decide := true }) only [go_sem, Int.reduceToNat, Nat.reduceAdd, Nat.reduceSub, Nat.reduceMul, Nat.reduceBEq, reduceIte, reduceCtorEq, h0, h4, h5, h6, hlt', h20']
          refine callX_fn 3 (refText (IntKind.i64.wrap (sgnOf s * (dval 0 ((s.take i).drop (sgnAt s)) : Int))) (wrap_in _)) (by simp only [go_sem]) rfl ?_
          simp (config := { decide := true }) only [go_sem, Int.reduceToNat, Nat.reduceAdd, Nat.reduceSub, Nat.reduceMul, Nat.reduceBEq, reduceIte, reduceCtorEq, h0, h5]
          obtain ⟨k1, k2⟩ := numB_end (s := s) (w := IntKind.i64.wrap (sgnOf s * (dval 0 ((s.take i).drop (sgnAt s)) : Int))) (fun h => absurd h h20) (wrap_in _)
          exact ⟨fun h => by rw [k2 h], fun h => by rw [k1 h]⟩
      · have hlt' : ¬ (i : Int) < (s.length : Int) := by omega
        have hil : i = s.length := by omega
        simp (config := { decide := true }) only [go_sem, Int.reduceToNat, Nat.reduceAdd, Nat.reduceSub, Nat.reduceMul, Nat.reduceBEq, reduceIte, reduceCtorEq, h0, h4, h5, h6, hlt']
        refine callX_fn 3 (refText (IntKind.i64.wrap (sgnOf s * (dval 0 ((s.take i).drop (sgnAt s)) : Int))) (wrap_in _)) (by simp only [go_sem]) rfl ?_
        simp (config := { decide := true }) only [go_sem, Int.reduceToNat, Nat.reduceAdd, Nat.reduceSub, Nat.reduceMul, Nat.reduceBEq, reduceIte, reduceCtorEq, h0, h5]
        obtain ⟨k1, k2⟩ := numB_end (s := s) (w := IntKind.i64.wrap (sgnOf s * (dval 0 ((s.take i).drop (sgnAt s)) : Int))) (fun h => by rw [hil, List.take_length]) (wrap_in _)
        exact ⟨fun h => by rw [k2 h], fun h => by rw [k1 h]⟩
  · have hlen : (0 : Int) < (s.length : Int) := by rw [he]; simp
    have h0' : s[0]? = some x := by rw [he]; rfl
    have hx' : ¬ ((x.toNat : Int) = 45) := by rw [byte_45]; exact hx
    simp (config := { decide := true }) only [go_sem, Int.reduceToNat, Nat.reduceAdd, Nat.reduceSub, Nat.reduceMul, Nat.reduceBEq, reduceIte, reduceCtorEq, hlen, h0', hx']
    have hat : (((sgnAt s : Nat) : Int) = 1) = False := by rw [ha0]; simp
    refine HW.loopG J (s.length - sgnAt s) ⟨_, _, Ghost.refl, sgnAt s, rfl, by omega, hal, by rw [hent]; rfl, rfl, ?_, ?_, ?_, rfl⟩ ?_
    · rw [ha0]; rfl
    · rw [hw0]; rfl
    · rw [ha0]; rfl
    · rintro μ T H ⟨i, rfl, hai, hi, hd, h0, h4, h5, h6, rfl⟩
      refine HW.run 400 (by kernel_rfl) ?_
      by_cases hlt : i < s.length
      · have hlt' : (i : Int) < (s.length : Int) := by omega
        by_cases h20 : s.length ≤ 20
        · have h20' : (s.length : Int) ≤ 20 := by omega
          have hx : s[i]? = some s[i] := List.getElem?_eq_getElem hlt
          have hmem : s[i] ∈ s.drop (sgnAt s) := by
            rw [List.mem_iff_getElem?]
            exact ⟨i - sgnAt s, by rw [List.getElem?_drop, show sgnAt s + (i - sgnAt s) = i by omega]; exact hx⟩
          by_cases hb1 : s[i].toNat < 48
          · simp (config := { decide := true }) only [go_sem, Int.reduceToNat, Nat.reduceAdd, Nat.reduceSub, Nat.reduceMul, Nat.reduceBEq, reduceIte, reduceCtorEq, h0, h4, h5, h6, hlt', h20', hx, byte_lt, byte_gt, hb1]
            have : numB s = (0, false) := numB_none fun hc => by
              have := List.all_eq_true.1 (numB_parts hc).2.1 _ hmem
              simp only [isDig, Bool.and_eq_true, decide_eq_true_eq] at this
              omega
            rw [this]
          · by_cases hb2 : 57 < s[i].toNat
            · simp (config := { decide := true }) only [go_sem, Int.reduceToNat, Nat.reduceAdd, Nat.reduceSub, Nat.reduceMul, Nat.reduceBEq, reduceIte, reduceCtorEq, h0, h4, h5, h6, hlt', h20', hx, byte_lt, byte_gt, hb1, hb2]
              have : numB s = (0, false) := numB_none fun hc => by
                have := List.all_eq_true.1 (numB_parts hc).2.1 _ hmem
                simp only [isDig, Bool.and_eq_true, decide_eq_true_eq] at this
                omega
              rw [this]
            · have hdg : isDig s[i] = true := by simp only [isDig, Bool.and_eq_true, decide_eq_true_eq]; omega
              simp (config := { decide := true }) only [go_sem, Int.reduceToNat, Nat.reduceAdd, Nat.reduceSub, Nat.reduceMul, Nat.reduceBEq, reduceIte, reduceCtorEq, h0, h4, h5, h6, hlt', h20', hx, byte_lt, byte_gt, hb1, hb2, hat]
              refine ⟨_, _, Ghost.refl, s.length - (i + 1), by omega, i + 1, rfl, by omega, by omega, ?_, ?_, ?_, ?_, ?_, rfl⟩
              · rw [take_step hai hlt, List.all_append, hd]; simp [hdg]
              · simp (config := { decide := true }) only [go_sem, Nat.reduceBEq, reduceIte, h0]
              · simp (config := { decide := true }) only [go_sem, Nat.reduceBEq, reduceIte, h4]
              · simp (config := { decide := true }) only [go_sem, Nat.reduceBEq, reduceIte]
                rw [dig_sub hb1 hb2, take_step hai hlt, dval_snoc]
                have e9 : ((s[i].toNat - 48 : Nat) : Int) ≤ 9 := by omega
                first
                  | (rw [wrap_step]; congr 3; rw [hsg]; omega)
                  | (rw [w64 (x := 0 - ((s[i].toNat - 48 : Nat) : Int)) (by omega) (by omega), wrap_step]; congr 3; rw [hsg]; omega)
              · simp (config := { decide := true }) only [go_sem, Nat.reduceBEq, reduceIte]
                rw [w64 (by omega) (by omega)]; rfl
        · have h20' : ¬ (s.length : Int) ≤ 20 := by omega
          simp (config := { decide := true }) only [go_sem, Int.reduceToNat, Nat.reduceAdd, Nat.reduceSub, Nat.reduceMul, Nat.reduceBEq, reduceIte, reduceCtorEq, h0, h4, h5, h6, hlt', h20']
          refine callX_fn 3 (refText (IntKind.i64.wrap (sgnOf s * (dval 0 ((s.take i).drop (sgnAt s)) : Int))) (wrap_in _)) (by simp only [go_sem]) rfl ?_
          simp (config := { decide := true }) only [go_sem, Int.reduceToNat, Nat.reduceAdd, Nat.reduceSub, Nat.reduceMul, Nat.reduceBEq, reduceIte, reduceCtorEq, h0, h5]
          obtain ⟨k1, k2⟩ := numB_end (s := s) (w := IntKind.i64.wrap (sgnOf s * (dval 0 ((s.take i).drop (sgnAt s)) : Int))) (fun h => absurd h h20) (wrap_in _)
          exact ⟨fun h => by rw [k2 h], fun h => by rw [k1 h]⟩
      · have hlt' : ¬ (i : Int) < (s.length : Int) := by omega
        have hil : i = s.length := by omega
        simp (config := { decide := true }) only [go_sem, Int.reduceToNat, Nat.reduceAdd, Nat.reduceSub, Nat.reduceMul, Nat.reduceBEq, reduceIte, reduceCtorEq, h0, h4, h5, h6, hlt']
        refine callX_fn 3 (refText (IntKind.i64.wrap (sgnOf s * (dval 0 ((s.take i).drop (sgnAt s)) : Int))) (wrap_in _)) (by simp only [go_sem]) rfl ?_
        simp (config := { decide := true }) only [go_sem, Int.reduceToNat, Nat.reduceAdd, Nat.reduceSub, Nat.reduceMul, Nat.reduceBEq, reduceIte, reduceCtorEq, h0, h5]
        obtain ⟨k1, k2⟩ := numB_end (s := s) (w := IntKind.i64.wrap (sgnOf s * (dval 0 ((s.take i).drop (sgnAt s)) : Int))) (fun h => by rw [hil, List.take_length]) (wrap_in _)
        exact ⟨fun h => by rw [k2 h], fun h => by rw [k1 h]⟩
  · have hlen : (0 : Int) < (s.length : Int) := by rw [he]; simp
    have h0' : s[0]? = some 45 := by rw [he]; rfl
    have hx' : ((45 : UInt8).toNat : Int) = 45 := rfl
    simp (config := { decide := true }) only [go_sem, Int.reduceToNat, Nat.reduceAdd, Nat.reduceSub, Nat.reduceMul, Nat.reduceBEq, reduceIte, reduceCtorEq, hlen, h0', hx']
    have hat : (((sgnAt s : Nat) : Int) = 1) = True := by rw [ha0]; simp
    refine HW.loopG J (s.length - sgnAt s) ⟨_, _, Ghost.refl, sgnAt s, rfl, by omega, hal, by rw [hent]; rfl, rfl, ?_, ?_, ?_, rfl⟩ ?_
    · rw [ha0]; rfl
    · rw [hw0]; rfl
    · rw [ha0]; rfl
    · rintro μ T H ⟨i, rfl, hai, hi, hd, h0, h4, h5, h6, rfl⟩
      refine HW.run 400 (by kernel_rfl) ?_
      by_cases hlt : i < s.length
      · have hlt' : (i : Int) < (s.length : Int) := by omega
        by_cases h20 : s.length ≤ 20
        · have h20' : (s.length : Int) ≤ 20 := by omega
          have hx : s[i]? = some s[i] := List.getElem?_eq_getElem hlt
          have hmem : s[i] ∈ s.drop (sgnAt s) := by
            rw [List.mem_iff_getElem?]
            exact ⟨i - sgnAt s, by rw [List.getElem?_drop, show sgnAt s + (i - sgnAt s) = i by omega]; exact hx⟩
          by_cases hb1 : s[i].toNat < 48
          · simp (config := { decide := true }) only [go_sem, Int.reduceToNat, Nat.reduceAdd, Nat.reduceSub, Nat.reduceMul, Nat.reduceBEq, reduceIte, reduceCtorEq, h0, h4, h5, h6, hlt', h20', hx, byte_lt, byte_gt, hb1]
            have : numB s = (0, false) := numB_none fun hc => by
              have := List.all_eq_true.1 (numB_parts hc).2.1 _ hmem
              simp only [isDig, Bool.and_eq_true, decide_eq_true_eq] at this
              omega
            rw [this]
          · by_cases hb2 : 57 < s[i].toNat
            · simp (config := { decide := true }) only [go_sem, Int.reduceToNat, Nat.reduceAdd, Nat.reduceSub, Nat.reduceMul, Nat.reduceBEq, reduceIte, reduceCtorEq, h0, h4, h5, h6, hlt', h20', hx, byte_lt, byte_gt, hb1, hb2]
              have : numB s = (0, false) := numB_none fun hc => by
                have := List.all_eq_true.1 (numB_parts hc).2.1 _ hmem
                simp only [isDig, Bool.and_eq_true, decide_eq_true_eq] at this
                omega
              rw [this]
            · have hdg : isDig s[i] = true := by simp only [isDig, Bool.and_eq_true, decide_eq_true_eq]; omega
              simp (config := { decide := true }) only [go_sem, Int.reduceToNat, Nat.reduceAdd, Nat.reduceSub, Nat.reduceMul, Nat.reduceBEq, reduceIte, reduceCtorEq, h0, h4, h5, h6, hlt', h20', hx, byte_lt, byte_gt, hb1, hb2, hat]
              refine ⟨_, _, Ghost.refl, s.length - (i + 1), by omega, i + 1, rfl, by omega, by omega, ?_, ?_, ?_, ?_, ?_, rfl⟩
              · rw [take_step hai hlt, List.all_append, hd]; simp [hdg]
              · simp (config := { decide := true }) only [go_sem, Nat.reduceBEq, reduceIte, h0]
              · simp (config := { decide := true }) only [go_sem, Nat.reduceBEq, reduceIte, h4]
              · simp (config := { decide := true }) only [go_sem, Nat.reduceBEq, reduceIte]
                rw [dig_sub hb1 hb2, take_step hai hlt, dval_snoc]
                have e9 : ((s[i].toNat - 48 : Nat) : Int) ≤ 9 := by omega
                first
                  | (rw [wrap_step]; congr 3; rw [hsg]; omega)
                  | (rw [w64 (x := 0 - ((s[i].toNat - 48 : Nat) : Int)) (by omega) (by omega), wrap_step]; congr 3; rw [hsg]; omega)
              · simp (config := { decide := true }) only [go_sem, Nat.reduceBEq, reduceIte]
                rw [w64 (by omega) (by omega)]; rfl
        · have h20' : ¬ (s.length : Int) ≤ 20 := by omega
          simp (config := { decide := true }) only [go_sem, Int.reduceToNat, Nat.reduceAdd, Nat.reduceSub, Nat.reduceMul, Nat.reduceBEq, reduceIte, reduceCtorEq, h0, h4, h5, h6, hlt', h20']
          refine callX_fn 3 (refText (IntKind.i64.wrap (sgnOf s * (dval 0 ((s.take i).drop (sgnAt s)) : Int))) (wrap_in _)) (by simp only [go_sem]) rfl ?_
          simp (config := { decide := true }) only [go_sem, Int.reduceToNat, Nat.reduceAdd, Nat.reduceSub, Nat.reduceMul, Nat.reduceBEq, reduceIte, reduceCtorEq, h0, h5]
          obtain ⟨k1, k2⟩ := numB_end (s := s) (w := IntKind.i64.wrap (sgnOf s * (dval 0 ((s.take i).drop (sgnAt s)) : Int))) (fun h => absurd h h20) (wrap_in _)
          exact ⟨fun h => by rw [k2 h], fun h => by rw [k1 h]⟩
      · have hlt' : ¬ (i : Int) < (s.length : Int) := by omega
        have hil : i = s.length := by omega
        simp (config := { decide := true }) only [go_sem, Int.reduceToNat, Nat.reduceAdd, Nat.reduceSub, Nat.reduceMul, Nat.reduceBEq, reduceIte, reduceCtorEq, h0, h4, h5, h6, hlt']
        refine callX_fn 3 (refText (IntKind.i64.wrap (sgnOf s * (dval 0 ((s.take i).drop (sgnAt s)) : Int))) (wrap_in _)) (by simp only [go_sem]) rfl ?_
        simp (config := { decide := true }) only [go_sem, Int.reduceToNat, Nat.reduceAdd, Nat.reduceSub, Nat.reduceMul, Nat.reduceBEq, reduceIte, reduceCtorEq, h0, h5]
        obtain ⟨k1, k2⟩ := numB_end (s := s) (w := IntKind.i64.wrap (sgnOf s * (dval 0 ((s.take i).drop (sgnAt s)) : Int))) (fun h => by rw [hil, List.take_length]) (wrap_in _)
        exact ⟨fun h => by rw [k2 h], fun h => by rw [k1 h]⟩
end Go.Proofs.YtokigghopmopbaaGreatDoor
namespace Go.Proofs.YtokigghopmopbaaGreatDoor
open Go.RowKit
set_option maxRecDepth 8000
theorem shape_in {x : UInt8} {r : List UInt8} (hF : (x = 45 ∧ ∃ c r', r = c :: r' ∧ c ≠ 48) ∨ (isDig x = true ∧ x ≠ 48)) : shapeB (x :: r) = r.all isDig := by
  rcases hF with ⟨rfl, c, r', rfl, hc⟩ | ⟨h1, h2⟩
  · rw [shapeB_neg]; simp [hc]
  · have hx : (x :: r).head? ≠ some 45 := by
      intro h
      simp only [List.head?_cons, Option.some.injEq] at h
      subst h
      simp [isDig] at h1
    rw [shapeB_pos hx]
    simp [canonB, h1, h2]
theorem RowsLen_bytes {l : List UInt8} : RowsLen (l.map byteRow) 1 = True := by
  simp only [RowsLen, List.mem_map, eq_iff_iff, iff_true]
  rintro r ⟨b, _, rfl⟩; rfl
theorem byte_48 {b : UInt8} : ((b.toNat : Int) = 48) = (b = 48) := by
  have : ((48 : UInt8).toNat : Int) = 48 := rfl
  rw [← this, byteEq]
theorem numShape (s : List UInt8) (hs : s.length ≤ 1000000) : HFn Tryz.prog 40 [.v (str s)] (.v (.bool (shapeB s))) := by
  refine HCalls_body (fn := Tryz.f40) 48 [2] (by kernel_rfl) rfl (by kernel_rfl) (HW.run 400 (by kernel_rfl) ?_)
  simp (config := { decide := true }) only [go_sem, Int.reduceToNat, Nat.reduceAdd, Nat.reduceSub, Nat.reduceMul, Nat.reduceBEq, reduceIte, reduceCtorEq]
  refine ⟨by omega, ?_⟩
  refine HW.loopG (fun μ T H => ∃ (i : Nat), μ = s.length - i ∧ i ≤ s.length ∧ (1 ≤ i → ∃ x r, s = x :: r ∧ ((x = 45 ∧ ∃ c r', r = c :: r' ∧ c ≠ 48) ∨ (isDig x = true ∧ x ≠ 48)) ∧ (r.take (i - 1)).all isDig = true) ∧
    T 0 = .v (str s) ∧ T 6 = .sl (s.map byteRow) ∧ T 7 = .v (.int .i64 s.length) ∧ T 8 = .v (.int .i64 i) ∧ H = []) s.length
    ⟨_, _, Ghost.refl, 0, rfl, by omega, by omega, rfl, rfl, ?_, rfl, rfl⟩ ?_
  · simp (config := { decide := true }) only [go_sem, Nat.reduceBEq, reduceIte, List.length_map]
  rintro μ T H ⟨i, rfl, hi, hI, h0, h6, h7, h8, rfl⟩
  refine HW.run 400 (by kernel_rfl) ?_
  by_cases hlt : i < s.length
  · have hlt' : (i : Int) < (s.length : Int) := by omega
    have hx : s[i]? = some s[i] := List.getElem?_eq_getElem hlt
    have hxm : (s.map byteRow)[i]? = some [.v (.int .u8 (s[i].toNat : Int))] := by rw [List.getElem?_map, hx]; rfl
    have next : ∀ T' : Nat → HV, T' 0 = .v (str s) → T' 6 = .sl (s.map byteRow) → T' 7 = .v (.int .i64 s.length) → T' 8 = .v (.int .i64 (IntKind.i64.wrap ((i : Int) + 1))) →
        (∃ x r, s = x :: r ∧ ((x = 45 ∧ ∃ c r', r = c :: r' ∧ c ≠ 48) ∨ (isDig x = true ∧ x ≠ 48)) ∧ (r.take i).all isDig = true) →
        GQ 48 0 (fun T' H' => ∃ k', k' < s.length - i ∧ ∃ i, k' = s.length - i ∧ i ≤ s.length ∧ (1 ≤ i → ∃ x r, s = x :: r ∧ ((x = 45 ∧ ∃ c r', r = c :: r' ∧ c ≠ 48) ∨ (isDig x = true ∧ x ≠ 48)) ∧ (r.take (i - 1)).all isDig = true) ∧
          T' 0 = .v (str s) ∧ T' 6 = .sl (s.map byteRow) ∧ T' 7 = .v (.int .i64 s.length) ∧ T' 8 = .v (.int .i64 i) ∧ H' = []) T' [] := by
      intro T' g0 g6 g7 g8 hJ
      refine ⟨_, _, Ghost.refl, s.length - (i + 1), by omega, i + 1, rfl, by omega, fun _ => by simpa using hJ, g0, g6, g7, ?_, rfl⟩
      rw [g8, w64 (by omega) (by omega)]; rfl
    rcases Nat.eq_zero_or_pos i with hi0 | hi1
    ·
      subst hi0
      obtain ⟨x, r, he⟩ : ∃ x r, s = x :: r := by
        cases s with
        | nil => simp at hlt
        | cons x r => exact ⟨x, r, rfl⟩
      have ex : s[0] = x := by simp [he]
      rw [ex] at hxm hx
      have c0 : ((0 : Nat) : Int) = 0 := rfl
      have hlt0 : (0 : Int) < (s.length : Int) := hlt'
      by_cases h45 : x = 45
      · have b45 : ((x.toNat : Int) = 45) = True := by rw [byte_45]; simp [h45]
        have b48 : ((x.toNat : Int) = 48) = False := by rw [byte_48, h45]; simp
        have bge : ((48 : Int) ≤ (x.toNat : Int)) = False := by rw [h45]; simp
        cases hr : r with
        | nil =>
          have hl1 : ((1 : Int) < (s.length : Int)) = False := by rw [he, hr]; simp
          simp (config := { decide := true }) only [go_sem, Int.reduceToNat, Nat.reduceAdd, Nat.reduceSub, Nat.reduceMul, Nat.reduceBEq, reduceIte, reduceCtorEq, h0, h6, h7, h8, hlt0, hxm, hx, c0, b45, b48, bge, hl1, RowsLen_bytes, List.length_map]
          rw [he, hr, h45]; rfl
        | cons c r' =>
          have hl1 : ((1 : Int) < (s.length : Int)) = True := by rw [he, hr]; simp; omega
          have h1x : s[1]? = some c := by rw [he, hr]; rfl
          by_cases hc : c = 48
          · have d48 : ((c.toNat : Int) = 48) = True := by rw [byte_48]; simp [hc]
            simp (config := { decide := true }) only [go_sem, Int.reduceToNat, Nat.reduceAdd, Nat.reduceSub, Nat.reduceMul, Nat.reduceBEq, reduceIte, reduceCtorEq, h0, h6, h7, h8, hlt0, hxm, hx, c0, b45, b48, bge, hl1, h1x, d48, RowsLen_bytes, List.length_map]
            rw [he, hr, h45, hc]; rfl
          · have d48 : ((c.toNat : Int) = 48) = False := by rw [byte_48]; simp [hc]
            simp (config := { decide := true }) only [go_sem, Int.reduceToNat, Nat.reduceAdd, Nat.reduceSub, Nat.reduceMul, Nat.reduceBEq, reduceIte, reduceCtorEq, h0, h6, h7, h8, hlt0, hxm, hx, c0, b45, b48, bge, hl1, h1x, d48, RowsLen_bytes, List.length_map]
            refine next _ ?_ ?_ ?_ ?_ ⟨x, r, he, .inl ⟨h45, c, r', hr, hc⟩, by simp⟩
            all_goals simp (config := { decide := true }) only [go_sem, Nat.reduceBEq, reduceIte, h0, h6, h7, c0]
      · have b45 : ((x.toNat : Int) = 45) = False := by rw [byte_45]; simp [h45]
        by_cases h48 : x = 48
        · have b48 : ((x.toNat : Int) = 48) = True := by rw [byte_48]; simp [h48]
          simp (config := { decide := true }) only [go_sem, Int.reduceToNat, Nat.reduceAdd, Nat.reduceSub, Nat.reduceMul, Nat.reduceBEq, reduceIte, reduceCtorEq, h0, h6, h7, h8, hlt0, hxm, hx, c0, b45, b48, RowsLen_bytes, List.length_map]
          have : shapeB s = decide ((s.length : Int) = 1) := by
            rw [he, h48]
            cases r with
            | nil => rfl
            | cons c r' =>
              rw [shapeB_pos (by simp)]
              simp [canonB]
              intro _; omega
          rw [this]
        · have b48 : ((x.toNat : Int) = 48) = False := by rw [byte_48]; simp [h48]
          by_cases hdg : isDig x = true
          · have hdg' := hdg
            simp only [isDig, Bool.and_eq_true, decide_eq_true_eq] at hdg'
            have bge : ((48 : Int) ≤ (x.toNat : Int)) = True := by simp only [eq_iff_iff, iff_true]; omega
            have ble : ((x.toNat : Int) ≤ 57) = True := by simp only [eq_iff_iff, iff_true]; omega
            simp (config := { decide := true }) only [go_sem, Int.reduceToNat, Nat.reduceAdd, Nat.reduceSub, Nat.reduceMul, Nat.reduceBEq, reduceIte, reduceCtorEq, h0, h6, h7, h8, hlt0, hxm, hx, c0, b45, b48, bge, ble, RowsLen_bytes, List.length_map]
            refine next _ ?_ ?_ ?_ ?_ ⟨x, r, he, .inr ⟨hdg, h48⟩, by simp⟩
            all_goals simp (config := { decide := true }) only [go_sem, Nat.reduceBEq, reduceIte, h0, h6, h7, c0]
          · have hdg' : ¬ (48 ≤ x.toNat ∧ x.toNat ≤ 57) := by simpa [isDig] using hdg
            have hfin : shapeB s = false := by
              rw [he, shapeB_pos (by simpa using h45)]
              simp [canonB, hdg]
            by_cases hge : 48 ≤ x.toNat
            · have bge : ((48 : Int) ≤ (x.toNat : Int)) = True := by simp only [eq_iff_iff, iff_true]; omega
              have ble : ((x.toNat : Int) ≤ 57) = False := by simp only [eq_iff_iff, iff_false]; omega
              simp (config := { decide := true }) only [go_sem, Int.reduceToNat, Nat.reduceAdd, Nat.reduceSub, Nat.reduceMul, Nat.reduceBEq, reduceIte, reduceCtorEq, h0, h6, h7, h8, hlt0, hxm, hx, c0, b45, b48, bge, ble, RowsLen_bytes, List.length_map]
              rw [hfin]
            · have bge : ((48 : Int) ≤ (x.toNat : Int)) = False := by simp only [eq_iff_iff, iff_false]; omega
              simp (config := { decide := true }) only [go_sem, Int.reduceToNat, Nat.reduceAdd, Nat.reduceSub, Nat.reduceMul, Nat.reduceBEq, reduceIte, reduceCtorEq, h0, h6, h7, h8, hlt0, hxm, hx, c0, b45, b48, bge, RowsLen_bytes, List.length_map]
              rw [hfin]
    ·
      obtain ⟨x, r, he, hF, hr⟩ := hI hi1
      have c0 : ((i : Int) = 0) = False := by simp only [eq_iff_iff, iff_false]; omega
      have hri : r[i - 1]? = some s[i] := by
        have : s[i]? = r[i - 1]? := by
          rw [he]
          obtain ⟨j, rfl⟩ : ∃ j, i = j + 1 := ⟨i - 1, by omega⟩
          simp
        rw [← this]; exact hx
      by_cases hdg : isDig s[i] = true
      · have hdg' := hdg
        simp only [isDig, Bool.and_eq_true, decide_eq_true_eq] at hdg'
        have bge : ((48 : Int) ≤ (s[i].toNat : Int)) = True := by simp only [eq_iff_iff, iff_true]; omega
        have ble : ((s[i].toNat : Int) ≤ 57) = True := by simp only [eq_iff_iff, iff_true]; omega
        have b45 : ((s[i].toNat : Int) = 45) = False := by simp only [eq_iff_iff, iff_false]; omega
        have hJ : (r.take i).all isDig = true := by
          rw [show i = (i - 1) + 1 by omega, List.take_add_one, List.all_append, hr, hri]
          simp [hdg]
        by_cases h48 : s[i] = 48
        · have b48 : ((s[i].toNat : Int) = 48) = True := by rw [byte_48]; simp [h48]
          simp (config := { decide := true }) only [go_sem, Int.reduceToNat, Nat.reduceAdd, Nat.reduceSub, Nat.reduceMul, Nat.reduceBEq, reduceIte, reduceCtorEq, h0, h6, h7, h8, hlt', hxm, hx, c0, b45, b48, bge, ble, RowsLen_bytes, List.length_map]
          refine next _ ?_ ?_ ?_ ?_ ⟨x, r, he, hF, hJ⟩
          all_goals simp (config := { decide := true }) only [go_sem, Nat.reduceBEq, reduceIte, h0, h6, h7]
        · have b48 : ((s[i].toNat : Int) = 48) = False := by rw [byte_48]; simp [h48]
          simp (config := { decide := true }) only [go_sem, Int.reduceToNat, Nat.reduceAdd, Nat.reduceSub, Nat.reduceMul, Nat.reduceBEq, reduceIte, reduceCtorEq, h0, h6, h7, h8, hlt', hxm, hx, c0, b45, b48, bge, ble, RowsLen_bytes, List.length_map]
          refine next _ ?_ ?_ ?_ ?_ ⟨x, r, he, hF, hJ⟩
          all_goals simp (config := { decide := true }) only [go_sem, Nat.reduceBEq, reduceIte, h0, h6, h7]
      · have hdg' : ¬ (48 ≤ s[i].toNat ∧ s[i].toNat ≤ 57) := by simpa [isDig] using hdg
        have b48 : ((s[i].toNat : Int) = 48) = False := by simp only [eq_iff_iff, iff_false]; omega
        have hfin : shapeB s = false := by
          rw [he, shape_in hF]
          cases hall : r.all isDig with
          | false => rfl
          | true => exact absurd (List.all_eq_true.1 hall _ (List.mem_of_getElem? hri)) hdg
        by_cases h45 : s[i] = 45
        · have b45 : ((s[i].toNat : Int) = 45) = True := by rw [byte_45]; simp [h45]
          have bge : ((48 : Int) ≤ (s[i].toNat : Int)) = False := by rw [h45]; simp
          simp (config := { decide := true }) only [go_sem, Int.reduceToNat, Nat.reduceAdd, Nat.reduceSub, Nat.reduceMul, Nat.reduceBEq, reduceIte, reduceCtorEq, h0, h6, h7, h8, hlt', hxm, hx, c0, b45, b48, bge, RowsLen_bytes, List.length_map]
          rw [hfin]
        · have b45 : ((s[i].toNat : Int) = 45) = False := by rw [byte_45]; simp [h45]
          by_cases hge : 48 ≤ s[i].toNat
          · have bge : ((48 : Int) ≤ (s[i].toNat : Int)) = True := by simp only [eq_iff_iff, iff_true]; omega
            have ble : ((s[i].toNat : Int) ≤ 57) = False := by simp only [eq_iff_iff, iff_false]; omega
            simp (config := { decide := true }) only [go_sem, Int.reduceToNat, Nat.reduceAdd, Nat.reduceSub, Nat.reduceMul, Nat.reduceBEq, reduceIte, reduceCtorEq, h0, h6, h7, h8, hlt', hxm, hx, c0, b45, b48, bge, ble, RowsLen_bytes, List.length_map]
            rw [hfin]
          · have bge : ((48 : Int) ≤ (s[i].toNat : Int)) = False := by simp only [eq_iff_iff, iff_false]; omega
            simp (config := { decide := true }) only [go_sem, Int.reduceToNat, Nat.reduceAdd, Nat.reduceSub, Nat.reduceMul, Nat.reduceBEq, reduceIte, reduceCtorEq, h0, h6, h7, h8, hlt', hxm, hx, c0, b45, b48, bge, RowsLen_bytes, List.length_map]
            rw [hfin]
  · have hlt' : ¬ (i : Int) < (s.length : Int) := by omega
    have hil : i = s.length := by omega
    cases hs0 : s with
    | nil =>
      have hne : (s = []) = True := by rw [hs0]; simp
      rw [← hs0]
      simp (config := { decide := true }) only [go_sem, Int.reduceToNat, Nat.reduceAdd, Nat.reduceSub, Nat.reduceMul, Nat.reduceBEq, reduceIte, reduceCtorEq, h0, h6, h7, h8, hlt', hne]
      rw [hs0]; rfl
    | cons y r0 =>
      obtain ⟨x, r, he, hF, hr⟩ := hI (by rw [hil, hs0]; simp)
      have hne : (s = []) = False := by rw [hs0]; simp
      rw [← hs0]
      simp (config := { decide := true }) only [go_sem, Int.reduceToNat, Nat.reduceAdd, Nat.reduceSub, Nat.reduceMul, Nat.reduceBEq, reduceIte, reduceCtorEq, h0, h6, h7, h8, hlt', hne]
      rw [he, shape_in hF]
      rw [hil, he, List.length_cons, Nat.add_sub_cancel, List.take_length] at hr
      rw [hr]
end Go.Proofs.YtokigghopmopbaaGreatDoor
namespace Go.Proofs.YtokigghopmopbaaGreatDoor
open Go.Shelf
set_option maxRecDepth 100000
def laysAtoi_ren : Go.Shelf.Ren := ⟨fun | 172 => 39 | 244 => 48 | 245 => 49 | 247 => 53 | 279 => 54 | 280 => 55 | 281 => 56 | 282 => 57 | 287 => 61 | 316 => 62 | 171 => 64 | 205 => 63 | 321 => 69 | 322 => 70 | 243 => 71 | 246 => 74 | 283 => 75 | 284 => 76 | 285 => 77 | 286 => 78 | 129 => 80 | 317 => 79 | 318 => 81 | 319 => 82 | 320 => 83 | 337 => 84 | 338 => 85 | n => n, fun | 9 => 9 | 3 => 3 | 75 => 43 | 76 => 72 | 4 => 4 | 5 => 5 | 167 => 103 | 37 => 76 | 0 => 0 | 85 => 104 | 2 => 2 | 168 => 106 | 53 => 113 | 175 => 114 | 46 => 116 | 210 => 119 | 127 => 102 | 145 => 126 | 143 => 124 | 21 => 21 | 171 => 131 | 173 => 134 | 212 => 137 | 51 => 127 | 20 => 20 | 213 => 138 | 232 => 142 | 233 => 143 | 80 => 80 | n => n, fun | 15 => 2 | 16 => 3 | 17 => 5 | 18 => 6 | 19 => 7 | n => n⟩
theorem laysAtoi : Go.Proofs.LaysC.n172 Tryz.prog laysAtoi_ren where
  mixed := by kernel_rfl
  f129 := Tryz.func80.trans (congrArg some (by kernel_rfl))
  f171 := Tryz.func64.trans (congrArg some (by kernel_rfl))
  f172 := Tryz.func39.trans (congrArg some (by kernel_rfl))
  f205 := Tryz.func63.trans (congrArg some (by kernel_rfl))
  f243 := Tryz.func71.trans (congrArg some (by kernel_rfl))
  f244 := Tryz.func48.trans (congrArg some (by kernel_rfl))
  f245 := Tryz.func49.trans (congrArg some (by kernel_rfl))
  f246 := Tryz.func74.trans (congrArg some (by kernel_rfl))
  f247 := Tryz.func53.trans (congrArg some (by kernel_rfl))
  f279 := Tryz.func54.trans (congrArg some (by kernel_rfl))
  f280 := Tryz.func55.trans (congrArg some (by kernel_rfl))
  f281 := Tryz.func56.trans (congrArg some (by kernel_rfl))
  f282 := Tryz.func57.trans (congrArg some (by kernel_rfl))
  f283 := Tryz.func75.trans (congrArg some (by kernel_rfl))
  f284 := Tryz.func76.trans (congrArg some (by kernel_rfl))
  f285 := Tryz.func77.trans (congrArg some (by kernel_rfl))
  f286 := Tryz.func78.trans (congrArg some (by kernel_rfl))
  f287 := Tryz.func61.trans (congrArg some (by kernel_rfl))
  f316 := Tryz.func62.trans (congrArg some (by kernel_rfl))
  f317 := Tryz.func79.trans (congrArg some (by kernel_rfl))
  f318 := Tryz.func81.trans (congrArg some (by kernel_rfl))
  f319 := Tryz.func82.trans (congrArg some (by kernel_rfl))
  f320 := Tryz.func83.trans (congrArg some (by kernel_rfl))
  f321 := Tryz.func69.trans (congrArg some (by kernel_rfl))
  f322 := Tryz.func70.trans (congrArg some (by kernel_rfl))
  f337 := Tryz.func84.trans (congrArg some (by kernel_rfl))
  f338 := Tryz.func85.trans (congrArg some (by kernel_rfl))
  t0 := Tryz.underlying0
  a0 := Tryz.isAgg0
  z0 := Tryz.sizeOf0
  v0 := Tryz.zeroValue0
  t2 := Tryz.underlying2
  a2 := Tryz.isAgg2
  z2 := Tryz.sizeOf2
  v2 := Tryz.zeroValue2
  t3 := Tryz.underlying3
  a3 := Tryz.isAgg3
  z3 := Tryz.sizeOf3
  v3 := Tryz.zeroValue3
  t4 := Tryz.underlying4
  a4 := Tryz.isAgg4
  z4 := Tryz.sizeOf4
  v4 := Tryz.zeroValue4
  t5 := Tryz.underlying5
  a5 := Tryz.isAgg5
  z5 := Tryz.sizeOf5
  v5 := Tryz.zeroValue5
  t9 := Tryz.underlying9
  a9 := Tryz.isAgg9
  z9 := Tryz.sizeOf9
  v9 := Tryz.zeroValue9
  t20 := Tryz.underlying20
  a20 := Tryz.isAgg20
  z20 := Tryz.sizeOf20
  v20 := Tryz.zeroValue20
  t21 := Tryz.underlying21
  a21 := Tryz.isAgg21
  z21 := Tryz.sizeOf21
  v21 := Tryz.zeroValue21
  t37 := Tryz.underlying76
  a37 := Tryz.isAgg76
  z37 := Tryz.sizeOf76
  v37 := Tryz.zeroValue76
  t46 := Tryz.underlying116
  a46 := Tryz.isAgg116
  z46 := Tryz.sizeOf116
  v46 := Tryz.zeroValue116
  t51 := Tryz.underlying127
  a51 := Tryz.isAgg127
  z51 := Tryz.sizeOf127
  v51 := Tryz.zeroValue127
  t53 := Tryz.underlying113
  a53 := Tryz.isAgg113
  z53 := Tryz.sizeOf113
  v53 := Tryz.zeroValue113
  t75 := Tryz.underlying43
  a75 := Tryz.isAgg43
  z75 := Tryz.sizeOf43
  v75 := Tryz.zeroValue43
  t76 := Tryz.underlying72
  a76 := Tryz.isAgg72
  z76 := Tryz.sizeOf72
  v76 := Tryz.zeroValue72
  t85 := Tryz.underlying104
  a85 := Tryz.isAgg104
  z85 := Tryz.sizeOf104
  v85 := Tryz.zeroValue104
  t127 := Tryz.underlying102
  a127 := Tryz.isAgg102
  z127 := Tryz.sizeOf102
  v127 := Tryz.zeroValue102
  t143 := Tryz.underlying124
  a143 := Tryz.isAgg124
  z143 := Tryz.sizeOf124
  v143 := Tryz.zeroValue124
  t145 := Tryz.underlying126
  a145 := Tryz.isAgg126
  z145 := Tryz.sizeOf126
  v145 := Tryz.zeroValue126
  t167 := Tryz.underlying103
  a167 := Tryz.isAgg103
  z167 := Tryz.sizeOf103
  v167 := Tryz.zeroValue103
  t168 := Tryz.underlying106
  a168 := Tryz.isAgg106
  z168 := Tryz.sizeOf106
  v168 := Tryz.zeroValue106
  t171 := Tryz.underlying131
  a171 := Tryz.isAgg131
  z171 := Tryz.sizeOf131
  v171 := Tryz.zeroValue131
  t173 := Tryz.underlying134
  a173 := Tryz.isAgg134
  z173 := Tryz.sizeOf134
  v173 := Tryz.zeroValue134
  t175 := Tryz.underlying114
  a175 := Tryz.isAgg114
  z175 := Tryz.sizeOf114
  v175 := Tryz.zeroValue114
  t210 := Tryz.underlying119
  a210 := Tryz.isAgg119
  z210 := Tryz.sizeOf119
  v210 := Tryz.zeroValue119
  t212 := Tryz.underlying137
  a212 := Tryz.isAgg137
  z212 := Tryz.sizeOf137
  v212 := Tryz.zeroValue137
  t213 := Tryz.underlying138
  a213 := Tryz.isAgg138
  z213 := Tryz.sizeOf138
  t232 := Tryz.underlying142
  a232 := Tryz.isAgg142
  z232 := Tryz.sizeOf142
  v232 := Tryz.zeroValue142
  t233 := Tryz.underlying143
  a233 := Tryz.isAgg143
  z233 := Tryz.sizeOf143
  v233 := Tryz.zeroValue143
  g15 := by kernel_rfl
  g16 := by kernel_rfl
  g17 := by kernel_rfl
  g18 := by kernel_rfl
  g19 := by kernel_rfl
  t80 := Tryz.underlying80
  a80 := Tryz.isAgg80
  z80 := Tryz.sizeOf80
  v80 := Tryz.zeroValue80
  i0 := by kernel_rfl
  i2 := by kernel_rfl
  i3 := by kernel_rfl
  i4 := by kernel_rfl
  i5 := by kernel_rfl
  i9 := by kernel_rfl
  i20 := by kernel_rfl
  i21 := by kernel_rfl
  i37 := by kernel_rfl
  i46 := by kernel_rfl
  i51 := by kernel_rfl
  i53 := by kernel_rfl
  i75 := by kernel_rfl
  i76 := by kernel_rfl
  i80 := by kernel_rfl
  i85 := by kernel_rfl
  i127 := by kernel_rfl
  i143 := by kernel_rfl
  i145 := by kernel_rfl
  i167 := by kernel_rfl
  i168 := by kernel_rfl
  i171 := by kernel_rfl
  i173 := by kernel_rfl
  i175 := by kernel_rfl
  i210 := by kernel_rfl
  i212 := by kernel_rfl
  i232 := by kernel_rfl
  i233 := by kernel_rfl
  m15 := by kernel_rfl
  m16 := by kernel_rfl
  m17 := by kernel_rfl
  m18 := by kernel_rfl
  m19 := by kernel_rfl
  c0 := by kernel_rfl
  c2 := by kernel_rfl
  c3 := by kernel_rfl
  c4 := by kernel_rfl
  c5 := by kernel_rfl
  c9 := by kernel_rfl
  c20 := by kernel_rfl
  c21 := by kernel_rfl
  c37 := by kernel_rfl
  c46 := by kernel_rfl
  c51 := by kernel_rfl
  c53 := by kernel_rfl
  c75 := by kernel_rfl
  c76 := by kernel_rfl
  c80 := by kernel_rfl
  c85 := by kernel_rfl
  c127 := by kernel_rfl
  c143 := by kernel_rfl
  c145 := by kernel_rfl
  c167 := by kernel_rfl
  c168 := by kernel_rfl
  c171 := by kernel_rfl
  c173 := by kernel_rfl
  c175 := by kernel_rfl
  c210 := by kernel_rfl
  c212 := by kernel_rfl
  c213 := by kernel_rfl
  c232 := by kernel_rfl
  c233 := by kernel_rfl
end Go.Proofs.YtokigghopmopbaaGreatDoor
namespace Go.Proofs.YtokigghopmopbaaGreatDoor
open Go.RowKit Go.Shelf
set_option maxRecDepth 8000
def tErr : TypeId := laysAtoi_ren.t 168
theorem Evo_below {Z : Nat → Prop} {FP : Nat → List Nat} {w w' : World} (h : Below w.heap.size w w') : Evo Z FP w Z FP w' :=
  ⟨h.os, h.tape, h.output, h.size, fun b hb _ => h.block b hb, fun _ h => h, fun _ h => .inl h, fun id b hb => .inr ⟨id, hb⟩⟩
theorem RV_pair {Z : Nat → Prop} {G : List (Option OG)} {w : World} {a b : HV} {x y : Value} (h1 : RV Z G w a x []) (h2 : RV Z G w b y []) : RV Z G w (.tu [a, b]) (.tuple #[x, y]) [] := by
  simp only [RV, RL]
  exact ⟨_, rfl, x, [y], [], [], rfl, rfl, h1, y, [], [], [], rfl, rfl, h2, rfl, rfl⟩
theorem RV_val {Z : Nat → Prop} {G : List (Option OG)} {w : World} (x : Value) : RV Z G w (.v x) x [] := by simp [RV]
theorem RV_icany {Z : Nat → Prop} {G : List (Option OG)} {w : World} (t : TypeId) (x : Value) : RV Z G w (.ic t .any) (.iface t x) [] := by
  simp only [RV]; exact ⟨trivial, x, rfl, trivial⟩
def atoiV (s : List UInt8) : HV :=
  match Lib.atoiAll s with
  | .ok v => .tu [.v (.int .i64 v), .v .nilIface]
  | Lib.NumEnd.syntax => .tu [.v (.int .i64 0), .ic tErr .any]
  | .range => .tu [.v (.int .i64 (Lib.atoiSat s)), .ic tErr .any]
theorem strconvAtoi (s : List UInt8) (hs : s.length ≤ 1000000) : HFn Tryz.prog 39 [.v (str s)] (atoiV s) := by
  refine ⟨enters (fn := Tryz.f39) (by kernel_rfl) rfl rfl, fun Z G FP w vals hi ha => ?_⟩
  simp only [RL, RV] at ha
  obtain ⟨y1, ys1, f1, f2, rfl, hf, ⟨_, rfl⟩, rfl, _⟩ := ha
  have hsz : (⟨s.toArray⟩ : ByteArray).size = s.length := by simp [ByteArray.size]
  have fin : ∀ (v : Value) (w' : World), RV Z G w' (atoiV s) v [] → Below w.heap.size w w' → Post Z G FP [] w (fun r _ => r = atoiV s) (.returned v) w' := by
    intro v w' hv hb
    exact ⟨v, _, [], Z, G, FP, [], rfl, rfl, rfl, hi.keep hb.size (fun b hb' => hb.block b (by
      rcases hb' with h | ⟨id, h⟩
      · exact hi.zlt b h
      · exact hi.flt id b h)), hv, by simp, by simp, by simp, GLe.refl _, Evo_below hb⟩
  cases h : Lib.atoiAll s with
  | ok v =>
    refine Calls.mono (Any.strconv_Atoi_ok laysAtoi ⟨s.toArray⟩ (by omega) v h w) ?_
    rintro e w' ⟨rfl, hw⟩
    refine fin _ w' ?_ ?_
    · unfold atoiV; rw [h]; exact RV_pair (RV_val _) (RV_val _)
    · rcases hw with rfl | ⟨t, rfl⟩
      · exact Below.refl _ _
      · exact Lib.bytesWorld_below _ _ _
  | range =>
    obtain ⟨_, ev, hv, hev⟩ := hi.glob.ifc 3 (by decide)
    refine Calls.mono (Any.strconv_Atoi_range laysAtoi ⟨s.toArray⟩ (by omega) h ev w hv hev) ?_
    rintro e w' ⟨N, rfl, _, _, hb⟩
    refine fin _ w' ?_ hb
    unfold atoiV; rw [h]; exact RV_pair (RV_val _) (RV_icany _ _)
  | _ =>
    obtain ⟨_, ev, hv, hev⟩ := hi.glob.ifc 2 (by decide)
    refine Calls.mono (Any.strconv_Atoi_syntax laysAtoi ⟨s.toArray⟩ (by omega) h ev w hv hev) ?_
    rintro e w' ⟨N, rfl, _, _, hb⟩
    refine fin _ w' ?_ hb
    unfold atoiV; rw [h]; exact RV_pair (RV_val _) (RV_icany _ _)
theorem numGet (s : List UInt8) (hs : s.length ≤ 1000000) : HFn Tryz.prog 25 [.v (str s)] (.tu [.v (.int .i64 (numB s).1), .v (.bool (numB s).2)]) := by
  have hn := atoi_num s
  have ha := strconvAtoi s hs
  unfold atoiV at ha
  refine HCalls_body (fn := Tryz.f25) 19 [2, 3] (by kernel_rfl) rfl (by kernel_rfl) (HW.run 400 (by kernel_rfl) ?_)
  simp (config := { decide := true }) only [go_sem, Int.reduceToNat, Nat.reduceAdd, Nat.reduceSub, Nat.reduceMul, Nat.reduceBEq, reduceIte, reduceCtorEq]
  cases h : Lib.atoiAll s with
  | ok v =>
    rw [h] at hn ha
    refine callX_fn 3 (ha) (by simp only [go_sem]) rfl ?_
    simp (config := { decide := true }) only [go_sem, Int.reduceToNat, Nat.reduceAdd, Nat.reduceSub, Nat.reduceMul, Nat.reduceBEq, reduceIte, reduceCtorEq]
    refine callX_fn 3 (numShape s hs) (by simp only [go_sem]) rfl ?_
    simp only [numOf] at hn
    cases hsh : shapeB s with
    | true =>
      simp (config := { decide := true }) only [go_sem, Int.reduceToNat, Nat.reduceAdd, Nat.reduceSub, Nat.reduceMul, Nat.reduceBEq, reduceIte, reduceCtorEq]
      rw [hn, hsh]; rfl
    | false =>
      simp (config := { decide := true }) only [go_sem, Int.reduceToNat, Nat.reduceAdd, Nat.reduceSub, Nat.reduceMul, Nat.reduceBEq, reduceIte, reduceCtorEq]
      rw [hn, hsh]; rfl
  | range =>
    rw [h] at hn ha
    refine callX_fn 3 (ha) (by simp only [go_sem]) rfl ?_
    simp (config := { decide := true }) only [go_sem, Int.reduceToNat, Nat.reduceAdd, Nat.reduceSub, Nat.reduceMul, Nat.reduceBEq, reduceIte, reduceCtorEq]
    rw [hn]; rfl
  | _ =>
    rw [h] at hn ha
    refine callX_fn 3 (ha) (by simp only [go_sem]) rfl ?_
    simp (config := { decide := true }) only [go_sem, Int.reduceToNat, Nat.reduceAdd, Nat.reduceSub, Nat.reduceMul, Nat.reduceBEq, reduceIte, reduceCtorEq]
    rw [hn]; rfl
end Go.Proofs.YtokigghopmopbaaGreatDoor
namespace Go.Proofs.YtokigghopmopbaaGreatDoor
open Go.RowKit
set_option maxRecDepth 8000
end Go.Proofs.YtokigghopmopbaaGreatDoor
namespace Go.Proofs.YtokigghopmopbaaGreatDoor
open Go.RowKit
set_option maxRecDepth 8000
def rb (r lo la nn a b c d e f g : Bool) : Bool := (a || !r && b) && (r || b) && (c || !lo && d) && (lo || d) && (e || !la && f) && (la || f) && (nn || g)
end Go.Proofs.YtokigghopmopbaaGreatDoor
namespace Go.Proofs.YtokigghopmopbaaGreatDoor
open Go.RowKit
set_option maxRecDepth 8000
end Go.Proofs.YtokigghopmopbaaGreatDoor
namespace Go.Proofs.YtokigghopmopbaaGreatDoor
open Go.RowKit
set_option maxRecDepth 8000
end Go.Proofs.YtokigghopmopbaaGreatDoor
namespace Go.Proofs.YtokigghopmopbaaGreatDoor
open Go.RowKit
set_option maxRecDepth 8000
end Go.Proofs.YtokigghopmopbaaGreatDoor
namespace Go.Proofs.YtokigghopmopbaaGreatDoor
open Go.RowKit
set_option maxRecDepth 8000
theorem cutB_snoc (c : UInt8) (t : List UInt8) : ∀ s : List UInt8, cutB c (s ++ c :: t) = cutB c s ++ cutB c t
  | [] => by simp [cutB]
  | b :: s => by
    have ih := cutB_snoc c t s
    simp only [List.cons_append, cutB]
    split
    · rw [ih]; rfl
    · rw [ih]
      have hne := cutB_ne c s
      cases hc : cutB c s with
      | nil => exact absurd hc hne
      | cons w r => rfl
theorem wordsB_parts (s t : List UInt8) : wordsB (s ++ [32] ++ t) = wordsB s ++ wordsB t := by
  unfold wordsB
  rw [List.append_assoc, List.singleton_append, cutB_snoc 32 t s, List.filter_append]
theorem wordsB_length (s : List UInt8) : (wordsB s).length ≤ s.length + 1 := Nat.le_trans (List.length_filter_le _ _) (cutB_length 32 s)
end Go.Proofs.YtokigghopmopbaaGreatDoor
namespace Go.Proofs.YtokigghopmopbaaGreatDoor
open Go.RowKit
set_option maxRecDepth 8000
def keyS (s : Sta) : List UInt8 := Lib.join ((numsB s).map textB) [32]
def FitS (s : Sta) : Prop := ∀ n ∈ numsB s, inI n
theorem join_len {l : List (List UInt8)} (sep : List UInt8) (k : Nat) (h : ∀ x ∈ l, x.length ≤ k) : (Lib.join l sep).length ≤ (k + sep.length) * l.length := by
  cases l with
  | nil => simp [Lib.join_nil]
  | cons x r =>
    rw [Lib.join_cons, List.length_append, Lib.joinTail_length]
    have h1 : Lib.lens r ≤ k * r.length := by
      clear sep
      induction r with
      | nil => simp [Lib.lens]
      | cons y r ih =>
        have := h y (by simp)
        have := ih fun z hz => h z (by rcases List.mem_cons.1 hz with rfl | hz <;> simp [*])
        simp only [Lib.lens, List.map_cons, List.sum_cons, List.length_cons, Nat.mul_add] at this ⊢
        omega
    have h2 := h x (by simp)
    have h3 : (k + sep.length) * (x :: r).length = k * r.length + sep.length * r.length + (k + sep.length) := by rw [List.length_cons, Nat.mul_add, Nat.add_mul]; omega
    omega
theorem numsB_len {s : Sta} (hs : SmallS s) : (numsB s).length ≤ 1801000000 := by
  have h1 := hs.mem
  have h2 := hs.ths
  have h3 := flatT_len hs.t
  unfold numsB
  simp only [List.length_append, List.length_cons, List.length_nil]
  omega
theorem keyS_len {s : Sta} (hs : SmallS s) (hf : FitS s) : (keyS s).length ≤ 40000000000 := by
  have h1 := numsB_len hs
  have := join_len (l := (numsB s).map textB) [32] 20 (by
    intro x hx
    obtain ⟨n, hn, rfl⟩ := List.mem_map.1 hx
    exact textB_length (hf n hn))
  rw [List.length_map] at this
  unfold keyS
  simp only [List.length_cons, List.length_nil] at this
  omega
set_option maxHeartbeats 8000000 in
theorem encKey (s : Sta) (hs : SmallS s) (hf : FitS s) : HFn Tryz.prog 13 [staH s] (.v (str (keyS s))) := by
  have hk := keyS_len hs hf
  have hl := numsB_len hs
  refine HCalls_body (fn := Tryz.f13) 21 [2] (by kernel_rfl) rfl (by kernel_rfl) (HW.run 400 (by kernel_rfl) ?_)
  simp (config := { decide := true }) only [go_sem, Int.reduceToNat, Nat.reduceAdd, Nat.reduceSub, Nat.reduceMul, Nat.reduceBEq, reduceIte, reduceCtorEq]
  refine callX_nm (encNums s hs) rfl rfl ?_
  generalize hns : numsB s = ns at hl ⊢
  have hf' : ∀ n ∈ ns, inI n := hns ▸ hf
  simp (config := { decide := true }) only [go_sem, Int.reduceToNat, Nat.reduceAdd, Nat.reduceSub, Nat.reduceMul, Nat.reduceBEq, reduceIte, reduceCtorEq]
  refine HW.loopG (fun k T H => ∃ i : Nat, k = ns.length - i ∧ i ≤ ns.length ∧ T 3 = .hd 2 0 i ∧ T 7 = .hd 1 0 ns.length ∧ T 8 = .v (.int .i64 ns.length) ∧ T 9 = .v (.int .i64 i) ∧
    H = [some ⟨25, 2, [[.sl (ints s.mem), .sl (thds s.ths)]]⟩, some ⟨3, 1, ints ns⟩, some ⟨9, 1, strs ((ns.take i).map textB)⟩]) ns.length ⟨_, _, Ghost.nil 3 9 1 rfl, 0, rfl, by omega, ?_, ?_, ?_, ?_, ?_⟩ ?_
  · rfl
  · rfl
  · rfl
  · rfl
  · rfl
  rintro k T H ⟨i, rfl, hi, h3, h7, h8, h9, rfl⟩
  refine HW.run 200 (by kernel_rfl) ?_
  have hti : ((ns.take i).map textB).length = i := by rw [List.length_map, List.length_take]; omega
  by_cases hlt : i < ns.length
  · have hlt' : ((i : Int) < (ns.length : Int)) = True := by rw [int_ltE]; simp [hlt]
    have hx : ns[i]? = some ns[i] := List.getElem?_eq_getElem hlt
    have hin := hf' _ (List.getElem_mem hlt)
    have hsn : (ns.take i).map textB ++ [textB ns[i]] = (ns.take (i + 1)).map textB := by rw [List.take_add_one, hx, List.map_append]; rfl
    generalize ns[i] = n at hx hin hsn
    simp (config := { decide := true }) only [go_sem, Int.reduceToNat, Nat.reduceAdd, Nat.reduceSub, Nat.reduceMul, Nat.reduceBEq, reduceIte, reduceCtorEq, h3, h7, h8, h9, hlt', hx]
    refine callX_fn 3 (numText n hin) (by simp only [go_sem]) rfl ?_
    simp (config := { decide := true }) only [go_sem, Int.reduceToNat, Nat.reduceAdd, Nat.reduceSub, Nat.reduceMul, Nat.reduceBEq, reduceIte, reduceCtorEq, h3, h7, h8, h9, hlt', hx, hti]
    refine ⟨by omega, ?_⟩
    refine ⟨_, _, Ghost.trunc [3, 7, 8, 9] 3 (Nat.zero_le _) ?_ ?_, ns.length - (i + 1), by omega, i + 1, rfl, by omega, ?_, ?_, ?_, ?_, ?_⟩
    · simp (config := { decide := true }) only [go_sem, Nat.reduceBEq, reduceIte, h3, h7, h8]
    · simp (config := { decide := true }) only [go_sem, Nat.reduceBEq, reduceIte, nmR_append]
    · simp (config := { decide := true }) only [go_sem, Nat.reduceBEq, reduceIte]
    · simp (config := { decide := true }) only [go_sem, Nat.reduceBEq, reduceIte, h7]
    · simp (config := { decide := true }) only [go_sem, Nat.reduceBEq, reduceIte, h8]
    · simp (config := { decide := true }) only [go_sem, Nat.reduceBEq, reduceIte, h9]
      rw [w64 (by omega) (by omega)]; rfl
    · simp (config := { decide := true }) only [go_sem, Nat.reduceBEq, reduceIte]
      rw [← hsn]
      try simp [strs, srow]
  · have hlt' : ((i : Int) < (ns.length : Int)) = False := by rw [int_ltE]; simp [hlt]
    obtain rfl : i = ns.length := by omega
    simp (config := { decide := true }) only [go_sem, Int.reduceToNat, Nat.reduceAdd, Nat.reduceSub, Nat.reduceMul, Nat.reduceBEq, reduceIte, reduceCtorEq, h3, h7, h8, h9, hlt', hti, List.take_length]
    refine callX_fn 3 (stringsJoin (ns.map textB) [32] (by rw [List.length_map]; omega) (by unfold keyS at hk; rw [hns] at hk; omega)) (by simp only [go_sem, List.length_map, if_true]) rfl ?_
    simp (config := { decide := true }) only [go_sem, Int.reduceToNat, Nat.reduceAdd, Nat.reduceSub, Nat.reduceMul, Nat.reduceBEq, reduceIte, reduceCtorEq]
    unfold keyS; rw [hns]
def readS (k : List UInt8) : Sta × Bool :=
  if (∀ w ∈ wordsB k, (numB w).2 = true) ∧ Lib.join (wordsB k) [32] = k then ofF ((wordsB k).map fun w => (numB w).1) else (⟨[], []⟩, false)
theorem cutB_piece (c : UInt8) : ∀ (s w : List UInt8), w ∈ cutB c s → w.length ≤ s.length
  | [], w, h => by
    simp only [cutB, List.mem_singleton] at h
    rw [h]; exact Nat.le_refl _
  | b :: s, w, h => by
    simp only [cutB] at h
    have ih := cutB_piece c s
    split at h
    · rcases List.mem_cons.1 h with rfl | h
      · simp
      · have := ih w h; simp; omega
    · split at h
      · simp only [List.mem_singleton] at h; rw [h]; simp
      · rename_i x r e
        rw [e] at ih
        rcases List.mem_cons.1 h with rfl | h
        · have := ih x (by simp); simp; omega
        · have := ih w (by simp [h]); simp; omega
theorem cutB_lens (s : List UInt8) : ∀ w ∈ wordsB s, w.length ≤ s.length := by
  intro w hw
  unfold wordsB at hw
  exact cutB_piece 32 s w (List.mem_filter.1 hw).1
set_option maxHeartbeats 8000000 in
theorem encRead (k : List UInt8) (hk : k.length ≤ 300000) : HFn Tryz.prog 8 [.v (str k)] (.tu [staH (readS k).1, .v (.bool (readS k).2)]) := by
  refine HCalls.conv (Q := fun x _ => x = .tu [staH (readS k).1, .v (.bool (readS k).2)] ∨ (readS k = (⟨[], []⟩, false) ∧ x = .tu [.ag [.v (.slice none 0 0), .v (.slice none 0 0)], .v (.bool false)])) ?_ ?_
  rotate_left
  · rintro x H' (rfl | ⟨h, rfl⟩)
    · exact ⟨_, rfl, .inl rfl⟩
    · rw [h]; exact ⟨_, rfl, .inr ⟨rfl, Conv.nilSta _⟩⟩
  have hwl := wordsB_length k
  have hww := cutB_lens k
  refine HCalls_bodyC (fn := Tryz.f8) 40 [.cell 2 25, .tmp 3] (by kernel_rfl) rfl rfl (by kernel_rfl) (HW.run 400 (by kernel_rfl) ?_)
  simp (config := { decide := true }) only [go_sem, Int.reduceToNat, Nat.reduceAdd, Nat.reduceSub, Nat.reduceMul, Nat.reduceBEq, reduceIte, reduceCtorEq]
  refine callX_fn 3 (wordsPr k (by omega)) (by simp only [go_sem]) nz_owStrs ?_
  have hrs : readS k = if (∀ w ∈ wordsB k, (numB w).2 = true) ∧ Lib.join (wordsB k) [32] = k then ofF ((wordsB k).map fun w => (numB w).1) else (⟨[], []⟩, false) := rfl
  have hbad : ∀ w ∈ wordsB k, (numB w).2 = false → readS k = (⟨[], []⟩, false) := fun w hw h => by
    rw [hrs, if_neg]
    rintro ⟨h1, _⟩
    have := h1 w hw
    rw [h] at this; cases this
  generalize readS k = rs at hrs hbad ⊢
  generalize wordsB k = ws at hwl hww hrs hbad ⊢
  simp (config := { decide := true }) only [go_sem, Int.reduceToNat, Nat.reduceAdd, Nat.reduceSub, Nat.reduceMul, Nat.reduceBEq, reduceIte, reduceCtorEq, owStrs]
  refine HW.loopG (fun j T H => ∃ i : Nat, j = ws.length - i ∧ i ≤ ws.length ∧ (∀ w ∈ ws.take i, (numB w).2 = true) ∧ T 0 = .v (str k) ∧ T 2 = .pt 0 1 0 0 ∧ T 3 = .v (.bool false) ∧ T 4 = .hd 2 0 i ∧ T 5 = .hd 1 0 ws.length ∧ T 12 = .hd 1 0 ws.length ∧ T 13 = .v (.int .i64 ws.length) ∧ T 14 = .v (.int .i64 i) ∧
    H = [some ⟨25, 2, [[.v (.slice none 0 0), .v (.slice none 0 0)]]⟩, some ⟨9, 1, strs ws⟩, some ⟨3, 1, ints ((ws.take i).map fun w => (numB w).1)⟩]) ws.length ⟨_, _, Ghost.nil 4 3 1 rfl, 0, rfl, by omega, by simp, ?_, ?_, ?_, ?_, ?_, ?_, ?_, ?_, ?_⟩ ?_
  iterate 9 rfl
  rintro j T H ⟨i, rfl, hi, hok, h0, h2, hT3, h4, h5, h12, h13, h14, rfl⟩
  have hti : ((ws.take i).map fun w => (numB w).1).length = i := by rw [List.length_map, List.length_take]; omega
  by_cases hlt : i < ws.length
  · have hlt' : ((i : Int) < (ws.length : Int)) = True := by rw [int_ltE]; simp [hlt]
    have hx : ws[i]? = some ws[i] := List.getElem?_eq_getElem hlt
    have hwm := List.getElem_mem hlt
    have hwk := hww _ hwm
    have hb := hbad _ hwm
    have hsn : ((ws.take i).map fun w => (numB w).1) ++ [(numB ws[i]).1] = (ws.take (i + 1)).map fun w => (numB w).1 := by rw [List.take_add_one, hx, List.map_append]; rfl
    have hon : (numB ws[i]).2 = true → ∀ w ∈ ws.take (i + 1), (numB w).2 = true := fun h w hw => by
      rw [List.take_add_one, hx] at hw
      rcases List.mem_append.1 hw with hw | hw
      · exact hok w hw
      · simp only [Option.toList, List.mem_singleton] at hw
        rw [hw]; exact h
    generalize ws[i] = x at hx hwk hb hsn hon
    refine HW.run 200 (by kernel_rfl) ?_
    simp (config := { decide := true }) only [go_sem, Int.reduceToNat, Nat.reduceAdd, Nat.reduceSub, Nat.reduceMul, Nat.reduceBEq, reduceIte, reduceCtorEq, h0, h2, hT3, h4, h5, h12, h13, h14, hlt', hx]
    refine callX_fn 3 (numGet x (by omega)) (by simp only [go_sem]) rfl ?_
    cases hg : (numB x).2 with
    | false =>
      rw [hb hg]
      simp (config := { decide := true }) only [go_sem, Int.reduceToNat, Nat.reduceAdd, Nat.reduceSub, Nat.reduceMul, Nat.reduceBEq, reduceIte, reduceCtorEq, h0, h2, hT3, h4, h5, h12, h13, h14, hlt', hx]
      exact .inr trivial
    | true =>
      simp (config := { decide := true }) only [go_sem, Int.reduceToNat, Nat.reduceAdd, Nat.reduceSub, Nat.reduceMul, Nat.reduceBEq, reduceIte, reduceCtorEq, h0, h2, hT3, h4, h5, h12, h13, h14, hlt', hx, hti]
      refine ⟨by omega, ?_⟩
      refine ⟨_, _, Ghost.trunc [0, 2, 3, 4, 5, 12, 13, 14] 3 (Nat.zero_le _) ?_ ?_, ws.length - (i + 1), by omega, i + 1, rfl, by omega, hon hg, ?_, ?_, ?_, ?_, ?_, ?_, ?_, ?_, ?_⟩
      · simp (config := { decide := true }) only [go_sem, Nat.reduceBEq, reduceIte, h0, h2, hT3, h4, h5, h12, h13]
      · simp (config := { decide := true }) only [go_sem, Nat.reduceBEq, reduceIte, nmR_append]
      · simp (config := { decide := true }) only [go_sem, Nat.reduceBEq, reduceIte, h0]
      · simp (config := { decide := true }) only [go_sem, Nat.reduceBEq, reduceIte, h2]
      · simp (config := { decide := true }) only [go_sem, Nat.reduceBEq, reduceIte, hT3]
      · simp (config := { decide := true }) only [go_sem, Nat.reduceBEq, reduceIte]
      · simp (config := { decide := true }) only [go_sem, Nat.reduceBEq, reduceIte, h5]
      · simp (config := { decide := true }) only [go_sem, Nat.reduceBEq, reduceIte, h12]
      · simp (config := { decide := true }) only [go_sem, Nat.reduceBEq, reduceIte, h13]
      · simp (config := { decide := true }) only [go_sem, Nat.reduceBEq, reduceIte, h14]
        rw [w64 (by omega) (by omega)]; rfl
      · simp (config := { decide := true }) only [go_sem, Nat.reduceBEq, reduceIte]
        rw [← hsn]
        try simp [ints, irow]
  · have hlt' : ((i : Int) < (ws.length : Int)) = False := by rw [int_ltE]; simp [hlt]
    obtain rfl : i = ws.length := by omega
    rw [List.take_of_length_le (Nat.le_refl _)] at hok
    rw [List.take_of_length_le (Nat.le_refl _)] at hti ⊢
    refine HW.ghost (Ghost.freezeHd 4 2 ws.length h4 (ob := ⟨3, 1, ints (ws.map fun w => (numB w).1)⟩) rfl (by rw [ints_length, hti])) ?_
    refine HW.run 200 (by kernel_rfl) ?_
    simp (config := { decide := true }) only [go_sem, Int.reduceToNat, Nat.reduceAdd, Nat.reduceSub, Nat.reduceMul, Nat.reduceBEq, reduceIte, reduceCtorEq, h0, h2, hT3, h4, h5, h12, h13, h14, hlt', hti]
    have hjl : (Lib.join ws [32]).length ≤ (300000 + 1) * ws.length := join_len [32] 300000 fun x hx => by have := hww x hx; omega
    refine callX_fn 3 (stringsJoin ws [32] (by omega) (by omega)) (by simp only [go_sem]) rfl ?_
    by_cases he : Lib.join ws [32] = k
    · have he' : (Lib.join ws [32] = k) = True := eq_true he
      rw [hrs, if_pos ⟨hok, he⟩]
      simp (config := { decide := true }) only [go_sem, Int.reduceToNat, Nat.reduceAdd, Nat.reduceSub, Nat.reduceMul, Nat.reduceBEq, reduceIte, reduceCtorEq, h0, h2, hT3, h4, h5, he']
      refine callX_nm (encOf (ws.map fun w => (numB w).1) (by rw [List.length_map]; omega)) rfl rfl ?_
      simp (config := { decide := true }) only [go_sem, Int.reduceToNat, Nat.reduceAdd, Nat.reduceSub, Nat.reduceMul, Nat.reduceBEq, reduceIte, reduceCtorEq, h2]
      exact .inl trivial
    · have he' : (Lib.join ws [32] = k) = False := eq_false he
      rw [hrs, if_neg (fun h => he h.2)]
      simp (config := { decide := true }) only [go_sem, Int.reduceToNat, Nat.reduceAdd, Nat.reduceSub, Nat.reduceMul, Nat.reduceBEq, reduceIte, reduceCtorEq, h0, h2, hT3, h4, h5, he']
      exact .inr trivial
end Go.Proofs.YtokigghopmopbaaGreatDoor
namespace Go.Proofs.YtokigghopmopbaaGreatDoor
open Go.RowKit
set_option maxRecDepth 8000
theorem word_oneE {s : List UInt8} (h1 : s ≠ []) (h2 : (32 : UInt8) ∉ s) : wordsB s = [s] := by
  unfold wordsB
  rw [cutB_plain h2]
  cases s with
  | nil => exact absurd rfl h1
  | cons a s => simp
theorem textB_no32E (n : Int) : (32 : UInt8) ∉ textB n := by
  have hd : (32 : UInt8) ∉ dB n.natAbs := fun hm => by
    have := List.all_eq_true.1 (dB_digs n.natAbs) _ hm
    cases this
  unfold textB
  split
  · simp only [List.mem_cons, not_or]; exact ⟨by decide, hd⟩
  · exact hd
theorem join_more (x y : List UInt8) (r : List (List UInt8)) : Lib.join (x :: y :: r) [32] = x ++ [32] ++ Lib.join (y :: r) [32] := by
  rw [Lib.join_cons, Lib.join_cons]
  simp [Lib.joinTail]
theorem words_join : ∀ ws : List (List UInt8), ws ≠ [] → (∀ w ∈ ws, w ≠ [] ∧ (32 : UInt8) ∉ w) → wordsB (Lib.join ws [32]) = ws
  | [], h, _ => absurd rfl h
  | [x], _, h => by
    rw [Lib.join_one]
    obtain ⟨h1, h2⟩ := h x (by simp)
    exact word_oneE h1 h2
  | x :: y :: r, _, h => by
    obtain ⟨h1, h2⟩ := h x (by simp)
    rw [join_more, wordsB_parts, word_oneE h1 h2, words_join (y :: r) (by simp) fun w hw => h w (by simp [List.mem_cons.1 hw])]
    rfl
theorem words_key (s : Sta) : wordsB (keyS s) = (numsB s).map textB := by
  unfold keyS
  refine words_join _ ?_ ?_
  · have := numsB_pos s
    intro h
    rw [List.map_eq_nil_iff] at h
    rw [h] at this; simp at this
  · intro w hw
    obtain ⟨n, _, rfl⟩ := List.mem_map.1 hw
    exact ⟨textB_ne n, textB_no32E n⟩
theorem read_key {s : Sta} (hf : FitS s) : readS (keyS s) = (s, true) := by
  unfold readS
  rw [words_key]
  have e : ((numsB s).map textB).map (fun w => (numB w).1) = numsB s := by
    rw [List.map_map]
    conv => rhs; rw [← List.map_id (numsB s)]
    exact List.map_congr_left fun n hn => by
      show (numB (textB n)).1 = n
      rw [numB_text (hf n hn)]
  rw [e, of_nums, if_pos]
  refine ⟨fun w hw => ?_, rfl⟩
  obtain ⟨n, hn, rfl⟩ := List.mem_map.1 hw
  rw [numB_text (hf n hn)]
theorem key_read {k : List UInt8} (h : (readS k).2 = true) : FitS (readS k).1 ∧ keyS (readS k).1 = k ∧ (numsB (readS k).1).length = (wordsB k).length := by
  unfold readS at h ⊢
  split at h
  · rename_i hc
    rw [if_pos hc]
    have h1 := nums_of h
    refine ⟨?_, ?_, by rw [h1, List.length_map]⟩
    · intro n hn
      rw [h1] at hn
      obtain ⟨w, hw, rfl⟩ := List.mem_map.1 hn
      exact (numB_true (hc.1 w hw)).1
    · unfold keyS
      rw [h1, List.map_map]
      have : (wordsB k).map (textB ∘ fun w => (numB w).1) = wordsB k := by
        conv => rhs; rw [← List.map_id (wordsB k)]
        exact List.map_congr_left fun w hw => (numB_true (hc.1 w hw)).2
      rw [this]; exact hc.2
  · cases h
theorem read_none {k : List UInt8} (h : (readS k).2 = false) : (readS k).1 = ⟨[], []⟩ := by
  unfold readS at h ⊢
  split at h
  · rename_i hc
    rw [if_pos hc]; exact of_none h
  · rename_i hc; rw [if_neg hc]
theorem read_blank {s : Sta} (hf : FitS s) : readS (keyS s ++ [32]) = (⟨[], []⟩, false) := by
  have hw : wordsB (keyS s ++ [32]) = wordsB (keyS s) := by
    have := wordsB_parts (keyS s) []
    rw [List.append_nil] at this
    rw [this]
    have : wordsB [] = [] := by decide
    rw [this, List.append_nil]
  unfold readS
  rw [if_neg]
  rintro ⟨_, h⟩
  rw [hw, words_key] at h
  have : keyS s = keyS s ++ [32] := h
  have := congrArg List.length this
  simp at this
theorem nums_small {s : Sta} (h : (numsB s).length ≤ 2000) : SmallS s := by
  have h1 : s.mem.length + 4 * s.ths.length ≤ (numsB s).length := by
    have : ∀ l : List Thd, 4 * l.length ≤ (l.flatMap numsT).length := by
      intro l
      induction l with
      | nil => simp
      | cons t l ih =>
        have h7 : 4 ≤ (numsT t).length := by unfold numsT; simp; omega
        rw [List.flatMap_cons, List.length_append, List.length_cons]; omega
    have := this s.ths
    unfold numsB
    simp only [List.length_append, List.length_cons, List.length_nil]; omega
  refine ⟨by omega, by omega, fun t ht => ?_⟩
  have h2 : (numsT t).length ≤ (s.ths.flatMap numsT).length := by
    obtain ⟨a, b, e⟩ := List.append_of_mem ht
    rw [e]; simp; omega
  have h3 : (s.ths.flatMap numsT).length ≤ (numsB s).length := by unfold numsB; simp; omega
  have h4 : t.regs.length + t.buf.length ≤ (numsT t).length := by unfold numsT; simp [flatW_len]; omega
  omega
theorem wide_small {s : Sta} (h : wideB s = false) : SmallS s ∧ (numsB s).length ≤ 10000 := by
  unfold wideB at h
  simp only [Bool.or_eq_false_iff, decide_eq_false_iff_not, List.any_eq_false] at h
  obtain ⟨⟨h1, h2⟩, h3⟩ := h
  have ht : ∀ t ∈ s.ths, t.regs.length ≤ 300 ∧ t.buf.length ≤ 300 := fun t ht => by
    have := h3 t ht
    unfold wideT at this
    simp only [Bool.or_eq_true, decide_eq_true_eq, not_or] at this
    omega
  refine ⟨⟨by omega, by omega, fun t h => by have := ht t h; omega⟩, ?_⟩
  have h4 : ∀ l : List Thd, (∀ t ∈ l, t.regs.length ≤ 300 ∧ t.buf.length ≤ 300) → (l.flatMap numsT).length ≤ 904 * l.length := by
    intro l hl
    induction l with
    | nil => simp
    | cons t l ih =>
      have h5 := hl t (by simp)
      have h6 := ih fun t ht => hl t (by simp [ht])
      have h7 : (numsT t).length ≤ 904 := by unfold numsT; simp [flatW_len]; omega
      rw [List.flatMap_cons, List.length_append, List.length_cons]; omega
  have h5 := h4 s.ths ht
  unfold numsB
  simp only [List.length_append, List.length_cons, List.length_nil]; omega
def headS : Sta := ⟨[-7], [⟨2, [5], true, [(1, 3)]⟩]⟩
theorem headS_nums : numsB headS = [1, -7, 1, 2, 1, 1, 5, 1, 1, 3] := by decide
theorem text_one {m : Nat} (h : m < 10) : textB (m : Int) = [dig m] := by
  unfold textB
  rw [if_neg (by omega), Int.natAbs_natCast, dB_lt h]
theorem headS_fit : FitS headS := by
  intro n hn
  rw [headS_nums] at hn
  simp only [List.mem_cons, List.not_mem_nil, or_false] at hn
  unfold inI; omega
theorem text_lits : textB 0 = [48] ∧ textB 1 = [49] ∧ textB 2 = [50] ∧ textB 3 = [51] ∧ textB 5 = [53] ∧ textB (-7) = [45, 55] := by
  refine ⟨text_one (m := 0) (by omega), text_one (m := 1) (by omega), text_one (m := 2) (by omega), text_one (m := 3) (by omega), text_one (m := 5) (by omega), ?_⟩
  unfold textB
  rw [if_pos (by omega), show (-7 : Int).natAbs = 7 by rfl, dB_lt (by omega)]; rfl
theorem headS_key : keyS headS = [49, 32, 45, 55, 32, 49, 32, 50, 32, 49, 32, 49, 32, 53, 32, 49, 32, 49, 32, 51] := by
  obtain ⟨h0, h1, h2, h3, h5, h7⟩ := text_lits
  unfold keyS
  rw [headS_nums]
  simp only [List.map_cons, List.map_nil, h1, h2, h3, h5, h7]
  decide
theorem noneS_nums : numsB ⟨[], []⟩ = [0, 0] := by decide
theorem noneS_fit : FitS ⟨[], []⟩ := by
  intro n hn
  rw [noneS_nums] at hn
  simp only [List.mem_cons, List.not_mem_nil, or_false, or_self] at hn
  unfold inI; omega
theorem noneS_key : keyS ⟨[], []⟩ = [48, 32, 48] := by
  unfold keyS
  rw [noneS_nums]
  simp only [List.map_cons, List.map_nil, text_lits.1]
  decide
theorem of_zero : ofF [0, 0] = (⟨[], []⟩, true) := noneS_nums ▸ of_nums ⟨[], []⟩
theorem of_six : (ofF [0, 1, 0, 2, 0, 0]).2 = false := by decide
end Go.Proofs.YtokigghopmopbaaGreatDoor
namespace Go.Proofs.YtokigghopmopbaaGreatDoor
open Go.RowKit
set_option maxRecDepth 8000
theorem HCalls.hdShut {P : Program} {f : FuncId} {H : Heap} {k n : Nat} {ob : HObj} {R : HV} (h : HFn P f [.sl (fzoR ob.rows)] R) (ho : H[k]? = some (some ob)) (hl : n = ob.rows.length) : HCalls P f H [.hd k 0 n] (fun r H' => r = R ∧ H' = H.set k none) := by
  refine ⟨h.1, fun Z G FP w vals hi ha => ?_⟩
  have hk := hi.freeze k
  simp only [RL] at ha
  obtain ⟨y, ys, f1, f2, rfl, hf, h0, rfl, rfl⟩ := ha
  obtain rfl : f1 = [] := by simpa using hf.symm
  have hsl : RV (Zid Z FP k) (G.set k none) w (.sl (fzoR ob.rows)) y [] := by
    obtain ⟨g, hg, hOB, hV⟩ := hd_at hi ho (by omega) h0
    unfold View at hV
    rw [RV]
    cases hb : g.blk with
    | none =>
      rw [hb] at hV
      obtain ⟨hy, _, h2⟩ := hV
      have hr : ob.rows = [] := List.length_eq_zero_iff.1 (by omega)
      refine ⟨rfl, none, 0, ?_, ?_, by simp [maxLen], .inl ?_⟩
      · rw [hy, hr]; rfl
      · rw [hr]; exact Nat.le_refl _
      · rw [hr]; rfl
    | some b =>
      rw [hb] at hV
      obtain ⟨ad, hy, ha⟩ := hV
      obtain ⟨b', cells, f, q1, q2, q3, q4, q5, q6, q7⟩ := hOB.cells_ hb
      rw [hb] at q1
      cases q1
      have ha' := ha (.inr rfl)
      refine ⟨rfl, some ad, g.cap, ?_, by rw [fzoR_length]; exact q5, q6, ?_⟩
      · rw [hy, fzoR_length, hl]; rfl
      · right
        refine ⟨b, 0, by rw [ha', Nat.zero_mul], .inr (by rw [q2]; simp), ?_, ?_⟩
        · refine uni_len (sz := ob.sz) fun r hr => ?_
          rw [fzoR_get] at hr
          obtain ⟨r', hr', rfl⟩ := List.mem_map.1 hr
          rw [fzoL_length]; exact hOB.len r' hr'
        · exact fzoR_spec ob.rows G b 0 f ⟨fun b hb => .inl hb, fun b hb => .inr (by rw [q2]; simp [hb])⟩ q7
  refine Calls.mono ((HCalls.plain h (H := H.set k none) rfl).2 _ _ _ w [y] hk ?_) ?_
  · simp only [RL]
    exact ⟨y, [], [], [], rfl, rfl, hsl, rfl, rfl⟩
  rintro e w' ⟨v, r, H', Z', G', FP', fr, rfl, ⟨rfl, rfl⟩, hlen, hi', hr, hnd, hfr1, hfr2, hG, hE⟩
  refine ⟨v, _, _, Z', G', FP', fr, rfl, ⟨rfl, rfl⟩, by simp, hi', hr, hnd, hfr1, fun b hb => ?_, (GLe.kill k).trans hG, (evo_freeze k).trans hE⟩
  rcases hfr2 b hb with h | ⟨id, h⟩
  · exact .inl h
  · by_cases e : id = k
    · simp [e] at h
    · simp only [e, if_false] at h
      exact .inr ⟨id, h⟩
inductive ConvL : List HV → List HV → Prop
  | nil : ConvL [] []
  | cons {x y : HV} {a b : List HV} : Conv x y → ConvL a b → ConvL (x :: a) (y :: b)
theorem RL_conv {Z : Nat → Prop} {G : List (Option OG)} {w : World} {a b : List HV} (hc : ConvL a b) : ∀ (vals : List Value), RL Z G w a vals [] → RL Z G w b vals [] := by
  induction hc with
  | nil => exact fun _ h => h
  | cons h0 _ ih =>
    intro vals h
    simp only [RL] at h ⊢
    obtain ⟨z, zs, f1, f2, e1, e2, h1, h2⟩ := h
    have e3 := e2
    rw [eq_comm, List.append_eq_nil_iff] at e3
    obtain ⟨rfl, rfl⟩ := e3
    exact ⟨z, zs, [], [], e1, e2, h0 _ _ _ _ h1, ih zs h2⟩
theorem HCalls.convA {P : Program} {f : FuncId} {H : Heap} {args args' : List HV} {Q : HV → Heap → Prop} (h : HCalls P f H args' Q) (hc : ConvL args args') : HCalls P f H args Q :=
  ⟨h.1, fun Z G FP w vals hi ha => h.2 Z G FP w vals hi (RL_conv hc _ ha)⟩
theorem Conv.refl (x : HV) : Conv x x := fun _ _ _ _ h => h
theorem Conv.zeroSta : Conv (.ag [.v (.slice none 0 0), .v (.slice none 0 0)]) (.ag [.sl [], .sl []]) := fun Z G w y h => by
  rw [RV] at h ⊢
  obtain ⟨ys, rfl, h⟩ := h
  exact ⟨ys, rfl, RL_conv (.cons Conv.nilSl (.cons Conv.nilSl .nil)) _ h⟩
theorem encNumsS (s : Sta) (hs : SmallS s) : HFn Tryz.prog 11 [staH s] (.sl (ints (numsB s))) := (encNums s hs).shut (by simp only [fzo, ints_fzoR])
def lit20 : List UInt8 := [49, 32, 45, 55, 32, 49, 32, 50, 32, 49, 32, 49, 32, 53, 32, 49, 32, 49, 32, 51]
abbrev noneS : Sta := ⟨[], []⟩
set_option maxHeartbeats 8000000 in
theorem lawHeadE : HFn Tryz.prog 4 [] (.v (.bool true)) := by
  have hs : SmallS headS := nums_small (by rw [headS_nums]; decide)
  have hz : SmallS noneS := nums_small (by rw [noneS_nums]; decide)
  have c1 : HFn Tryz.prog 13 [staH headS] (.v (str lit20)) := by
    have := encKey headS hs headS_fit
    rw [headS_key] at this; exact this
  have c2 : HFn Tryz.prog 8 [.v (str lit20)] (.tu [staH headS, .v (.bool true)]) := by
    have := encRead (keyS headS) (by rw [headS_key]; decide)
    rw [read_key headS_fit, headS_key] at this; exact this
  have c3 : HFn Tryz.prog 8 [.v (str (lit20 ++ [32]))] (.tu [staH noneS, .v (.bool false)]) := by
    have := encRead (keyS headS ++ [32]) (by rw [headS_key]; decide)
    rw [read_blank headS_fit, headS_key] at this; exact this
  have c4 : HFn Tryz.prog 6 [.sl (ints [0, 0])] (.tu [staH noneS, .v (.bool true)]) := by
    have := encOf [0, 0] (by decide)
    rw [of_zero] at this; exact this
  have c5 : HFn Tryz.prog 6 [.sl (ints [0, 1, 0, 2, 0, 0])] (.tu [staH noneS, .v (.bool false)]) := by
    have := encOf [0, 1, 0, 2, 0, 0] (by decide)
    rw [of_none of_six, of_six] at this; exact this
  have c6 : HFn Tryz.prog 15 [staH headS, staH headS] (.v (.bool true)) := by
    have := refSameSt headS headS hs
    rw [sameS_iff.2 rfl] at this; exact this
  have c7 : HFn Tryz.prog 11 [staH headS] (owInts [1, -7, 1, 2, 1, 1, 5, 1, 1, 3]) := headS_nums ▸ encNums headS hs
  have c8 : HFn Tryz.prog 15 [staH noneS, staH noneS] (.v (.bool true)) := by
    have := refSameSt noneS noneS hz
    rw [sameS_iff.2 rfl] at this; exact this
  have c9 : HFn Tryz.prog 13 [staH noneS] (.v (str [48, 32, 48])) := noneS_key ▸ encKey noneS hz noneS_fit
  refine HCalls_body (fn := Tryz.f4) 78 [0] (by kernel_rfl) rfl (by kernel_rfl) (HW.run 400 (by kernel_rfl) ?_)
  simp (config := { decide := true }) only [go_sem, Int.reduceToNat, Nat.reduceAdd, Nat.reduceSub, Nat.reduceMul, Nat.reduceBEq, reduceIte, reduceCtorEq]
  refine callX_fn 6 c1 (by simp only [go_sem]; rfl) rfl ?_
  simp (config := { decide := true }) only [go_sem, Int.reduceToNat, Nat.reduceAdd, Nat.reduceSub, Nat.reduceMul, Nat.reduceBEq, reduceIte, reduceCtorEq]
  refine callX_nm (c2) rfl rfl ?_
  simp (config := { decide := true }) only [go_sem, Int.reduceToNat, Nat.reduceAdd, Nat.reduceSub, Nat.reduceMul, Nat.reduceBEq, reduceIte, reduceCtorEq]
  refine callX_nm (c3) rfl rfl ?_
  simp (config := { decide := true }) only [go_sem, Int.reduceToNat, Nat.reduceAdd, Nat.reduceSub, Nat.reduceMul, Nat.reduceBEq, reduceIte, reduceCtorEq]
  refine ⟨_, HCalls.hdShut (ob := ⟨3, 1, ints [0, 0]⟩) c4 rfl rfl, ?_⟩
  rintro x H' ⟨rfl, rfl⟩ -
  simp (config := { decide := true }) only [go_sem, Int.reduceToNat, Nat.reduceAdd, Nat.reduceSub, Nat.reduceMul, Nat.reduceBEq, reduceIte, reduceCtorEq]
  refine ⟨_, HCalls.hdShut (ob := ⟨3, 1, ints [0, 1, 0, 2, 0, 0]⟩) c5 rfl rfl, ?_⟩
  rintro x H' ⟨rfl, rfl⟩ -
  simp (config := { decide := true }) only [go_sem, Int.reduceToNat, Nat.reduceAdd, Nat.reduceSub, Nat.reduceMul, Nat.reduceBEq, reduceIte, reduceCtorEq]
  refine callX_fn 6 c6 (by simp only [go_sem]; rfl) rfl ?_
  simp (config := { decide := true }) only [go_sem, Int.reduceToNat, Nat.reduceAdd, Nat.reduceSub, Nat.reduceMul, Nat.reduceBEq, reduceIte, reduceCtorEq]
  refine callX_fn 6 c7 (by simp only [go_sem]; rfl) (by simp only [go_sem]) ?_
  simp (config := { decide := true }) only [go_sem, Int.reduceToNat, Nat.reduceAdd, Nat.reduceSub, Nat.reduceMul, Nat.reduceBEq, reduceIte, reduceCtorEq]
  refine callX_fn 6 (refSameInts [1, -7, 1, 2, 1, 1, 5, 1, 1, 3] [1, -7, 1, 2, 1, 1, 5, 1, 1, 3] (by decide)) (by simp only [go_sem]; rfl) rfl ?_
  simp (config := { decide := true }) only [go_sem, Int.reduceToNat, Nat.reduceAdd, Nat.reduceSub, Nat.reduceMul, Nat.reduceBEq, reduceIte, reduceCtorEq]
  refine callX_nm (HCalls.convA c8 (.cons (Conv.refl _) (.cons Conv.zeroSta .nil))) rfl rfl ?_
  simp (config := { decide := true }) only [go_sem, Int.reduceToNat, Nat.reduceAdd, Nat.reduceSub, Nat.reduceMul, Nat.reduceBEq, reduceIte, reduceCtorEq]
  refine callX_nm (HCalls.convA c9 (.cons Conv.zeroSta .nil)) rfl rfl ?_
  simp (config := { decide := true }) only [go_sem, Int.reduceToNat, Nat.reduceAdd, Nat.reduceSub, Nat.reduceMul, Nat.reduceBEq, reduceIte, reduceCtorEq]
end Go.Proofs.YtokigghopmopbaaGreatDoor
namespace Go.Proofs.YtokigghopmopbaaGreatDoor
open Go.RowKit
set_option maxRecDepth 8000
theorem same_self (s : Sta) (hs : SmallS s) : HFn Tryz.prog 15 [staH s, staH s] (.v (.bool true)) := by
  have := refSameSt s s hs
  rw [sameS_iff.2 rfl] at this; exact this
end Go.Proofs.YtokigghopmopbaaGreatDoor
namespace Go.Proofs.YtokigghopmopbaaGreatDoor
open Go.RowKit
set_option maxRecDepth 8000
theorem fitS {s : Sta} (h : WfS s) : FitS s := by
  have hm : maxLen ≤ 9223372036854775807 := by decide
  intro n hn
  unfold numsB at hn
  rcases List.mem_append.1 hn with hn | hn
  · rcases List.mem_append.1 hn with hn | hn
    · rcases List.mem_append.1 hn with hn | hn
      · have := h.ml; rw [List.mem_singleton.1 hn]; unfold inI; omega
      · exact wf_inI (h.mem n hn)
    · have := h.tl; rw [List.mem_singleton.1 hn]; unfold inI; omega
  · obtain ⟨t, ht, hn⟩ := List.mem_flatMap.1 hn
    have w := h.ths t ht
    have w1 := w.rl
    have w2 := w.bl
    have w3 := wf_inI w.pc
    unfold numsT at hn
    rcases List.mem_append.1 hn with hn | hn
    · rcases List.mem_append.1 hn with hn | hn
      · rcases List.mem_append.1 hn with hn | hn
        · simp only [List.mem_cons, List.not_mem_nil, or_false] at hn
          unfold inI
          rcases hn with rfl | rfl | rfl
          · exact w3
          · split <;> omega
          · omega
        · exact wf_inI (w.regs n hn)
      · rw [List.mem_singleton.1 hn]; unfold inI; omega
    · unfold flatW at hn
      obtain ⟨x, hx, hn⟩ := List.mem_flatMap.1 hn
      obtain ⟨k1, k2⟩ := w.buf x hx
      simp only [List.mem_cons, List.not_mem_nil, or_false] at hn
      rcases hn with rfl | rfl
      · exact wf_inI k1
      · exact wf_inI k2
end Go.Proofs.YtokigghopmopbaaGreatDoor
