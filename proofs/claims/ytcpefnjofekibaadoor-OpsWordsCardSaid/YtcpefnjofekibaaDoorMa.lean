/- Merged: Np, Nq, On, Oo, Op. -/
import Derived.Lib.AtoiAll
import Derived.Test.YtcpefnjofekibaaDoorWk
import Derived.Test.YtcpefnjofekibaaDoorHiCr
import Derived.Laws.BitsLemmas
/- Numbers as texts: the plain law. No program is in sight. -/
namespace Go.Proofs.YtcpefnjofekibaaDoor
open Go
set_option linter.unusedVariables false
set_option linter.unusedSimpArgs false

/-- The digit of a number below ten. -/
def dig (d : Nat) : UInt8 := UInt8.ofNat (48 + d % 10)
theorem dig_toNat (d : Nat) : (dig d).toNat = 48 + d % 10 := by
  unfold dig
  rw [UInt8.toNat_ofNat']
  omega

/-- The digits of a number. -/
def dB (m : Nat) : List UInt8 := if h : m < 10 then [dig m] else dB (m / 10) ++ [dig m]
termination_by m
decreasing_by omega

theorem dB_lt {m : Nat} (h : m < 10) : dB m = [dig m] := by rw [dB, dif_pos h]
theorem dB_ge {m : Nat} (h : 10 ≤ m) : dB m = dB (m / 10) ++ [dig m] := by rw [dB, dif_neg (by omega)]

/-- A number's text. -/
def textB (n : Int) : List UInt8 := if n < 0 then 45 :: dB n.natAbs else dB n.natAbs

def isDig (c : UInt8) : Bool := decide (48 ≤ c.toNat) && decide (c.toNat ≤ 57)

theorem isDig_dig (d : Nat) : isDig (dig d) = true := by
  simp only [isDig, dig_toNat, Bool.and_eq_true, decide_eq_true_eq]; omega

def dstep (acc : Nat) (c : UInt8) : Nat := acc * 10 + (c.toNat - 48)
def dval (acc : Nat) (l : List UInt8) : Nat := l.foldl dstep acc

theorem dval_nil (a : Nat) : dval a [] = a := rfl
theorem dval_cons (a : Nat) (c : UInt8) (r : List UInt8) : dval a (c :: r) = dval (a * 10 + (c.toNat - 48)) r := by
  unfold dval; rw [List.foldl_cons]; rfl

theorem dval_snoc (c : UInt8) : ∀ (l : List UInt8) (acc : Nat), dval acc (l ++ [c]) = dval acc l * 10 + (c.toNat - 48)
  | [], acc => by rw [List.nil_append, dval_cons, dval_nil, dval_nil]
  | x :: l, acc => by rw [List.cons_append, dval_cons, dval_cons, dval_snoc c l]

theorem dval_mono : ∀ (l : List UInt8) (a b : Nat), a ≤ b → dval a l ≤ dval b l
  | [], a, b, h => h
  | x :: l, a, b, h => by rw [dval_cons, dval_cons]; exact dval_mono l _ _ (by omega)
theorem dval_ge : ∀ (l : List UInt8) (a : Nat), a ≤ dval a l
  | [], a => Nat.le_refl _
  | x :: l, a => by rw [dval_cons]; exact Nat.le_trans (by omega) (dval_ge l (a * 10 + (x.toNat - 48)))

/-- No leading zeros. -/
def canonB (l : List UInt8) : Bool := !l.isEmpty && l.all isDig && (decide (l = [48]) || decide (l.head? ≠ some 48))

theorem dval_dB (m : Nat) : dval 0 (dB m) = m := by
  induction m using Nat.strongRecOn with
  | _ m ih =>
    by_cases h : m < 10
    · rw [dB_lt h, dval_cons, dval_nil, dig_toNat]; omega
    · rw [dB_ge (by omega), dval_snoc, ih (m / 10) (by omega), dig_toNat]; omega

theorem dB_ne (m : Nat) : dB m ≠ [] := by
  by_cases h : m < 10
  · rw [dB_lt h]; simp
  · rw [dB_ge (by omega)]; simp

theorem dB_digs (m : Nat) : (dB m).all isDig = true := by
  induction m using Nat.strongRecOn with
  | _ m ih =>
    by_cases h : m < 10
    · rw [dB_lt h]; simp [isDig_dig]
    · rw [dB_ge (by omega)]; simp [ih (m / 10) (by omega), isDig_dig]

theorem dB_head (m : Nat) (hm : m ≠ 0) : (dB m).head? ≠ some 48 := by
  induction m using Nat.strongRecOn with
  | _ m ih =>
    by_cases h : m < 10
    · rw [dB_lt h]
      simp only [List.head?_cons, ne_eq, Option.some.injEq]
      intro hc
      have := congrArg UInt8.toNat hc
      rw [dig_toNat] at this
      have e : (48 : UInt8).toNat = 48 := rfl
      omega
    · rw [dB_ge (by omega)]
      have := ih (m / 10) (by omega) (by omega)
      cases hd : dB (m / 10) with
      | nil => exact absurd hd (dB_ne _)
      | cons x l => rw [hd] at this; simpa using this

theorem dB_canon (m : Nat) : canonB (dB m) = true := by
  unfold canonB
  have h1 := dB_digs m
  have h2 := dB_ne m
  by_cases hm : m = 0
  · subst hm; rw [dB_lt (by omega)] at *; decide
  · have h3 := dB_head m hm
    simp only [Bool.and_eq_true, Bool.not_eq_true', List.isEmpty_eq_false_iff, Bool.or_eq_true, decide_eq_true_eq]
    exact ⟨⟨h2, h1⟩, .inr h3⟩

theorem dig_of {c : UInt8} (h : isDig c = true) : dig (c.toNat - 48) = c := by
  simp only [isDig, Bool.and_eq_true, decide_eq_true_eq] at h
  apply UInt8.toNat_inj.1
  rw [dig_toNat]; omega

theorem dB_dval : ∀ (k : Nat) (l : List UInt8), l.length = k → canonB l = true → dB (dval 0 l) = l := by
  intro k
  induction k with
  | zero => intro l hl hc; obtain rfl := List.eq_nil_of_length_eq_zero hl; simp [canonB] at hc
  | succ k ih =>
    intro l hl hc
    obtain ⟨l', c, rfl⟩ : ∃ l' c, l = l' ++ [c] := ⟨l.dropLast, l.getLast (by intro h; subst h; simp at hl), (List.dropLast_concat_getLast _).symm⟩
    simp only [canonB, Bool.and_eq_true, Bool.not_eq_true', List.isEmpty_eq_false_iff, Bool.or_eq_true, decide_eq_true_eq, List.all_append, List.all_cons, List.all_nil] at hc
    obtain ⟨⟨_, h1, hcd, _⟩, h2⟩ := hc
    rw [dval_snoc]
    have hc57 : c.toNat ≤ 57 ∧ 48 ≤ c.toNat := by
      have := hcd; simp only [isDig, Bool.and_eq_true, decide_eq_true_eq] at this; exact ⟨this.2, this.1⟩
    by_cases hl' : l' = []
    · subst hl'
      rw [dval_nil, List.nil_append]
      rw [dB_lt (by omega), show 0 * 10 + (c.toNat - 48) = c.toNat - 48 by omega, dig_of hcd]
    · have hcan : canonB l' = true := by
        simp only [canonB, Bool.and_eq_true, Bool.not_eq_true', List.isEmpty_eq_false_iff, Bool.or_eq_true, decide_eq_true_eq]
        refine ⟨⟨hl', h1⟩, .inr ?_⟩
        rcases h2 with h2 | h2
        · have := congrArg List.length h2; simp at this; exact absurd this hl'
        · cases l' with
          | nil => exact absurd rfl hl'
          | cons x r => simpa using h2
      have hpos : 1 ≤ dval 0 l' := by
        cases l' with
        | nil => exact absurd rfl hl'
        | cons x r =>
          rw [dval_cons]
          have hx : x ≠ 48 := by
            rcases h2 with h2 | h2
            · simp at h2
            · simpa using h2
          have hx2 : isDig x = true := by simp at h1; exact h1.1
          simp only [isDig, Bool.and_eq_true, decide_eq_true_eq] at hx2
          have hx3 : x.toNat ≠ 48 := fun e => hx (UInt8.toNat_inj.1 e)
          have := dval_ge r (0 * 10 + (x.toNat - 48))
          omega
      have hd := ih l' (by simpa using hl) hcan
      rw [dB_ge (by omega), show (dval 0 l' * 10 + (c.toNat - 48)) / 10 = dval 0 l' by omega, hd]
      congr 1
      have : dig (dval 0 l' * 10 + (c.toNat - 48)) = dig (c.toNat - 48) := by
        apply UInt8.toNat_inj.1; rw [dig_toNat, dig_toNat]; omega
      rw [this, dig_of hcd]

def inI (n : Int) : Prop := -9223372036854775808 ≤ n ∧ n < 9223372036854775808
instance (n : Int) : Decidable (inI n) := by unfold inI; infer_instance

/-- The number of a text, and whether it is one's. -/
def numB (s : List UInt8) : Int × Bool :=
  match s with
  | 45 :: r => if canonB r = true ∧ r ≠ [48] ∧ dval 0 r ≤ 9223372036854775808 then (-(dval 0 r : Int), true) else (0, false)
  | s => if canonB s = true ∧ dval 0 s < 9223372036854775808 then ((dval 0 s : Int), true) else (0, false)

theorem numB_neg (r : List UInt8) : numB (45 :: r) = if canonB r = true ∧ r ≠ [48] ∧ dval 0 r ≤ 9223372036854775808 then (-(dval 0 r : Int), true) else (0, false) := rfl
theorem numB_pos {s : List UInt8} (h : s.head? ≠ some 45) : numB s = if canonB s = true ∧ dval 0 s < 9223372036854775808 then ((dval 0 s : Int), true) else (0, false) := by
  unfold numB
  split
  · simp at h
  · rfl

theorem dB_head45 (m : Nat) : (dB m).head? ≠ some 45 := by
  intro h
  have h1 := dB_digs m
  cases hd : dB m with
  | nil => exact dB_ne m hd
  | cons x l =>
    rw [hd] at h h1
    simp only [List.head?_cons, Option.some.injEq] at h
    subst h
    simp [isDig] at h1

theorem numB_text {n : Int} (h : inI n) : numB (textB n) = (n, true) := by
  unfold inI at h
  unfold textB
  split
  · rw [numB_neg, dval_dB, dB_canon, if_pos]
    · congr 1; omega
    · refine ⟨rfl, fun hc => ?_, by omega⟩
      have := congrArg (dval 0) hc
      rw [dval_dB] at this
      have e : dval 0 [48] = 0 := rfl
      omega
  · rw [numB_pos (dB_head45 _), dval_dB, dB_canon, if_pos ⟨rfl, by omega⟩]
    congr 1; omega

theorem numB_true {s : List UInt8} (h : (numB s).2 = true) : inI (numB s).1 ∧ textB (numB s).1 = s := by
  unfold inI
  by_cases hs : s.head? = some 45
  · cases s with
    | nil => simp at hs
    | cons x r =>
      simp only [List.head?_cons, Option.some.injEq] at hs
      subst hs
      rw [numB_neg] at h ⊢
      split at h
      · rename_i hc
        rw [if_pos hc]
        have hd := dB_dval _ r rfl hc.1
        have hp : 1 ≤ dval 0 r := by
          rcases Nat.eq_zero_or_pos (dval 0 r) with e | e
          · rw [e, dB_lt (by omega)] at hd
            exact absurd hd.symm hc.2.1
          · exact e
        refine ⟨⟨by simp only; omega, by simp only; omega⟩, ?_⟩
        unfold textB
        rw [if_pos (by simp only; omega)]
        rw [show (-(dval 0 r : Int), true).1.natAbs = dval 0 r by simp, hd]
      · simp at h
  · rw [numB_pos hs] at h ⊢
    split at h
    · rename_i hc
      rw [if_pos hc]
      refine ⟨⟨by simp only; omega, by simp only; omega⟩, ?_⟩
      unfold textB
      rw [if_neg (by simp only; omega), show ((dval 0 s : Int), true).1.natAbs = dval 0 s by simp, dB_dval _ s rfl hc.1]
    · simp at h

theorem numB_false {s : List UInt8} (h : (numB s).2 = false) : numB s = (0, false) := by
  unfold numB at h ⊢
  split <;> simp only at h <;> split <;> simp_all

theorem numB_out {s : List UInt8} (h : ∀ n, inI n → textB n ≠ s) : numB s = (0, false) := by
  apply numB_false
  cases hb : (numB s).2 with
  | false => rfl
  | true => exact absurd (numB_true hb).2 (h _ (numB_true hb).1)

theorem textB_inj {a b : Int} (ha : inI a) (hb : inI b) (h : textB a = textB b) : a = b := by
  have := numB_text ha
  rw [h, numB_text hb] at this
  exact (congrArg Prod.fst this).symm

theorem textB_ne (n : Int) : textB n ≠ [] := by
  unfold textB; split
  · simp
  · exact dB_ne _

theorem dB_length (m : Nat) : ∀ k, m < 10 ^ k → 1 ≤ k → (dB m).length ≤ k := by
  induction m using Nat.strongRecOn with
  | _ m ih =>
    intro k hk h1
    by_cases h : m < 10
    · rw [dB_lt h]; simpa using h1
    · rw [dB_ge (by omega)]
      obtain ⟨k', rfl⟩ : ∃ k', k = k' + 1 := ⟨k - 1, by omega⟩
      have h2 : 1 ≤ k' := by
        rcases Nat.eq_zero_or_pos k' with e | e
        · subst e; simp at hk; omega
        · exact e
      have := ih (m / 10) (by omega) k' (by rw [Nat.pow_succ] at hk; omega) h2
      simpa using this

theorem textB_length {n : Int} (h : inI n) : (textB n).length ≤ 20 := by
  unfold inI at h
  have := dB_length n.natAbs 19 (by omega) (by omega)
  unfold textB
  split <;> simp <;> omega
end Go.Proofs.YtcpefnjofekibaaDoor

/- Numbers as texts: strconv's answer against the plain law. -/
namespace Go.Proofs.YtcpefnjofekibaaDoor
open Go
set_option linter.unusedVariables false
set_option linter.unusedSimpArgs false

theorem pu_ok : ∀ (l : List UInt8) (acc u : Nat), Lib.parseUint10 acc l = .ok u → l.all isDig = true ∧ u = dval acc l
  | [], acc, u, h => by
    simp only [Lib.parseUint10] at h
    injection h with h
    exact ⟨rfl, h.symm⟩
  | c :: r, acc, u, h => by
    simp only [Lib.parseUint10] at h
    split at h
    · rename_i hc
      split at h
      · cases h
      · split at h
        · cases h
        · obtain ⟨h1, h2⟩ := pu_ok r _ u h
          refine ⟨?_, by rw [dval_cons]; exact h2⟩
          simp only [List.all_cons, h1, Bool.and_true, isDig, Bool.and_eq_true, decide_eq_true_eq]
          exact hc
    · cases h

theorem pu_digs : ∀ (l : List UInt8) (acc : Nat), l.all isDig = true → dval acc l < 18446744073709551616 → Lib.parseUint10 acc l = .ok (dval acc l)
  | [], acc, _, _ => rfl
  | c :: r, acc, h, hd => by
    simp only [List.all_cons, Bool.and_eq_true] at h
    obtain ⟨hc, hr⟩ := h
    simp only [isDig, Bool.and_eq_true, decide_eq_true_eq] at hc
    rw [dval_cons] at hd ⊢
    have := dval_ge r (acc * 10 + (c.toNat - 48))
    simp only [Lib.parseUint10]
    rw [if_pos hc, if_neg (by omega), if_neg (by omega)]
    exact pu_digs r _ hr hd

/-- Does a text look like a number's? -/
def shapeB : List UInt8 → Bool
  | 45 :: c :: r => decide (c ≠ 48) && (c :: r).all isDig
  | s => canonB s

theorem shapeB_neg (c : UInt8) (r : List UInt8) : shapeB (45 :: c :: r) = (decide (c ≠ 48) && (c :: r).all isDig) := rfl
theorem shapeB_pos {s : List UInt8} (h : s.head? ≠ some 45) : shapeB s = canonB s := by
  unfold shapeB
  split
  · simp at h
  · rfl

theorem canonB_digs {l : List UInt8} (h : canonB l = true) : l.all isDig = true ∧ l ≠ [] := by
  simp only [canonB, Bool.and_eq_true, Bool.not_eq_true', List.isEmpty_eq_false_iff] at h
  exact ⟨h.1.2, h.1.1⟩

theorem canonB_cons {c : UInt8} {r : List UInt8} (h : (c :: r).all isDig = true) : (canonB (c :: r) = true ∧ c :: r ≠ [48]) ↔ c ≠ 48 := by
  simp only [canonB, h, Bool.and_true, Bool.and_eq_true, Bool.or_eq_true, decide_eq_true_eq, List.isEmpty_cons, Bool.not_false, true_and, List.head?_cons, ne_eq, Option.some.injEq]
  constructor
  · rintro ⟨h1 | h1, h2⟩
    · exact absurd h1 h2
    · exact h1
  · intro h1
    refine ⟨.inr h1, fun h2 => h1 ?_⟩
    injection h2

/-- What is got of strconv's answer. -/
def numOf (s : List UInt8) : Lib.NumEnd Int → Int × Bool
  | .ok v => if shapeB s = true then (v, true) else (0, false)
  | Lib.NumEnd.syntax => (0, false)
  | .range => (0, false)

def negOf : Lib.NumEnd Nat → Lib.NumEnd Int
  | .ok u => if 9223372036854775808 < u then .range else .ok (-(u : Int))
  | Lib.NumEnd.syntax => Lib.NumEnd.syntax
  | .range => .range
def posOf : Lib.NumEnd Nat → Lib.NumEnd Int
  | .ok u => if 9223372036854775808 ≤ u then .range else .ok (u : Int)
  | Lib.NumEnd.syntax => Lib.NumEnd.syntax
  | .range => .range

theorem atoi_neg (r : List UInt8) : Lib.atoiAll (45 :: r) = negOf (Lib.parseMag r) := by
  have h45 : (45 : UInt8).toNat = 45 := rfl
  unfold Lib.atoiAll
  simp only [h45, or_true, if_true, not_true_eq_false, false_and, if_false, true_and]
  cases Lib.parseMag r <;> rfl

theorem atoi_pos {x : UInt8} {r : List UInt8} (h1 : x.toNat ≠ 45) (h2 : x.toNat ≠ 43) : Lib.atoiAll (x :: r) = posOf (Lib.parseMag (x :: r)) := by
  unfold Lib.atoiAll
  simp only [h1, h2, or_self, if_false, not_false_eq_true, true_and, false_and]
  cases Lib.parseMag (x :: r) <;> rfl

theorem mag_cons (x : UInt8) (r : List UInt8) : Lib.parseMag (x :: r) = Lib.parseUint10 0 (x :: r) := by
  unfold Lib.parseMag
  rw [if_neg (by simp)]

/-- strconv.Atoi and the look at the shape give the number of a text, if it is one's. -/
theorem atoi_num (s : List UInt8) : numB s = numOf s (Lib.atoiAll s) := by
  cases s with
  | nil => rfl
  | cons x r =>
    by_cases hx : x = 45
    · subst hx
      rw [numB_neg, atoi_neg]
      cases r with
      | nil =>
        rw [if_neg (fun h => by have := h.1; simp [canonB] at this)]
        rfl
      | cons c r =>
        rw [mag_cons]
        cases hp : Lib.parseUint10 0 (c :: r) with
        | ok u =>
          obtain ⟨h1, rfl⟩ := pu_ok _ _ _ hp
          simp only [negOf]
          by_cases hu : 9223372036854775808 < dval 0 (c :: r)
          · rw [if_pos hu, if_neg (fun h => by omega)]; rfl
          · rw [if_neg hu]
            simp only [numOf]
            rw [shapeB_neg, h1]
            have := canonB_cons h1
            by_cases hc : c = 48
            · rw [if_neg (fun h => this.1 ⟨h.1, h.2.1⟩ hc), if_neg (by simp [hc])]
            · obtain ⟨h2, h3⟩ := this.2 hc
              rw [if_pos ⟨h2, h3, by omega⟩, if_pos (by simp [hc])]
        | range =>
          simp only [negOf, numOf]
          rw [if_neg]
          rintro ⟨h1, h2, h3⟩
          rw [pu_digs _ 0 (canonB_digs h1).1 (by omega)] at hp
          cases hp
        | _ =>
          simp only [negOf, numOf]
          rw [if_neg]
          rintro ⟨h1, h2, h3⟩
          rw [pu_digs _ 0 (canonB_digs h1).1 (by omega)] at hp
          cases hp
    · have hh : (x :: r).head? ≠ some 45 := by simpa using hx
      have hxn : x.toNat ≠ 45 := fun h => hx (UInt8.toNat_inj.1 h)
      rw [numB_pos hh]
      by_cases hp43 : x = 43
      · subst hp43
        have : canonB (43 :: r) = false := by
          cases hc : canonB (43 :: r) with
          | false => rfl
          | true =>
            have := (canonB_digs hc).1
            simp [isDig] at this
        have h2 : shapeB (43 :: r) = false := by rw [shapeB_pos hh]; exact this
        rw [this, if_neg (by simp)]
        cases Lib.atoiAll (43 :: r) <;> simp [numOf, h2]
      · have hx43 : x.toNat ≠ 43 := fun h => hp43 (UInt8.toNat_inj.1 h)
        rw [atoi_pos hxn hx43, mag_cons]
        cases hp : Lib.parseUint10 0 (x :: r) with
        | ok u =>
          obtain ⟨h1, rfl⟩ := pu_ok _ _ _ hp
          simp only [posOf]
          by_cases hu : 9223372036854775808 ≤ dval 0 (x :: r)
          · rw [if_pos hu, if_neg (fun h => by omega)]; rfl
          · rw [if_neg hu]
            simp only [numOf]
            rw [shapeB_pos hh]
            by_cases hc : canonB (x :: r) = true
            · rw [if_pos ⟨hc, by omega⟩, if_pos hc]
            · rw [if_neg (fun h => hc h.1), if_neg hc]
        | range =>
          simp only [posOf, numOf]
          rw [if_neg]
          rintro ⟨h1, h3⟩
          rw [pu_digs _ 0 (canonB_digs h1).1 (by omega)] at hp
          cases hp
        | _ =>
          simp only [posOf, numOf]
          rw [if_neg]
          rintro ⟨h1, h3⟩
          rw [pu_digs _ 0 (canonB_digs h1).1 (by omega)] at hp
          cases hp

/-! the digits, from the left: what a number's text is behind some rounds -/
/-- j digits are behind; k is what is left. -/
def Dig (n : Int) (j : Nat) (k : Int) (ds : List UInt8) : Prop :=
  ds.length = j ∧ (k ≠ 0 → dB n.natAbs = dB k.natAbs ++ ds) ∧ (k = 0 → 1 ≤ j → dB n.natAbs = ds) ∧ (j = 0 → k = n) ∧ k.natAbs = n.natAbs / 10 ^ j ∧ (0 ≤ n → 0 ≤ k) ∧ (n ≤ 0 → k ≤ 0)

theorem Dig.zero (n : Int) : Dig n 0 n [] := ⟨rfl, fun _ => by simp, fun _ h => by omega, fun _ => rfl, by simp, id, id⟩

theorem Dig.step {n k : Int} {j : Nat} {ds : List UInt8} (h : Dig n j k ds) (hk : k ≠ 0 ∨ j = 0) : Dig n (j + 1) (k.tdiv 10) (dig k.natAbs :: ds) := by
  obtain ⟨h1, h2, h3, h4, h5, h6, h7⟩ := h
  have ht : (k.tdiv 10).natAbs = k.natAbs / 10 := by rw [Int.natAbs_tdiv]; rfl
  have hsgn1 : 0 ≤ k → 0 ≤ k.tdiv 10 := fun h => Int.tdiv_nonneg h (by omega)
  have hsgn2 : k ≤ 0 → k.tdiv 10 ≤ 0 := fun h => by
    have := Int.neg_tdiv (a := k) (b := 10)
    have h3 := Int.tdiv_nonneg (a := -k) (b := 10) (by omega) (by omega)
    omega
  have hd : k ≠ 0 → dB n.natAbs = dB k.natAbs ++ ds := h2
  refine ⟨by simp [h1], fun hk2 => ?_, fun hk2 _ => ?_, fun h => by omega, ?_, fun h => hsgn1 (h6 h), fun h => hsgn2 (h7 h)⟩
  · have hk0 : k ≠ 0 := by rintro rfl; simp at hk2
    have h10 : 10 ≤ k.natAbs := by
      have : (k.tdiv 10).natAbs ≠ 0 := by omega
      omega
    rw [hd hk0, dB_ge h10, ht]
    simp
  · have h10 : k.natAbs < 10 := by
      have : (k.tdiv 10).natAbs = 0 := by rw [hk2]; rfl
      omega
    by_cases hk0 : k = 0
    · rcases hk with hk | hk
      · exact absurd hk0 hk
      · subst hk
        have hn := h4 rfl
        subst hn
        have : ds = [] := List.eq_nil_of_length_eq_zero h1
        subst this
        rw [dB_lt h10]
    · rw [hd hk0, dB_lt h10]; rfl
  · rw [ht, h5, Nat.div_div_eq_div_mul, Nat.pow_succ]

theorem Dig.room {n k : Int} {j : Nat} {ds : List UInt8} (h : Dig n j k ds) (hn : inI n) (hk : k ≠ 0) : j ≤ 18 := by
  obtain ⟨h1, h2, h3, h4, h5, h6, h7⟩ := h
  unfold inI at hn
  have hp : 10 ^ j ≤ n.natAbs := by
    have h9 : n.natAbs / 10 ^ j ≠ 0 := by omega
    rcases Nat.lt_or_ge n.natAbs (10 ^ j) with h | h
    · exact absurd (Nat.div_eq_of_lt h) h9
    · exact h
  rcases Nat.lt_or_ge 18 j with h | h
  · have : 10 ^ 19 ≤ 10 ^ j := Nat.pow_le_pow_right (by omega) (by omega)
    omega
  · exact h

theorem Dig.room0 {n k : Int} {j : Nat} {ds : List UInt8} (h : Dig n j k ds) (hn : inI n) (hj : 1 ≤ j) (hk : k = 0) : j ≤ 19 ∧ dB n.natAbs = ds := by
  obtain ⟨h1, h2, h3, h4, h5, h6, h7⟩ := h
  have e := h3 hk hj
  unfold inI at hn
  have := dB_length n.natAbs 19 (by omega) (by omega)
  rw [e, h1] at this
  exact ⟨this, e⟩
end Go.Proofs.YtcpefnjofekibaaDoor

/- Ops: numbers' texts, as the program and the document have them. -/
namespace Go.Proofs.YtcpefnjofekibaaDoor
open Go.RowKit
set_option linter.unusedVariables false
set_option linter.unusedSimpArgs false
set_option maxRecDepth 8000

/-- A byte's cell. -/
def bc (b : UInt8) : HV := .v (.int .u8 (b.toNat : Int))

theorem fzoL_bc (m : Nat) (l : List UInt8) : fzoL (List.replicate m (.v (.int .u8 0)) ++ l.map bc) = List.replicate m (.v (.int .u8 0)) ++ l.map bc := by
  rw [fzoL_map, List.map_append, List.map_replicate, List.map_map]
  congr 1

theorem bytes_room {m z : Nat} (l : List UInt8) (h : z = m) : bytesOf (((fzoL (List.replicate m (.v (.int .u8 0)) ++ l.map bc)).map fun c => [c]).drop z) = some l := by
  subst h
  rw [fzoL_bc, List.map_append, List.drop_append_of_le_length (by simp), List.drop_eq_nil_of_le (by simp), List.nil_append, List.map_map]
  exact bytesOf_map l

theorem digit_eq {k : Int} : IntKind.u8.wrap (48 + IntKind.u8.wrap (if IntKind.i64.wrap (0 - k.tmod 10) > k.tmod 10 then IntKind.i64.wrap (0 - k.tmod 10) else k.tmod 10)) = ((dig k.natAbs).toNat : Int) := by
  have h1 : -9 ≤ k.tmod 10 ∧ k.tmod 10 ≤ 9 := by
    have := Int.tmod_lt_of_pos k (b := 10) (by omega)
    have h2 := Int.lt_tmod_of_pos k (b := 10) (by omega)
    omega
  have h3 : (k.tmod 10).natAbs = k.natAbs % 10 := by rw [Int.natAbs_tmod]; rfl
  have h4 : (if IntKind.i64.wrap (0 - k.tmod 10) > k.tmod 10 then IntKind.i64.wrap (0 - k.tmod 10) else k.tmod 10) = ((k.natAbs % 10 : Nat) : Int) := by
    rw [w64 (by omega) (by omega)]
    split <;> omega
  have h5 : k.natAbs % 10 < 10 := Nat.mod_lt _ (by omega)
  have h6 : IntKind.u8.wrap ((k.natAbs % 10 : Nat) : Int) = ((k.natAbs % 10 : Nat) : Int) := w8 (by omega) (by omega)
  rw [h4, dig_toNat, h6, w8 (by omega) (by omega)]
  omega

theorem room_set {m : Nat} {z : Nat} (l : List UInt8) (b : UInt8) (h : m = z + 1) : (List.replicate m (HV.v (.int .u8 0)) ++ l.map bc).take z ++ ([bc b] ++ (List.replicate m (HV.v (.int .u8 0)) ++ l.map bc).drop (z + 1)) = List.replicate z (.v (.int .u8 0)) ++ (b :: l).map bc := by
  subst h
  rw [List.take_append_of_le_length (by simp), List.take_replicate, List.drop_append_of_le_length (by simp)]
  simp

theorem Dig.tdiv {n k : Int} {j : Nat} {ds : List UInt8} (h : Dig n j k ds) (hn : inI n) : IntKind.i64.wrap (k.tdiv 10) = k.tdiv 10 := by
  obtain ⟨h1, h2, h3, h4, h5, h6, h7⟩ := h
  unfold inI at hn
  have h8 : k.natAbs ≤ n.natAbs := by rw [h5]; exact Nat.div_le_self _ _
  have ht : (k.tdiv 10).natAbs = k.natAbs / 10 := by rw [Int.natAbs_tdiv]; rfl
  exact w64 (by omega) (by omega)

theorem numText (n : Int) (hn : inI n) : HFn Tryd.prog 38 [.v (.int .i64 n)] (.v (str (textB n))) := by
  refine HCalls_body (fn := Tryd.f38) 36 [2] (by kernel_rfl) rfl (by kernel_rfl) (HW.run 400 (by kernel_rfl) ?_)
  simp (config := { decide := true }) only [go_sem, Int.reduceToNat, Nat.reduceAdd, Nat.reduceSub, Nat.reduceMul, Nat.reduceBEq, reduceIte, reduceCtorEq]
  refine HW.loopG (fun μ T H => ∃ (j : Nat) (k : Int) (ds : List UInt8), μ = 21 - j ∧ j ≤ 19 ∧ Dig n j k ds ∧ T 0 = .v (.int .i64 n) ∧ T 3 = .pt 0 1 0 0 ∧ T 4 = .v (.int .i64 (20 - j)) ∧ T 5 = .v (.int .i64 k) ∧
    H = [some ⟨81, 20, [List.replicate (20 - j) (.v (.int .u8 0)) ++ ds.map bc]⟩]) 21
    ⟨_, _, Ghost.refl, 0, n, [], by simp, by omega, Dig.zero n, rfl, rfl, rfl, rfl, rfl⟩ ?_
  rintro μ T H ⟨j, k, ds, rfl, hj, hD, h0, h3, h4, h5, rfl⟩
  refine HW.run 200 (by kernel_rfl) ?_
  have e1 : IntKind.i64.wrap (20 - (j : Int) - 1) = 19 - (j : Int) := by rw [w64 (by omega) (by omega)]; omega
  have e2 : (19 - (j : Int)).toNat = 19 - j := by omega
  have e3 : (0 : Int) ≤ 19 - (j : Int) ∧ 19 - (j : Int) < 20 := by omega
  have e4 := hD.tdiv hn
  by_cases hk : k ≠ 0 ∨ j = 0
  · have hj2 : j ≤ 18 := by
      rcases hk with h | h
      · exact hD.room hn h
      · omega
    have hD' := hD.step hk
    have fin : ∀ T' : Nat → HV, T' 0 = .v (.int .i64 n) → T' 3 = .pt 0 1 0 0 → T' 4 = .v (.int .i64 (19 - (j : Int))) → T' 5 = .v (.int .i64 (k.tdiv 10)) → ∀ row, row = List.replicate (20 - (j + 1)) (.v (.int .u8 0)) ++ (dig k.natAbs :: ds).map bc →
        GQ 36 0 (fun T' H' => ∃ k', k' < 21 - j ∧ ∃ j k ds, k' = 21 - j ∧ j ≤ 19 ∧ Dig n j k ds ∧ T' 0 = .v (.int .i64 n) ∧ T' 3 = .pt 0 1 0 0 ∧ T' 4 = .v (.int .i64 (20 - j)) ∧ T' 5 = .v (.int .i64 k) ∧
          H' = [some ⟨81, 20, [List.replicate (20 - j) (.v (.int .u8 0)) ++ ds.map bc]⟩]) T' [some ⟨81, 20, [row]⟩] := by
      rintro T' g0 g3 g4 g5 row rfl
      refine ⟨_, _, Ghost.refl, 21 - (j + 1), by omega, j + 1, _, _, rfl, by omega, hD', g0, g3, ?_, g5, rfl⟩
      rw [g4]; congr 2; omega
    have hk0 : (k = 0) = True ∨ (k = 0) = False := by by_cases h : k = 0 <;> simp [h]
    rcases hk0 with hk0 | hk0
    · have hj0 : j = 0 := by rcases hk with h | h; exact absurd (of_eq_true hk0) h; exact h
      subst hj0
      simp (config := { decide := true }) only [go_sem, Int.reduceToNat, Nat.reduceAdd, Nat.reduceSub, Nat.reduceMul, Nat.reduceBEq, reduceIte, reduceCtorEq, h0, h3, h4, h5, hk0, e1, e2, e3, e4, digit_eq]
      refine fin _ ?_ ?_ ?_ ?_ _ ?_
      iterate 4
        · simp (config := { decide := true }) only [go_sem, Nat.reduceBEq, reduceIte, h0, h3]
      · simp only [List.append_assoc]; exact room_set ds (dig k.natAbs) (z := 19) rfl
    · simp (config := { decide := true }) only [go_sem, Int.reduceToNat, Nat.reduceAdd, Nat.reduceSub, Nat.reduceMul, Nat.reduceBEq, reduceIte, reduceCtorEq, h0, h3, h4, h5, hk0, e1, e2, e3, e4, digit_eq]
      refine ⟨by omega, by omega, fin _ ?_ ?_ ?_ ?_ _ ?_⟩
      iterate 4
        · simp (config := { decide := true }) only [go_sem, Nat.reduceBEq, reduceIte, h0, h3]
      · simp only [List.append_assoc, Nat.mul_one]
        rw [show 20 - (j + 1) = 19 - j by omega]
        exact room_set ds (dig k.natAbs) (z := 19 - j) (by omega)
  · have hk0 : k = 0 := by
      rcases Classical.em (k = 0) with h | h
      · exact h
      · exact absurd (.inl h) hk
    have hj1 : 1 ≤ j := by omega
    subst hk0
    obtain ⟨hj2, hd⟩ := hD.room0 hn hj1 rfl
    have hne : ¬ (20 - (j : Int) = 20) := by omega
    have e5 : (20 - (j : Int)).toNat = 20 - j := by omega
    by_cases hneg : n < 0
    · simp (config := { decide := true }) only [go_sem, Int.reduceToNat, Nat.reduceAdd, Nat.reduceSub, Nat.reduceMul, Nat.reduceBEq, reduceIte, reduceCtorEq, h0, h3, h4, h5, hne, hneg, e1, e2, e3, e4]
      have hb : bytesOf (List.drop (19 - j) (List.map (fun c => [c]) (fzoL (List.take ((19 - j) * 1) (List.replicate (20 - j) (HV.v (Value.int IntKind.u8 0)) ++ List.map bc ds) ++ [HV.v (Value.int IntKind.u8 45)] ++
          List.drop ((19 - j) * 1 + 1) (List.replicate (20 - j) (HV.v (Value.int IntKind.u8 0)) ++ List.map bc ds))))) = some (45 :: ds) := by
        rw [List.append_assoc, Nat.mul_one]
        have := room_set ds 45 (z := 19 - j) (m := 20 - j) (by omega)
        rw [show [HV.v (Value.int IntKind.u8 45)] = [bc 45] from rfl, this]
        exact bytes_room _ rfl
      refine ⟨by omega, by omega, ⟨by rw [List.length_take, List.length_drop]; simp [hD.1]; omega, by omega⟩, ?_⟩
      rw [hb]
      simp (config := { decide := true }) only [go_sem, Int.reduceToNat, Nat.reduceAdd, Nat.reduceSub, Nat.reduceMul, Nat.reduceBEq, reduceIte, reduceCtorEq]
      unfold textB
      rw [if_pos hneg, hd]
    · simp (config := { decide := true }) only [go_sem, Int.reduceToNat, Nat.reduceAdd, Nat.reduceSub, Nat.reduceMul, Nat.reduceBEq, reduceIte, reduceCtorEq, h0, h3, h4, h5, hne, hneg, e1, e2, e3, e5]
      refine ⟨⟨by simp [hD.1]; omega, by omega, by omega⟩, ?_⟩
      rw [bytes_room ds rfl]
      simp (config := { decide := true }) only [go_sem, Int.reduceToNat, Nat.reduceAdd, Nat.reduceSub, Nat.reduceMul, Nat.reduceBEq, reduceIte, reduceCtorEq]
      unfold textB
      rw [if_neg hneg, hd]
end Go.Proofs.YtcpefnjofekibaaDoor

/- Ops: numbers' texts, as the document has them. -/
namespace Go.Proofs.YtcpefnjofekibaaDoor
open Go.RowKit
set_option linter.unusedVariables false
set_option linter.unusedSimpArgs false
set_option maxRecDepth 8000

theorem textB_zero : textB 0 = [48] := by
  unfold textB
  rw [if_neg (by omega), dB_lt (by decide)]
  rfl

theorem tmod_bd (k : Int) : -9 ≤ k.tmod 10 ∧ k.tmod 10 ≤ 9 := by
  have := Int.tmod_lt_of_pos k (b := 10) (by omega)
  have h2 := Int.lt_tmod_of_pos k (b := 10) (by omega)
  omega
theorem tmod_abs (k : Int) : (k.tmod 10).natAbs = k.natAbs % 10 := by rw [Int.natAbs_tmod]; rfl

theorem dig_neg {k : Int} (h : k.tmod 10 < 0) : UInt8.ofNat (IntKind.u8.wrap (IntKind.i64.wrap (48 + IntKind.i64.wrap (0 - k.tmod 10)))).toNat = dig k.natAbs := by
  have h1 := tmod_bd k
  have h2 := tmod_abs k
  rw [w64 (x := 0 - k.tmod 10) (by omega) (by omega), w64 (by omega) (by omega), w8 (by omega) (by omega)]
  unfold dig
  congr 1
  omega
theorem dig_pos {k : Int} (h : ¬ k.tmod 10 < 0) : UInt8.ofNat (IntKind.u8.wrap (IntKind.i64.wrap (48 + k.tmod 10))).toNat = dig k.natAbs := by
  have h1 := tmod_bd k
  have h2 := tmod_abs k
  rw [w64 (by omega) (by omega), w8 (by omega) (by omega)]
  unfold dig
  congr 1
  omega

theorem refText (n : Int) (hn : inI n) : HFn Tryd.prog 37 [.v (.int .i64 n)] (.v (str (textB n))) := by
  refine HCalls_body (fn := Tryd.f37) 31 [2] (by kernel_rfl) rfl (by kernel_rfl) (HW.run 400 (by kernel_rfl) ?_)
  by_cases hn0 : n = 0
  · subst hn0
    simp (config := { decide := true }) only [go_sem, Int.reduceToNat, Nat.reduceAdd, Nat.reduceSub, Nat.reduceMul, Nat.reduceBEq, reduceIte, reduceCtorEq]
    rw [textB_zero]
  simp (config := { decide := true }) only [go_sem, Int.reduceToNat, Nat.reduceAdd, Nat.reduceSub, Nat.reduceMul, Nat.reduceBEq, reduceIte, reduceCtorEq, hn0]
  refine HW.loopG (fun μ T H => ∃ (j : Nat) (k : Int) (ds : List UInt8), μ = 21 - j ∧ j ≤ 19 ∧ Dig n j k ds ∧ T 0 = .v (.int .i64 n) ∧ T 3 = .v (str ds) ∧ T 4 = .v (.int .i64 k) ∧ H = []) 21
    ⟨_, _, Ghost.refl, 0, n, [], by simp, by omega, Dig.zero n, rfl, rfl, rfl, rfl⟩ ?_
  rintro μ T H ⟨j, k, ds, rfl, hj, hD, h0, h3, h4, rfl⟩
  refine HW.run 200 (by kernel_rfl) ?_
  have e4 := hD.tdiv hn
  have hlen := hD.1
  by_cases hk : k = 0
  · subst hk
    by_cases hneg : n < 0
    · simp (config := { decide := true }) only [go_sem, Int.reduceToNat, Nat.reduceAdd, Nat.reduceSub, Nat.reduceMul, Nat.reduceBEq, reduceIte, reduceCtorEq, h0, h3, h4, hneg]
      have hj1 : 1 ≤ j := by
        rcases Nat.eq_zero_or_pos j with h | h
        · exact absurd (hD.2.2.2.1 h).symm hn0
        · exact h
      obtain ⟨_, hd⟩ := hD.room0 hn hj1 rfl
      refine ⟨by omega, ?_⟩
      unfold textB
      rw [if_pos hneg, hd]
    · simp (config := { decide := true }) only [go_sem, Int.reduceToNat, Nat.reduceAdd, Nat.reduceSub, Nat.reduceMul, Nat.reduceBEq, reduceIte, reduceCtorEq, h0, h3, h4, hneg]
      have hj1 : 1 ≤ j := by
        rcases Nat.eq_zero_or_pos j with h | h
        · exact absurd (hD.2.2.2.1 h).symm hn0
        · exact h
      obtain ⟨_, hd⟩ := hD.room0 hn hj1 rfl
      unfold textB
      rw [if_neg hneg, hd]
  · have hj2 := hD.room hn hk
    have hD' := hD.step (.inl hk)
    by_cases hd : k.tmod 10 < 0
    · simp (config := { decide := true }) only [go_sem, Int.reduceToNat, Nat.reduceAdd, Nat.reduceSub, Nat.reduceMul, Nat.reduceBEq, reduceIte, reduceCtorEq, h0, h3, h4, hk, hd, e4, dig_neg hd]
      repeat refine And.intro (by omega) ?_
      refine ⟨_, _, Ghost.trunc [0, 3, 4] 0 (by omega) ?_ ?_, 21 - (j + 1), by omega, j + 1, _, _, rfl, by omega, hD', ?_, ?_, ?_, ?_⟩
      · simp (config := { decide := true }) only [go_sem, Nat.reduceBEq, reduceIte, h0]
      · simp (config := { decide := true }) only [go_sem, Nat.reduceBEq, reduceIte]
      · simp (config := { decide := true }) only [go_sem, Nat.reduceBEq, reduceIte, h0]
      · simp (config := { decide := true }) only [go_sem, Nat.reduceBEq, reduceIte]
      · simp (config := { decide := true }) only [go_sem, Nat.reduceBEq, reduceIte]
      · rfl
    · simp (config := { decide := true }) only [go_sem, Int.reduceToNat, Nat.reduceAdd, Nat.reduceSub, Nat.reduceMul, Nat.reduceBEq, reduceIte, reduceCtorEq, h0, h3, h4, hk, hd, e4, dig_pos hd]
      repeat refine And.intro (by omega) ?_
      refine ⟨_, _, Ghost.trunc [0, 3, 4] 0 (by omega) ?_ ?_, 21 - (j + 1), by omega, j + 1, _, _, rfl, by omega, hD', ?_, ?_, ?_, ?_⟩
      · simp (config := { decide := true }) only [go_sem, Nat.reduceBEq, reduceIte, h0]
      · simp (config := { decide := true }) only [go_sem, Nat.reduceBEq, reduceIte]
      · simp (config := { decide := true }) only [go_sem, Nat.reduceBEq, reduceIte, h0]
      · simp (config := { decide := true }) only [go_sem, Nat.reduceBEq, reduceIte]
      · simp (config := { decide := true }) only [go_sem, Nat.reduceBEq, reduceIte]
      · rfl

/-! the number of a text -/
/-- The sign that a text begins with: 1 for a minus, and 0. -/
def sgnAt (s : List UInt8) : Nat := if s.head? = some 45 then 1 else 0
def sgnOf (s : List UInt8) : Int := if s.head? = some 45 then -1 else 1

theorem numB_parts {s : List UInt8} (h : (numB s).2 = true) : (numB s).1 = sgnOf s * (dval 0 (s.drop (sgnAt s)) : Int) ∧ (s.drop (sgnAt s)).all isDig = true ∧ s.length ≤ 20 := by
  have hl : s.length ≤ 20 := by
    have := numB_true h
    rw [← this.2]; exact textB_length this.1
  unfold sgnOf sgnAt
  by_cases hs : s.head? = some 45
  · cases s with
    | nil => simp at hs
    | cons x r =>
      simp only [List.head?_cons, Option.some.injEq] at hs
      subst hs
      rw [numB_neg] at h ⊢
      split at h
      · rename_i hc
        rw [if_pos hc]
        simp only [List.head?_cons, if_true, List.drop_one, List.tail_cons]
        exact ⟨by omega, (canonB_digs hc.1).1, hl⟩
      · simp at h
  · rw [numB_pos hs] at h ⊢
    split at h
    · rename_i hc
      rw [if_pos hc]
      simp only [hs, if_false, List.drop_zero]
      exact ⟨by omega, (canonB_digs hc.1).1, hl⟩
    · simp at h

theorem wrap_in (x : Int) : inI (IntKind.i64.wrap x) := by
  unfold inI
  rw [IntKind.wrap_i64]
  omega

theorem wrap_step (x y : Int) : IntKind.i64.wrap (IntKind.i64.wrap (IntKind.i64.wrap x * 10) + y) = IntKind.i64.wrap (x * 10 + y) := by
  simp only [IntKind.wrap_i64]
  omega

theorem numB_none {s : List UInt8} (h : (numB s).2 ≠ true) : numB s = (0, false) := numB_false (by cases hb : (numB s).2 <;> simp_all)

/-- What is said at the end. -/
theorem numB_end {s : List UInt8} {w : Int} (hw : s.length ≤ 20 → w = IntKind.i64.wrap (sgnOf s * (dval 0 (s.drop (sgnAt s)) : Int))) (hin : inI w) :
    (textB w = s → numB s = (w, true)) ∧ (textB w ≠ s → numB s = (0, false)) := by
  refine ⟨fun h => by rw [← h]; exact numB_text hin, fun h => numB_none fun hc => h ?_⟩
  obtain ⟨e1, e2, e3⟩ := numB_parts hc
  obtain ⟨e4, e5⟩ := numB_true hc
  have : w = (numB s).1 := by
    rw [hw e3, ← e1]
    unfold inI at e4
    exact w64 e4.1 e4.2
  rw [this]; exact e5

theorem byte_lt {b : UInt8} : ((b.toNat : Int) < 48) = (b.toNat < 48) := by simp only [eq_iff_iff]; omega
theorem byte_gt {b : UInt8} : ((57 : Int) < (b.toNat : Int)) = (57 < b.toNat) := by simp only [eq_iff_iff]; omega
theorem byte_45 {b : UInt8} : ((b.toNat : Int) = 45) = (b = 45) := by
  have : ((45 : UInt8).toNat : Int) = 45 := rfl
  rw [← this, byteEq]

theorem dig_sub {b : UInt8} (h1 : ¬ b.toNat < 48) (h2 : ¬ 57 < b.toNat) : IntKind.i64.wrap (IntKind.u8.wrap ((b.toNat : Int) - 48)) = ((b.toNat - 48 : Nat) : Int) := by
  rw [w8 (by omega) (by omega), w64 (by omega) (by omega)]; omega

theorem take_step {s : List UInt8} {a i : Nat} (ha : a ≤ i) (hi : i < s.length) : (s.take (i + 1)).drop a = (s.take i).drop a ++ [s[i]] := by
  rw [List.take_add_one, List.getElem?_eq_getElem hi, List.drop_append_of_le_length (by simp; omega)]
  rfl

theorem refGet (s : List UInt8) (hs : s.length ≤ 1000000) : HFn Tryd.prog 28 [.v (str s)] (.tu [.v (.int .i64 (numB s).1), .v (.bool (numB s).2)]) := by
  refine HCalls_body (fn := Tryd.f28) 56 [2, 3] (by kernel_rfl) rfl (by kernel_rfl) (HW.run 400 (by kernel_rfl) ?_)
  have hal : sgnAt s ≤ s.length := by
    unfold sgnAt; split
    · cases s with
      | nil => rename_i h; simp at h
      | cons x r => simp
    · omega
  have hcase : (s = [] ∧ sgnAt s = 0 ∧ sgnOf s = 1) ∨ (∃ x r, s = x :: r ∧ x ≠ 45 ∧ sgnAt s = 0 ∧ sgnOf s = 1) ∨ (∃ r, s = 45 :: r ∧ sgnAt s = 1 ∧ sgnOf s = -1) := by
    cases s with
    | nil => exact .inl ⟨rfl, rfl, rfl⟩
    | cons x r =>
      by_cases hx : x = 45
      · subst hx; exact .inr (.inr ⟨r, rfl, rfl, rfl⟩)
      · refine .inr (.inl ⟨x, r, rfl, hx, ?_, ?_⟩)
        · unfold sgnAt; rw [if_neg (by simpa using hx)]
        · unfold sgnOf; rw [if_neg (by simpa using hx)]
  let J := fun (μ : Nat) (T : Nat → HV) (H : Heap) => ∃ (i : Nat), μ = s.length - i ∧ sgnAt s ≤ i ∧ i ≤ s.length ∧ ((s.take i).drop (sgnAt s)).all isDig = true ∧ T 0 = .v (str s) ∧ T 4 = .v (.int .i64 (sgnAt s)) ∧ T 5 = .v (.int .i64 (IntKind.i64.wrap (sgnOf s * (dval 0 ((s.take i).drop (sgnAt s)) : Int)))) ∧ T 6 = .v (.int .i64 i) ∧ H = []
  have hent : ((s.take (sgnAt s)).drop (sgnAt s)) = [] := List.drop_eq_nil_of_le (by simp; omega)
  have hw0 : IntKind.i64.wrap (sgnOf s * (dval 0 ((s.take (sgnAt s)).drop (sgnAt s)) : Int)) = 0 := by
    rw [hent, dval_nil]; simp; rfl
  rcases hcase with ⟨he, ha0, hsg⟩ | ⟨x, r, he, hx, ha0, hsg⟩ | ⟨r, he, ha0, hsg⟩
  · have hlen : s.length = 0 := by rw [he]; rfl
    simp (config := { decide := true }) only [go_sem, Int.reduceToNat, Nat.reduceAdd, Nat.reduceSub, Nat.reduceMul, Nat.reduceBEq, reduceIte, reduceCtorEq, hlen]
    have hat : (((sgnAt s : Nat) : Int) = 1) = False := by rw [ha0]; simp
    refine HW.loopG J (s.length - sgnAt s) ⟨_, _, Ghost.refl, sgnAt s, rfl, by omega, hal, by rw [hent]; rfl, rfl, ?_, ?_, ?_, rfl⟩ ?_
    · rw [ha0]; rfl
    · rw [hw0]; rfl
    · rw [ha0]; rfl
    · rintro μ T H ⟨i, rfl, hai, hi, hd, h0, h4, h5, h6, rfl⟩
      refine HW.run 400 (by kernel_rfl) ?_
      by_cases hlt : i < s.length
      · have hlt' : (i : Int) < (s.length : Int) := by omega
        by_cases h20 : s.length ≤ 20
        · have h20' : (s.length : Int) ≤ 20 := by omega
          have hx : s[i]? = some s[i] := List.getElem?_eq_getElem hlt
          have hmem : s[i] ∈ s.drop (sgnAt s) := by
            rw [List.mem_iff_getElem?]
            exact ⟨i - sgnAt s, by rw [List.getElem?_drop, show sgnAt s + (i - sgnAt s) = i by omega]; exact hx⟩
          by_cases hb1 : s[i].toNat < 48
          · simp (config := { decide := true }) only [go_sem, Int.reduceToNat, Nat.reduceAdd, Nat.reduceSub, Nat.reduceMul, Nat.reduceBEq, reduceIte, reduceCtorEq, h0, h4, h5, h6, hlt', h20', hx, byte_lt, byte_gt, hb1]
            have : numB s = (0, false) := numB_none fun hc => by
              have := List.all_eq_true.1 (numB_parts hc).2.1 _ hmem
              simp only [isDig, Bool.and_eq_true, decide_eq_true_eq] at this
              omega
            rw [this]
          · by_cases hb2 : 57 < s[i].toNat
            · simp (config := { decide := true }) only [go_sem, Int.reduceToNat, Nat.reduceAdd, Nat.reduceSub, Nat.reduceMul, Nat.reduceBEq, reduceIte, reduceCtorEq, h0, h4, h5, h6, hlt', h20', hx, byte_lt, byte_gt, hb1, hb2]
              have : numB s = (0, false) := numB_none fun hc => by
                have := List.all_eq_true.1 (numB_parts hc).2.1 _ hmem
                simp only [isDig, Bool.and_eq_true, decide_eq_true_eq] at this
                omega
              rw [this]
            · have hdg : isDig s[i] = true := by simp only [isDig, Bool.and_eq_true, decide_eq_true_eq]; omega
              simp (config := { decide := true }) only [go_sem, Int.reduceToNat, Nat.reduceAdd, Nat.reduceSub, Nat.reduceMul, Nat.reduceBEq, reduceIte, reduceCtorEq, h0, h4, h5, h6, hlt', h20', hx, byte_lt, byte_gt, hb1, hb2, hat]
              refine ⟨_, _, Ghost.refl, s.length - (i + 1), by omega, i + 1, rfl, by omega, by omega, ?_, ?_, ?_, ?_, ?_, rfl⟩
              · rw [take_step hai hlt, List.all_append, hd]; simp [hdg]
              · simp (config := { decide := true }) only [go_sem, Nat.reduceBEq, reduceIte, h0]
              · simp (config := { decide := true }) only [go_sem, Nat.reduceBEq, reduceIte, h4]
              · simp (config := { decide := true }) only [go_sem, Nat.reduceBEq, reduceIte]
                rw [dig_sub hb1 hb2, take_step hai hlt, dval_snoc]
                have e9 : ((s[i].toNat - 48 : Nat) : Int) ≤ 9 := by omega
                first
                  | (rw [wrap_step]; congr 3; rw [hsg]; omega)
                  | (rw [w64 (x := 0 - ((s[i].toNat - 48 : Nat) : Int)) (by omega) (by omega), wrap_step]; congr 3; rw [hsg]; omega)
              · simp (config := { decide := true }) only [go_sem, Nat.reduceBEq, reduceIte]
                rw [w64 (by omega) (by omega)]; rfl
        · have h20' : ¬ (s.length : Int) ≤ 20 := by omega
          simp (config := { decide := true }) only [go_sem, Int.reduceToNat, Nat.reduceAdd, Nat.reduceSub, Nat.reduceMul, Nat.reduceBEq, reduceIte, reduceCtorEq, h0, h4, h5, h6, hlt', h20']
          refine callX_fn 3 (refText (IntKind.i64.wrap (sgnOf s * (dval 0 ((s.take i).drop (sgnAt s)) : Int))) (wrap_in _)) (by simp only [go_sem]) rfl ?_
          simp (config := { decide := true }) only [go_sem, Int.reduceToNat, Nat.reduceAdd, Nat.reduceSub, Nat.reduceMul, Nat.reduceBEq, reduceIte, reduceCtorEq, h0, h5]
          obtain ⟨k1, k2⟩ := numB_end (s := s) (w := IntKind.i64.wrap (sgnOf s * (dval 0 ((s.take i).drop (sgnAt s)) : Int))) (fun h => absurd h h20) (wrap_in _)
          exact ⟨fun h => by rw [k2 h], fun h => by rw [k1 h]⟩
      · have hlt' : ¬ (i : Int) < (s.length : Int) := by omega
        have hil : i = s.length := by omega
        simp (config := { decide := true }) only [go_sem, Int.reduceToNat, Nat.reduceAdd, Nat.reduceSub, Nat.reduceMul, Nat.reduceBEq, reduceIte, reduceCtorEq, h0, h4, h5, h6, hlt']
        refine callX_fn 3 (refText (IntKind.i64.wrap (sgnOf s * (dval 0 ((s.take i).drop (sgnAt s)) : Int))) (wrap_in _)) (by simp only [go_sem]) rfl ?_
        simp (config := { decide := true }) only [go_sem, Int.reduceToNat, Nat.reduceAdd, Nat.reduceSub, Nat.reduceMul, Nat.reduceBEq, reduceIte, reduceCtorEq, h0, h5]
        obtain ⟨k1, k2⟩ := numB_end (s := s) (w := IntKind.i64.wrap (sgnOf s * (dval 0 ((s.take i).drop (sgnAt s)) : Int))) (fun h => by rw [hil, List.take_length]) (wrap_in _)
        exact ⟨fun h => by rw [k2 h], fun h => by rw [k1 h]⟩
  · have hlen : (0 : Int) < (s.length : Int) := by rw [he]; simp
    have h0' : s[0]? = some x := by rw [he]; rfl
    have hx' : ¬ ((x.toNat : Int) = 45) := by rw [byte_45]; exact hx
    simp (config := { decide := true }) only [go_sem, Int.reduceToNat, Nat.reduceAdd, Nat.reduceSub, Nat.reduceMul, Nat.reduceBEq, reduceIte, reduceCtorEq, hlen, h0', hx']
    have hat : (((sgnAt s : Nat) : Int) = 1) = False := by rw [ha0]; simp
    refine HW.loopG J (s.length - sgnAt s) ⟨_, _, Ghost.refl, sgnAt s, rfl, by omega, hal, by rw [hent]; rfl, rfl, ?_, ?_, ?_, rfl⟩ ?_
    · rw [ha0]; rfl
    · rw [hw0]; rfl
    · rw [ha0]; rfl
    · rintro μ T H ⟨i, rfl, hai, hi, hd, h0, h4, h5, h6, rfl⟩
      refine HW.run 400 (by kernel_rfl) ?_
      by_cases hlt : i < s.length
      · have hlt' : (i : Int) < (s.length : Int) := by omega
        by_cases h20 : s.length ≤ 20
        · have h20' : (s.length : Int) ≤ 20 := by omega
          have hx : s[i]? = some s[i] := List.getElem?_eq_getElem hlt
          have hmem : s[i] ∈ s.drop (sgnAt s) := by
            rw [List.mem_iff_getElem?]
            exact ⟨i - sgnAt s, by rw [List.getElem?_drop, show sgnAt s + (i - sgnAt s) = i by omega]; exact hx⟩
          by_cases hb1 : s[i].toNat < 48
          · simp (config := { decide := true }) only [go_sem, Int.reduceToNat, Nat.reduceAdd, Nat.reduceSub, Nat.reduceMul, Nat.reduceBEq, reduceIte, reduceCtorEq, h0, h4, h5, h6, hlt', h20', hx, byte_lt, byte_gt, hb1]
            have : numB s = (0, false) := numB_none fun hc => by
              have := List.all_eq_true.1 (numB_parts hc).2.1 _ hmem
              simp only [isDig, Bool.and_eq_true, decide_eq_true_eq] at this
              omega
            rw [this]
          · by_cases hb2 : 57 < s[i].toNat
            · simp (config := { decide := true }) only [go_sem, Int.reduceToNat, Nat.reduceAdd, Nat.reduceSub, Nat.reduceMul, Nat.reduceBEq, reduceIte, reduceCtorEq, h0, h4, h5, h6, hlt', h20', hx, byte_lt, byte_gt, hb1, hb2]
              have : numB s = (0, false) := numB_none fun hc => by
                have := List.all_eq_true.1 (numB_parts hc).2.1 _ hmem
                simp only [isDig, Bool.and_eq_true, decide_eq_true_eq] at this
                omega
              rw [this]
            · have hdg : isDig s[i] = true := by simp only [isDig, Bool.and_eq_true, decide_eq_true_eq]; omega
              simp (config := { decide := true }) only [go_sem, Int.reduceToNat, Nat.reduceAdd, Nat.reduceSub, Nat.reduceMul, Nat.reduceBEq, reduceIte, reduceCtorEq, h0, h4, h5, h6, hlt', h20', hx, byte_lt, byte_gt, hb1, hb2, hat]
              refine ⟨_, _, Ghost.refl, s.length - (i + 1), by omega, i + 1, rfl, by omega, by omega, ?_, ?_, ?_, ?_, ?_, rfl⟩
              · rw [take_step hai hlt, List.all_append, hd]; simp [hdg]
              · simp (config := { decide := true }) only [go_sem, Nat.reduceBEq, reduceIte, h0]
              · simp (config := { decide := true }) only [go_sem, Nat.reduceBEq, reduceIte, h4]
              · simp (config := { decide := true }) only [go_sem, Nat.reduceBEq, reduceIte]
                rw [dig_sub hb1 hb2, take_step hai hlt, dval_snoc]
                have e9 : ((s[i].toNat - 48 : Nat) : Int) ≤ 9 := by omega
                first
                  | (rw [wrap_step]; congr 3; rw [hsg]; omega)
                  | (rw [w64 (x := 0 - ((s[i].toNat - 48 : Nat) : Int)) (by omega) (by omega), wrap_step]; congr 3; rw [hsg]; omega)
              · simp (config := { decide := true }) only [go_sem, Nat.reduceBEq, reduceIte]
                rw [w64 (by omega) (by omega)]; rfl
        · have h20' : ¬ (s.length : Int) ≤ 20 := by omega
          simp (config := { decide := true }) only [go_sem, Int.reduceToNat, Nat.reduceAdd, Nat.reduceSub, Nat.reduceMul, Nat.reduceBEq, reduceIte, reduceCtorEq, h0, h4, h5, h6, hlt', h20']
          refine callX_fn 3 (refText (IntKind.i64.wrap (sgnOf s * (dval 0 ((s.take i).drop (sgnAt s)) : Int))) (wrap_in _)) (by simp only [go_sem]) rfl ?_
          simp (config := { decide := true }) only [go_sem, Int.reduceToNat, Nat.reduceAdd, Nat.reduceSub, Nat.reduceMul, Nat.reduceBEq, reduceIte, reduceCtorEq, h0, h5]
          obtain ⟨k1, k2⟩ := numB_end (s := s) (w := IntKind.i64.wrap (sgnOf s * (dval 0 ((s.take i).drop (sgnAt s)) : Int))) (fun h => absurd h h20) (wrap_in _)
          exact ⟨fun h => by rw [k2 h], fun h => by rw [k1 h]⟩
      · have hlt' : ¬ (i : Int) < (s.length : Int) := by omega
        have hil : i = s.length := by omega
        simp (config := { decide := true }) only [go_sem, Int.reduceToNat, Nat.reduceAdd, Nat.reduceSub, Nat.reduceMul, Nat.reduceBEq, reduceIte, reduceCtorEq, h0, h4, h5, h6, hlt']
        refine callX_fn 3 (refText (IntKind.i64.wrap (sgnOf s * (dval 0 ((s.take i).drop (sgnAt s)) : Int))) (wrap_in _)) (by simp only [go_sem]) rfl ?_
        simp (config := { decide := true }) only [go_sem, Int.reduceToNat, Nat.reduceAdd, Nat.reduceSub, Nat.reduceMul, Nat.reduceBEq, reduceIte, reduceCtorEq, h0, h5]
        obtain ⟨k1, k2⟩ := numB_end (s := s) (w := IntKind.i64.wrap (sgnOf s * (dval 0 ((s.take i).drop (sgnAt s)) : Int))) (fun h => by rw [hil, List.take_length]) (wrap_in _)
        exact ⟨fun h => by rw [k2 h], fun h => by rw [k1 h]⟩
  · have hlen : (0 : Int) < (s.length : Int) := by rw [he]; simp
    have h0' : s[0]? = some 45 := by rw [he]; rfl
    have hx' : ((45 : UInt8).toNat : Int) = 45 := rfl
    simp (config := { decide := true }) only [go_sem, Int.reduceToNat, Nat.reduceAdd, Nat.reduceSub, Nat.reduceMul, Nat.reduceBEq, reduceIte, reduceCtorEq, hlen, h0', hx']
    have hat : (((sgnAt s : Nat) : Int) = 1) = True := by rw [ha0]; simp
    refine HW.loopG J (s.length - sgnAt s) ⟨_, _, Ghost.refl, sgnAt s, rfl, by omega, hal, by rw [hent]; rfl, rfl, ?_, ?_, ?_, rfl⟩ ?_
    · rw [ha0]; rfl
    · rw [hw0]; rfl
    · rw [ha0]; rfl
    · rintro μ T H ⟨i, rfl, hai, hi, hd, h0, h4, h5, h6, rfl⟩
      refine HW.run 400 (by kernel_rfl) ?_
      by_cases hlt : i < s.length
      · have hlt' : (i : Int) < (s.length : Int) := by omega
        by_cases h20 : s.length ≤ 20
        · have h20' : (s.length : Int) ≤ 20 := by omega
          have hx : s[i]? = some s[i] := List.getElem?_eq_getElem hlt
          have hmem : s[i] ∈ s.drop (sgnAt s) := by
            rw [List.mem_iff_getElem?]
            exact ⟨i - sgnAt s, by rw [List.getElem?_drop, show sgnAt s + (i - sgnAt s) = i by omega]; exact hx⟩
          by_cases hb1 : s[i].toNat < 48
          · simp (config := { decide := true }) only [go_sem, Int.reduceToNat, Nat.reduceAdd, Nat.reduceSub, Nat.reduceMul, Nat.reduceBEq, reduceIte, reduceCtorEq, h0, h4, h5, h6, hlt', h20', hx, byte_lt, byte_gt, hb1]
            have : numB s = (0, false) := numB_none fun hc => by
              have := List.all_eq_true.1 (numB_parts hc).2.1 _ hmem
              simp only [isDig, Bool.and_eq_true, decide_eq_true_eq] at this
              omega
            rw [this]
          · by_cases hb2 : 57 < s[i].toNat
            · simp (config := { decide := true }) only [go_sem, Int.reduceToNat, Nat.reduceAdd, Nat.reduceSub, Nat.reduceMul, Nat.reduceBEq, reduceIte, reduceCtorEq, h0, h4, h5, h6, hlt', h20', hx, byte_lt, byte_gt, hb1, hb2]
              have : numB s = (0, false) := numB_none fun hc => by
                have := List.all_eq_true.1 (numB_parts hc).2.1 _ hmem
                simp only [isDig, Bool.and_eq_true, decide_eq_true_eq] at this
                omega
              rw [this]
            · have hdg : isDig s[i] = true := by simp only [isDig, Bool.and_eq_true, decide_eq_true_eq]; omega
              simp (config := { decide := true }) only [go_sem, Int.reduceToNat, Nat.reduceAdd, Nat.reduceSub, Nat.reduceMul, Nat.reduceBEq, reduceIte, reduceCtorEq, h0, h4, h5, h6, hlt', h20', hx, byte_lt, byte_gt, hb1, hb2, hat]
              refine ⟨_, _, Ghost.refl, s.length - (i + 1), by omega, i + 1, rfl, by omega, by omega, ?_, ?_, ?_, ?_, ?_, rfl⟩
              · rw [take_step hai hlt, List.all_append, hd]; simp [hdg]
              · simp (config := { decide := true }) only [go_sem, Nat.reduceBEq, reduceIte, h0]
              · simp (config := { decide := true }) only [go_sem, Nat.reduceBEq, reduceIte, h4]
              · simp (config := { decide := true }) only [go_sem, Nat.reduceBEq, reduceIte]
                rw [dig_sub hb1 hb2, take_step hai hlt, dval_snoc]
                have e9 : ((s[i].toNat - 48 : Nat) : Int) ≤ 9 := by omega
                first
                  | (rw [wrap_step]; congr 3; rw [hsg]; omega)
                  | (rw [w64 (x := 0 - ((s[i].toNat - 48 : Nat) : Int)) (by omega) (by omega), wrap_step]; congr 3; rw [hsg]; omega)
              · simp (config := { decide := true }) only [go_sem, Nat.reduceBEq, reduceIte]
                rw [w64 (by omega) (by omega)]; rfl
        · have h20' : ¬ (s.length : Int) ≤ 20 := by omega
          simp (config := { decide := true }) only [go_sem, Int.reduceToNat, Nat.reduceAdd, Nat.reduceSub, Nat.reduceMul, Nat.reduceBEq, reduceIte, reduceCtorEq, h0, h4, h5, h6, hlt', h20']
          refine callX_fn 3 (refText (IntKind.i64.wrap (sgnOf s * (dval 0 ((s.take i).drop (sgnAt s)) : Int))) (wrap_in _)) (by simp only [go_sem]) rfl ?_
          simp (config := { decide := true }) only [go_sem, Int.reduceToNat, Nat.reduceAdd, Nat.reduceSub, Nat.reduceMul, Nat.reduceBEq, reduceIte, reduceCtorEq, h0, h5]
          obtain ⟨k1, k2⟩ := numB_end (s := s) (w := IntKind.i64.wrap (sgnOf s * (dval 0 ((s.take i).drop (sgnAt s)) : Int))) (fun h => absurd h h20) (wrap_in _)
          exact ⟨fun h => by rw [k2 h], fun h => by rw [k1 h]⟩
      · have hlt' : ¬ (i : Int) < (s.length : Int) := by omega
        have hil : i = s.length := by omega
        simp (config := { decide := true }) only [go_sem, Int.reduceToNat, Nat.reduceAdd, Nat.reduceSub, Nat.reduceMul, Nat.reduceBEq, reduceIte, reduceCtorEq, h0, h4, h5, h6, hlt']
        refine callX_fn 3 (refText (IntKind.i64.wrap (sgnOf s * (dval 0 ((s.take i).drop (sgnAt s)) : Int))) (wrap_in _)) (by simp only [go_sem]) rfl ?_
        simp (config := { decide := true }) only [go_sem, Int.reduceToNat, Nat.reduceAdd, Nat.reduceSub, Nat.reduceMul, Nat.reduceBEq, reduceIte, reduceCtorEq, h0, h5]
        obtain ⟨k1, k2⟩ := numB_end (s := s) (w := IntKind.i64.wrap (sgnOf s * (dval 0 ((s.take i).drop (sgnAt s)) : Int))) (fun h => by rw [hil, List.take_length]) (wrap_in _)
        exact ⟨fun h => by rw [k2 h], fun h => by rw [k1 h]⟩
end Go.Proofs.YtcpefnjofekibaaDoor

/- Ops: does a text look like a number's? -/
namespace Go.Proofs.YtcpefnjofekibaaDoor
open Go.RowKit
set_option linter.unusedVariables false
set_option linter.unusedSimpArgs false
set_option maxRecDepth 8000

theorem shape_in {x : UInt8} {r : List UInt8} (hF : (x = 45 ∧ ∃ c r', r = c :: r' ∧ c ≠ 48) ∨ (isDig x = true ∧ x ≠ 48)) : shapeB (x :: r) = r.all isDig := by
  rcases hF with ⟨rfl, c, r', rfl, hc⟩ | ⟨h1, h2⟩
  · rw [shapeB_neg]; simp [hc]
  · have hx : (x :: r).head? ≠ some 45 := by
      intro h
      simp only [List.head?_cons, Option.some.injEq] at h
      subst h
      simp [isDig] at h1
    rw [shapeB_pos hx]
    simp [canonB, h1, h2]

theorem RowsLen_bytes {l : List UInt8} : RowsLen (l.map byteRow) 1 = True := by
  simp only [RowsLen, List.mem_map, eq_iff_iff, iff_true]
  rintro r ⟨b, _, rfl⟩; rfl

theorem byte_n {b : UInt8} {n : Nat} : ((b.toNat : Int) = (n : Int)) = (b.toNat = n) := by simp only [eq_iff_iff]; omega
theorem byte_48 {b : UInt8} : ((b.toNat : Int) = 48) = (b = 48) := by
  have : ((48 : UInt8).toNat : Int) = 48 := rfl
  rw [← this, byteEq]

theorem numShape (s : List UInt8) (hs : s.length ≤ 1000000) : HFn Tryd.prog 45 [.v (str s)] (.v (.bool (shapeB s))) := by
  refine HCalls_body (fn := Tryd.f45) 48 [2] (by kernel_rfl) rfl (by kernel_rfl) (HW.run 400 (by kernel_rfl) ?_)
  simp (config := { decide := true }) only [go_sem, Int.reduceToNat, Nat.reduceAdd, Nat.reduceSub, Nat.reduceMul, Nat.reduceBEq, reduceIte, reduceCtorEq]
  refine ⟨by omega, ?_⟩
  refine HW.loopG (fun μ T H => ∃ (i : Nat), μ = s.length - i ∧ i ≤ s.length ∧ (1 ≤ i → ∃ x r, s = x :: r ∧ ((x = 45 ∧ ∃ c r', r = c :: r' ∧ c ≠ 48) ∨ (isDig x = true ∧ x ≠ 48)) ∧ (r.take (i - 1)).all isDig = true) ∧
    T 0 = .v (str s) ∧ T 6 = .sl (s.map byteRow) ∧ T 7 = .v (.int .i64 s.length) ∧ T 8 = .v (.int .i64 i) ∧ H = []) s.length
    ⟨_, _, Ghost.refl, 0, rfl, by omega, by omega, rfl, rfl, ?_, rfl, rfl⟩ ?_
  · simp (config := { decide := true }) only [go_sem, Nat.reduceBEq, reduceIte, List.length_map]
  rintro μ T H ⟨i, rfl, hi, hI, h0, h6, h7, h8, rfl⟩
  refine HW.run 400 (by kernel_rfl) ?_
  by_cases hlt : i < s.length
  · have hlt' : (i : Int) < (s.length : Int) := by omega
    have hx : s[i]? = some s[i] := List.getElem?_eq_getElem hlt
    have hxm : (s.map byteRow)[i]? = some [.v (.int .u8 (s[i].toNat : Int))] := by rw [List.getElem?_map, hx]; rfl
    have next : ∀ T' : Nat → HV, T' 0 = .v (str s) → T' 6 = .sl (s.map byteRow) → T' 7 = .v (.int .i64 s.length) → T' 8 = .v (.int .i64 (IntKind.i64.wrap ((i : Int) + 1))) →
        (∃ x r, s = x :: r ∧ ((x = 45 ∧ ∃ c r', r = c :: r' ∧ c ≠ 48) ∨ (isDig x = true ∧ x ≠ 48)) ∧ (r.take i).all isDig = true) →
        GQ 48 0 (fun T' H' => ∃ k', k' < s.length - i ∧ ∃ i, k' = s.length - i ∧ i ≤ s.length ∧ (1 ≤ i → ∃ x r, s = x :: r ∧ ((x = 45 ∧ ∃ c r', r = c :: r' ∧ c ≠ 48) ∨ (isDig x = true ∧ x ≠ 48)) ∧ (r.take (i - 1)).all isDig = true) ∧
          T' 0 = .v (str s) ∧ T' 6 = .sl (s.map byteRow) ∧ T' 7 = .v (.int .i64 s.length) ∧ T' 8 = .v (.int .i64 i) ∧ H' = []) T' [] := by
      intro T' g0 g6 g7 g8 hJ
      refine ⟨_, _, Ghost.refl, s.length - (i + 1), by omega, i + 1, rfl, by omega, fun _ => by simpa using hJ, g0, g6, g7, ?_, rfl⟩
      rw [g8, w64 (by omega) (by omega)]; rfl
    rcases Nat.eq_zero_or_pos i with hi0 | hi1
    · -- the first byte
      subst hi0
      obtain ⟨x, r, he⟩ : ∃ x r, s = x :: r := by
        cases s with
        | nil => simp at hlt
        | cons x r => exact ⟨x, r, rfl⟩
      have ex : s[0] = x := by simp [he]
      rw [ex] at hxm hx
      have c0 : ((0 : Nat) : Int) = 0 := rfl
      have hlt0 : (0 : Int) < (s.length : Int) := hlt'
      by_cases h45 : x = 45
      · have b45 : ((x.toNat : Int) = 45) = True := by rw [byte_45]; simp [h45]
        have b48 : ((x.toNat : Int) = 48) = False := by rw [byte_48, h45]; simp
        have bge : ((48 : Int) ≤ (x.toNat : Int)) = False := by rw [h45]; simp
        cases hr : r with
        | nil =>
          have hl1 : ((1 : Int) < (s.length : Int)) = False := by rw [he, hr]; simp
          simp (config := { decide := true }) only [go_sem, Int.reduceToNat, Nat.reduceAdd, Nat.reduceSub, Nat.reduceMul, Nat.reduceBEq, reduceIte, reduceCtorEq, h0, h6, h7, h8, hlt0, hxm, hx, c0, b45, b48, bge, hl1, RowsLen_bytes, List.length_map]
          rw [he, hr, h45]; rfl
        | cons c r' =>
          have hl1 : ((1 : Int) < (s.length : Int)) = True := by rw [he, hr]; simp; omega
          have h1x : s[1]? = some c := by rw [he, hr]; rfl
          by_cases hc : c = 48
          · have d48 : ((c.toNat : Int) = 48) = True := by rw [byte_48]; simp [hc]
            simp (config := { decide := true }) only [go_sem, Int.reduceToNat, Nat.reduceAdd, Nat.reduceSub, Nat.reduceMul, Nat.reduceBEq, reduceIte, reduceCtorEq, h0, h6, h7, h8, hlt0, hxm, hx, c0, b45, b48, bge, hl1, h1x, d48, RowsLen_bytes, List.length_map]
            rw [he, hr, h45, hc]; rfl
          · have d48 : ((c.toNat : Int) = 48) = False := by rw [byte_48]; simp [hc]
            simp (config := { decide := true }) only [go_sem, Int.reduceToNat, Nat.reduceAdd, Nat.reduceSub, Nat.reduceMul, Nat.reduceBEq, reduceIte, reduceCtorEq, h0, h6, h7, h8, hlt0, hxm, hx, c0, b45, b48, bge, hl1, h1x, d48, RowsLen_bytes, List.length_map]
            refine next _ ?_ ?_ ?_ ?_ ⟨x, r, he, .inl ⟨h45, c, r', hr, hc⟩, by simp⟩
            all_goals simp (config := { decide := true }) only [go_sem, Nat.reduceBEq, reduceIte, h0, h6, h7, c0]
      · have b45 : ((x.toNat : Int) = 45) = False := by rw [byte_45]; simp [h45]
        by_cases h48 : x = 48
        · have b48 : ((x.toNat : Int) = 48) = True := by rw [byte_48]; simp [h48]
          simp (config := { decide := true }) only [go_sem, Int.reduceToNat, Nat.reduceAdd, Nat.reduceSub, Nat.reduceMul, Nat.reduceBEq, reduceIte, reduceCtorEq, h0, h6, h7, h8, hlt0, hxm, hx, c0, b45, b48, RowsLen_bytes, List.length_map]
          have : shapeB s = decide ((s.length : Int) = 1) := by
            rw [he, h48]
            cases r with
            | nil => rfl
            | cons c r' =>
              rw [shapeB_pos (by simp)]
              simp [canonB]
              intro _; omega
          rw [this]
        · have b48 : ((x.toNat : Int) = 48) = False := by rw [byte_48]; simp [h48]
          by_cases hdg : isDig x = true
          · have hdg' := hdg
            simp only [isDig, Bool.and_eq_true, decide_eq_true_eq] at hdg'
            have bge : ((48 : Int) ≤ (x.toNat : Int)) = True := by simp only [eq_iff_iff, iff_true]; omega
            have ble : ((x.toNat : Int) ≤ 57) = True := by simp only [eq_iff_iff, iff_true]; omega
            simp (config := { decide := true }) only [go_sem, Int.reduceToNat, Nat.reduceAdd, Nat.reduceSub, Nat.reduceMul, Nat.reduceBEq, reduceIte, reduceCtorEq, h0, h6, h7, h8, hlt0, hxm, hx, c0, b45, b48, bge, ble, RowsLen_bytes, List.length_map]
            refine next _ ?_ ?_ ?_ ?_ ⟨x, r, he, .inr ⟨hdg, h48⟩, by simp⟩
            all_goals simp (config := { decide := true }) only [go_sem, Nat.reduceBEq, reduceIte, h0, h6, h7, c0]
          · have hdg' : ¬ (48 ≤ x.toNat ∧ x.toNat ≤ 57) := by simpa [isDig] using hdg
            have hfin : shapeB s = false := by
              rw [he, shapeB_pos (by simpa using h45)]
              simp [canonB, hdg]
            by_cases hge : 48 ≤ x.toNat
            · have bge : ((48 : Int) ≤ (x.toNat : Int)) = True := by simp only [eq_iff_iff, iff_true]; omega
              have ble : ((x.toNat : Int) ≤ 57) = False := by simp only [eq_iff_iff, iff_false]; omega
              simp (config := { decide := true }) only [go_sem, Int.reduceToNat, Nat.reduceAdd, Nat.reduceSub, Nat.reduceMul, Nat.reduceBEq, reduceIte, reduceCtorEq, h0, h6, h7, h8, hlt0, hxm, hx, c0, b45, b48, bge, ble, RowsLen_bytes, List.length_map]
              rw [hfin]
            · have bge : ((48 : Int) ≤ (x.toNat : Int)) = False := by simp only [eq_iff_iff, iff_false]; omega
              simp (config := { decide := true }) only [go_sem, Int.reduceToNat, Nat.reduceAdd, Nat.reduceSub, Nat.reduceMul, Nat.reduceBEq, reduceIte, reduceCtorEq, h0, h6, h7, h8, hlt0, hxm, hx, c0, b45, b48, bge, RowsLen_bytes, List.length_map]
              rw [hfin]
    · -- behind the first
      obtain ⟨x, r, he, hF, hr⟩ := hI hi1
      have c0 : ((i : Int) = 0) = False := by simp only [eq_iff_iff, iff_false]; omega
      have hri : r[i - 1]? = some s[i] := by
        have : s[i]? = r[i - 1]? := by
          rw [he]
          obtain ⟨j, rfl⟩ : ∃ j, i = j + 1 := ⟨i - 1, by omega⟩
          simp
        rw [← this]; exact hx
      by_cases hdg : isDig s[i] = true
      · have hdg' := hdg
        simp only [isDig, Bool.and_eq_true, decide_eq_true_eq] at hdg'
        have bge : ((48 : Int) ≤ (s[i].toNat : Int)) = True := by simp only [eq_iff_iff, iff_true]; omega
        have ble : ((s[i].toNat : Int) ≤ 57) = True := by simp only [eq_iff_iff, iff_true]; omega
        have b45 : ((s[i].toNat : Int) = 45) = False := by simp only [eq_iff_iff, iff_false]; omega
        have hJ : (r.take i).all isDig = true := by
          rw [show i = (i - 1) + 1 by omega, List.take_add_one, List.all_append, hr, hri]
          simp [hdg]
        by_cases h48 : s[i] = 48
        · have b48 : ((s[i].toNat : Int) = 48) = True := by rw [byte_48]; simp [h48]
          simp (config := { decide := true }) only [go_sem, Int.reduceToNat, Nat.reduceAdd, Nat.reduceSub, Nat.reduceMul, Nat.reduceBEq, reduceIte, reduceCtorEq, h0, h6, h7, h8, hlt', hxm, hx, c0, b45, b48, bge, ble, RowsLen_bytes, List.length_map]
          refine next _ ?_ ?_ ?_ ?_ ⟨x, r, he, hF, hJ⟩
          all_goals simp (config := { decide := true }) only [go_sem, Nat.reduceBEq, reduceIte, h0, h6, h7]
        · have b48 : ((s[i].toNat : Int) = 48) = False := by rw [byte_48]; simp [h48]
          simp (config := { decide := true }) only [go_sem, Int.reduceToNat, Nat.reduceAdd, Nat.reduceSub, Nat.reduceMul, Nat.reduceBEq, reduceIte, reduceCtorEq, h0, h6, h7, h8, hlt', hxm, hx, c0, b45, b48, bge, ble, RowsLen_bytes, List.length_map]
          refine next _ ?_ ?_ ?_ ?_ ⟨x, r, he, hF, hJ⟩
          all_goals simp (config := { decide := true }) only [go_sem, Nat.reduceBEq, reduceIte, h0, h6, h7]
      · have hdg' : ¬ (48 ≤ s[i].toNat ∧ s[i].toNat ≤ 57) := by simpa [isDig] using hdg
        have b48 : ((s[i].toNat : Int) = 48) = False := by simp only [eq_iff_iff, iff_false]; omega
        have hfin : shapeB s = false := by
          rw [he, shape_in hF]
          cases hall : r.all isDig with
          | false => rfl
          | true => exact absurd (List.all_eq_true.1 hall _ (List.mem_of_getElem? hri)) hdg
        by_cases h45 : s[i] = 45
        · have b45 : ((s[i].toNat : Int) = 45) = True := by rw [byte_45]; simp [h45]
          have bge : ((48 : Int) ≤ (s[i].toNat : Int)) = False := by rw [h45]; simp
          simp (config := { decide := true }) only [go_sem, Int.reduceToNat, Nat.reduceAdd, Nat.reduceSub, Nat.reduceMul, Nat.reduceBEq, reduceIte, reduceCtorEq, h0, h6, h7, h8, hlt', hxm, hx, c0, b45, b48, bge, RowsLen_bytes, List.length_map]
          rw [hfin]
        · have b45 : ((s[i].toNat : Int) = 45) = False := by rw [byte_45]; simp [h45]
          by_cases hge : 48 ≤ s[i].toNat
          · have bge : ((48 : Int) ≤ (s[i].toNat : Int)) = True := by simp only [eq_iff_iff, iff_true]; omega
            have ble : ((s[i].toNat : Int) ≤ 57) = False := by simp only [eq_iff_iff, iff_false]; omega
            simp (config := { decide := true }) only [go_sem, Int.reduceToNat, Nat.reduceAdd, Nat.reduceSub, Nat.reduceMul, Nat.reduceBEq, reduceIte, reduceCtorEq, h0, h6, h7, h8, hlt', hxm, hx, c0, b45, b48, bge, ble, RowsLen_bytes, List.length_map]
            rw [hfin]
          · have bge : ((48 : Int) ≤ (s[i].toNat : Int)) = False := by simp only [eq_iff_iff, iff_false]; omega
            simp (config := { decide := true }) only [go_sem, Int.reduceToNat, Nat.reduceAdd, Nat.reduceSub, Nat.reduceMul, Nat.reduceBEq, reduceIte, reduceCtorEq, h0, h6, h7, h8, hlt', hxm, hx, c0, b45, b48, bge, RowsLen_bytes, List.length_map]
            rw [hfin]
  · have hlt' : ¬ (i : Int) < (s.length : Int) := by omega
    have hil : i = s.length := by omega
    cases hs0 : s with
    | nil =>
      have hne : (s = []) = True := by rw [hs0]; simp
      rw [← hs0]
      simp (config := { decide := true }) only [go_sem, Int.reduceToNat, Nat.reduceAdd, Nat.reduceSub, Nat.reduceMul, Nat.reduceBEq, reduceIte, reduceCtorEq, h0, h6, h7, h8, hlt', hne]
      rw [hs0]; rfl
    | cons y r0 =>
      obtain ⟨x, r, he, hF, hr⟩ := hI (by rw [hil, hs0]; simp)
      have hne : (s = []) = False := by rw [hs0]; simp
      rw [← hs0]
      simp (config := { decide := true }) only [go_sem, Int.reduceToNat, Nat.reduceAdd, Nat.reduceSub, Nat.reduceMul, Nat.reduceBEq, reduceIte, reduceCtorEq, h0, h6, h7, h8, hlt', hne]
      rw [he, shape_in hF]
      rw [hil, he, List.length_cons, Nat.add_sub_cancel, List.take_length] at hr
      rw [hr]
end Go.Proofs.YtcpefnjofekibaaDoor

