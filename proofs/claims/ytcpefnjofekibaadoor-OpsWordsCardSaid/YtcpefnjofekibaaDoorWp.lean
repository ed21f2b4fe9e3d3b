/- Word: the plain side: a text cut at a byte. -/
namespace Go.Proofs.YtcpefnjofekibaaDoor
set_option linter.unusedVariables false
set_option maxRecDepth 8000

/-- A text between bytes c; the last part too. -/
def cutB (c : UInt8) : List UInt8 → List (List UInt8)
  | [] => [[]]
  | b :: s => if b = c then [] :: cutB c s else (match cutB c s with | [] => [[b]] | w :: r => (b :: w) :: r)

theorem cutB_ne (c : UInt8) : ∀ s, cutB c s ≠ []
  | [] => by simp [cutB]
  | b :: s => by
    unfold cutB
    split
    · simp
    · split <;> simp

theorem cutB_plain {c : UInt8} : ∀ {p : List UInt8}, c ∉ p → cutB c p = [p]
  | [], _ => rfl
  | b :: p, h => by
    have h1 : b ≠ c := fun e => h (by simp [e])
    have h2 : cutB c p = [p] := cutB_plain (fun e => h (by simp [e]))
    simp [cutB, h1, h2]

theorem cutB_sep {c : UInt8} : ∀ {p r : List UInt8}, c ∉ p → cutB c (p ++ c :: r) = p :: cutB c r
  | [], r, _ => by simp [cutB]
  | b :: p, r, h => by
    have h1 : b ≠ c := fun e => h (by simp [e])
    have h2 : cutB c (p ++ c :: r) = p :: cutB c r := cutB_sep (fun e => h (by simp [e]))
    simp [cutB, h1, h2]

theorem cutB_length (c : UInt8) : ∀ s, (cutB c s).length ≤ s.length + 1
  | [] => by simp [cutB]
  | b :: s => by
    have := cutB_length c s
    unfold cutB
    split
    · simp; omega
    · split
      · simp
      · rename_i w r e; rw [e] at this; simp at this ⊢; omega

/-- A text's lines. -/
def linesB (s : List UInt8) : List (List UInt8) := if (cutB 10 s).getLast? = some [] then (cutB 10 s).dropLast else cutB 10 s
/-- A line's words. -/
def wordsB (s : List UInt8) : List (List UInt8) := (cutB 32 s).filter fun w => !w.isEmpty

/-- What may be no name. -/
def keysB : List (List UInt8) := [[120, 56, 54], [105, 110, 105, 116], [116, 104, 114, 101, 97, 100], [109, 111, 118], [120, 99, 104, 103], [109, 102, 101, 110, 99, 101], [99, 109, 112], [106, 109, 112], [106, 101], [106, 110, 101], [101, 120, 105, 115, 116, 115], [102, 111, 114, 97, 108, 108]]
def keyB (s : List UInt8) : Bool := keysB.contains s

theorem keyB_in {s : List UInt8} (h : s ∈ keysB) : keyB s = true := by simpa [keyB] using h
theorem keyB_out {s : List UInt8} (h : s ∉ keysB) : keyB s = false := by simpa [keyB] using h

def regNm (n : Int) : List UInt8 := if n = 0 then [101, 97, 120] else if n = 1 then [101, 98, 120] else if n = 2 then [101, 99, 120] else if n = 3 then [101, 100, 120] else []

theorem regNm_out {n : Int} (h : n < 0 ∨ 4 ≤ n) : regNm n = [] := by
  unfold regNm
  rw [if_neg (by omega), if_neg (by omega), if_neg (by omega), if_neg (by omega)]

/-- A register's number. -/
def regB (s : List UInt8) : Int := if s = regNm 0 then 0 else if s = regNm 1 then 1 else if s = regNm 2 then 2 else if s = regNm 3 then 3 else -1

/-- A letter; a letter or digit. -/
def letB (b : UInt8) : Bool := decide (97 ≤ b.toNat) && decide (b.toNat ≤ 122)
def ldB (b : UInt8) : Bool := letB b || (decide (48 ≤ b.toNat) && decide (b.toNat ≤ 57))
/-- A letter, and letters and digits. -/
def headB : List UInt8 → Bool
  | [] => false
  | b :: r => letB b && r.all ldB
/-- Is a text a name? -/
def nameB (s : List UInt8) : Bool := headB s && decide (s.length ≤ 8) && !keyB s && decide (regB s < 0)

/-- What may stand in a name at a place. -/
def okB (i : Nat) (b : UInt8) : Bool := letB b || (decide (48 ≤ b.toNat) && decide (b.toNat ≤ 57) && decide (i ≠ 0))

theorem okB_true {i : Nat} {b : UInt8} (h : (97 ≤ b.toNat ∧ b.toNat ≤ 122) ∨ (48 ≤ b.toNat ∧ b.toNat ≤ 57 ∧ i ≠ 0)) : okB i b = true := by
  simp only [okB, letB, Bool.or_eq_true, Bool.and_eq_true, decide_eq_true_eq]
  omega
theorem okB_false {i : Nat} {b : UInt8} (h : ¬ ((97 ≤ b.toNat ∧ b.toNat ≤ 122) ∨ (48 ≤ b.toNat ∧ b.toNat ≤ 57 ∧ i ≠ 0))) : okB i b = false := by
  rw [← Bool.not_eq_true]
  simp only [okB, letB, Bool.or_eq_true, Bool.and_eq_true, decide_eq_true_eq]
  omega

theorem nameB_head (s : List UInt8) : headB s = true ↔ s ≠ [] ∧ ∀ i : Nat, ∀ b, s[i]? = some b → okB i b = true := by
  cases s with
  | nil => simp [headB]
  | cons b r =>
    simp only [headB, Bool.and_eq_true, ne_eq, reduceCtorEq, not_false_eq_true, true_and]
    constructor
    · rintro ⟨h1, h2⟩ i c hc
      cases i with
      | zero => simp at hc; subst hc; simp [okB, h1]
      | succ i =>
        simp at hc
        have := List.all_eq_true.1 h2 c (List.mem_of_getElem? hc)
        simpa [okB, ldB] using this
    · intro h
      refine ⟨?_, List.all_eq_true.2 fun c hc => ?_⟩
      · have := h 0 b rfl
        simpa [okB] using this
      · obtain ⟨i, hi⟩ := List.mem_iff_getElem?.1 hc
        have := h (i + 1) c (by simpa using hi)
        simpa [okB, ldB] using this

theorem nameB_bad {s : List UInt8} {i : Nat} {b : UInt8} (h : s[i]? = some b) (hb : okB i b = false) : nameB s = false := by
  have : headB s = false := by
    rw [← Bool.not_eq_true, nameB_head]
    rintro ⟨_, hh⟩
    rw [hh i b h] at hb
    cases hb
  unfold nameB
  rw [this]
  simp

theorem nameB_good {s : List UInt8} (h : ∀ i : Nat, ∀ b, s[i]? = some b → okB i b = true) : nameB s = (!s.isEmpty && decide (s.length ≤ 8) && !keyB s && decide (regB s < 0)) := by
  have : headB s = !s.isEmpty := by
    rw [Bool.eq_iff_iff, nameB_head]
    constructor
    · rintro ⟨h1, _⟩; cases s <;> simp_all
    · intro h1; refine ⟨?_, h⟩; rintro rfl; simp at h1
  unfold nameB
  rw [this]
end Go.Proofs.YtcpefnjofekibaaDoor
