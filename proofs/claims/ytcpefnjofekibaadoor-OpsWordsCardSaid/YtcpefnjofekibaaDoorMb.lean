/- Merged: Oq, Or, Os, Ot. -/
import Derived.Test.YtcpefnjofekibaaDoorMa
import Derived.Test.YtcpefnjofekibaaDoorLyAtoi
import Derived.Shelf.Strconv.AtoiAll
import Derived.Lib.AtoiErrMem
/- Ops: strconv.Atoi, by the library's shelf; num.Get. -/
namespace Go.Proofs.YtcpefnjofekibaaDoor
open Go.RowKit Go.Shelf
set_option linter.unusedVariables false
set_option linter.unusedSimpArgs false
set_option maxRecDepth 8000

/-- The type of a number's error. -/
def tErr : TypeId := laysAtoi_ren.t 168

theorem Evo_below {Z : Nat → Prop} {FP : Nat → List Nat} {w w' : World} (h : Below w.heap.size w w') : Evo Z FP w Z FP w' :=
  ⟨h.os, h.tape, h.output, h.size, fun b hb _ => h.block b hb, fun _ h => h, fun _ h => .inl h, fun id b hb => .inr ⟨id, hb⟩⟩

theorem RV_pair {Z : Nat → Prop} {G : List (Option OG)} {w : World} {a b : HV} {x y : Value} (h1 : RV Z G w a x []) (h2 : RV Z G w b y []) : RV Z G w (.tu [a, b]) (.tuple #[x, y]) [] := by
  simp only [RV, RL]
  exact ⟨_, rfl, x, [y], [], [], rfl, rfl, h1, y, [], [], [], rfl, rfl, h2, rfl, rfl⟩
theorem RV_val {Z : Nat → Prop} {G : List (Option OG)} {w : World} (x : Value) : RV Z G w (.v x) x [] := by simp [RV]
theorem RV_icany {Z : Nat → Prop} {G : List (Option OG)} {w : World} (t : TypeId) (x : Value) : RV Z G w (.ic t .any) (.iface t x) [] := by
  simp only [RV]; exact ⟨trivial, x, rfl, trivial⟩

/-- What strconv.Atoi gives back. -/
def atoiV (s : List UInt8) : HV :=
  match Lib.atoiAll s with
  | .ok v => .tu [.v (.int .i64 v), .v .nilIface]
  | Lib.NumEnd.syntax => .tu [.v (.int .i64 0), .ic tErr .any]
  | .range => .tu [.v (.int .i64 (Lib.atoiSat s)), .ic tErr .any]

theorem strconvAtoi (s : List UInt8) (hs : s.length ≤ 1000000) : HFn Tryd.prog 44 [.v (str s)] (atoiV s) := by
  refine ⟨enters (fn := Tryd.f44) (by kernel_rfl) rfl rfl, fun Z G FP w vals hi ha => ?_⟩
  simp only [RL, RV] at ha
  obtain ⟨y1, ys1, f1, f2, rfl, hf, ⟨_, rfl⟩, rfl, _⟩ := ha
  have hsz : (⟨s.toArray⟩ : ByteArray).size = s.length := by simp [ByteArray.size]
  have fin : ∀ (v : Value) (w' : World), RV Z G w' (atoiV s) v [] → Below w.heap.size w w' → Post Z G FP [] w (fun r _ => r = atoiV s) (.returned v) w' := by
    intro v w' hv hb
    exact ⟨v, _, [], Z, G, FP, [], rfl, rfl, rfl, hi.keep hb.size (fun b hb' => hb.block b (by
      rcases hb' with h | ⟨id, h⟩
      · exact hi.zlt b h
      · exact hi.flt id b h)), hv, by simp, by simp, by simp, GLe.refl _, Evo_below hb⟩
  cases h : Lib.atoiAll s with
  | ok v =>
    refine Calls.mono (Any.strconv_Atoi_ok laysAtoi ⟨s.toArray⟩ (by omega) v h w) ?_
    rintro e w' ⟨rfl, hw⟩
    refine fin _ w' ?_ ?_
    · unfold atoiV; rw [h]; exact RV_pair (RV_val _) (RV_val _)
    · rcases hw with rfl | ⟨t, rfl⟩
      · exact Below.refl _ _
      · exact Lib.bytesWorld_below _ _ _
  | range =>
    obtain ⟨_, ev, hv, hev⟩ := hi.glob.ifc 2 (by decide)
    refine Calls.mono (Any.strconv_Atoi_range laysAtoi ⟨s.toArray⟩ (by omega) h ev w hv hev) ?_
    rintro e w' ⟨N, rfl, _, _, hb⟩
    refine fin _ w' ?_ hb
    unfold atoiV; rw [h]; exact RV_pair (RV_val _) (RV_icany _ _)
  | _ =>
    obtain ⟨_, ev, hv, hev⟩ := hi.glob.ifc 1 (by decide)
    refine Calls.mono (Any.strconv_Atoi_syntax laysAtoi ⟨s.toArray⟩ (by omega) h ev w hv hev) ?_
    rintro e w' ⟨N, rfl, _, _, hb⟩
    refine fin _ w' ?_ hb
    unfold atoiV; rw [h]; exact RV_pair (RV_val _) (RV_icany _ _)

theorem numGet (s : List UInt8) (hs : s.length ≤ 1000000) : HFn Tryd.prog 30 [.v (str s)] (.tu [.v (.int .i64 (numB s).1), .v (.bool (numB s).2)]) := by
  have hn := atoi_num s
  have ha := strconvAtoi s hs
  unfold atoiV at ha
  refine HCalls_body (fn := Tryd.f30) 19 [2, 3] (by kernel_rfl) rfl (by kernel_rfl) (HW.run 400 (by kernel_rfl) ?_)
  simp (config := { decide := true }) only [go_sem, Int.reduceToNat, Nat.reduceAdd, Nat.reduceSub, Nat.reduceMul, Nat.reduceBEq, reduceIte, reduceCtorEq]
  cases h : Lib.atoiAll s with
  | ok v =>
    rw [h] at hn ha
    refine callX_fn 3 (ha) (by simp only [go_sem]) rfl ?_
    simp (config := { decide := true }) only [go_sem, Int.reduceToNat, Nat.reduceAdd, Nat.reduceSub, Nat.reduceMul, Nat.reduceBEq, reduceIte, reduceCtorEq]
    refine callX_fn 3 (numShape s hs) (by simp only [go_sem]) rfl ?_
    simp only [numOf] at hn
    cases hsh : shapeB s with
    | true =>
      simp (config := { decide := true }) only [go_sem, Int.reduceToNat, Nat.reduceAdd, Nat.reduceSub, Nat.reduceMul, Nat.reduceBEq, reduceIte, reduceCtorEq]
      rw [hn, hsh]; rfl
    | false =>
      simp (config := { decide := true }) only [go_sem, Int.reduceToNat, Nat.reduceAdd, Nat.reduceSub, Nat.reduceMul, Nat.reduceBEq, reduceIte, reduceCtorEq]
      rw [hn, hsh]; rfl
  | range =>
    rw [h] at hn ha
    refine callX_fn 3 (ha) (by simp only [go_sem]) rfl ?_
    simp (config := { decide := true }) only [go_sem, Int.reduceToNat, Nat.reduceAdd, Nat.reduceSub, Nat.reduceMul, Nat.reduceBEq, reduceIte, reduceCtorEq]
    rw [hn]; rfl
  | _ =>
    rw [h] at hn ha
    refine callX_fn 3 (ha) (by simp only [go_sem]) rfl ?_
    simp (config := { decide := true }) only [go_sem, Int.reduceToNat, Nat.reduceAdd, Nat.reduceSub, Nat.reduceMul, Nat.reduceBEq, reduceIte, reduceCtorEq]
    rw [hn]; rfl
end Go.Proofs.YtcpefnjofekibaaDoor

/- Ops: what stands behind a text's beginning, and ahead of its end. -/
namespace Go.Proofs.YtcpefnjofekibaaDoor
open Go.RowKit
set_option linter.unusedVariables false
set_option linter.unusedSimpArgs false
set_option maxRecDepth 8000

def preB (s p : List UInt8) : Bool := decide (p.length ≤ s.length) && decide (s.take p.length = p)
def sufB (s p : List UInt8) : Bool := decide (p.length ≤ s.length) && decide (s.drop (s.length - p.length) = p)

theorem hasPrefix (s p : List UInt8) : HFn Tryd.prog 70 [.v (str s), .v (str p)] (.v (.bool (preB s p))) := by
  refine HCalls_body (fn := Tryd.f70) 18 [4] (by kernel_rfl) rfl (by kernel_rfl) (HW.run 400 (by kernel_rfl) ?_)
  unfold preB
  by_cases h : p.length ≤ s.length
  · have h1 : ((p.length : Int) ≤ (s.length : Int)) = True := by simp only [eq_iff_iff, iff_true]; omega
    simp (config := { decide := true }) only [go_sem, Int.reduceToNat, Nat.reduceAdd, Nat.reduceSub, Nat.reduceMul, Nat.reduceBEq, reduceIte, reduceCtorEq, h1]
    simp [h]
  · have h1 : ((p.length : Int) ≤ (s.length : Int)) = False := by simp only [eq_iff_iff, iff_false]; omega
    simp (config := { decide := true }) only [go_sem, Int.reduceToNat, Nat.reduceAdd, Nat.reduceSub, Nat.reduceMul, Nat.reduceBEq, reduceIte, reduceCtorEq, h1]
    simp [h]

theorem cutPrefixL (s p : List UInt8) : HFn Tryd.prog 59 [.v (str s), .v (str p)] (.tu [.v (str (if preB s p = true then s.drop p.length else s)), .v (.bool (preB s p))]) := by
  refine HCalls_body (fn := Tryd.f59) 15 [4, 5] (by kernel_rfl) rfl (by kernel_rfl) (HW.run 400 (by kernel_rfl) ?_)
  simp (config := { decide := true }) only [go_sem, Int.reduceToNat, Nat.reduceAdd, Nat.reduceSub, Nat.reduceMul, Nat.reduceBEq, reduceIte, reduceCtorEq]
  refine callX_fn 3 (hasPrefix s p) (by simp only [go_sem]) rfl ?_
  cases h : preB s p with
  | false => simp (config := { decide := true }) only [go_sem, Int.reduceToNat, Nat.reduceAdd, Nat.reduceSub, Nat.reduceMul, Nat.reduceBEq, reduceIte, reduceCtorEq]
  | true =>
    simp (config := { decide := true }) only [go_sem, Int.reduceToNat, Nat.reduceAdd, Nat.reduceSub, Nat.reduceMul, Nat.reduceBEq, reduceIte, reduceCtorEq]
    have : p.length ≤ s.length := by unfold preB at h; simp at h; exact h.1
    omega

theorem cutPrefix (s p : List UInt8) : HFn Tryd.prog 53 [.v (str s), .v (str p)] (.tu [.v (str (if preB s p = true then s.drop p.length else s)), .v (.bool (preB s p))]) := by
  refine HCalls_body (fn := Tryd.f53) 11 [4, 5] (by kernel_rfl) rfl (by kernel_rfl) (HW.run 400 (by kernel_rfl) ?_)
  simp (config := { decide := true }) only [go_sem, Int.reduceToNat, Nat.reduceAdd, Nat.reduceSub, Nat.reduceMul, Nat.reduceBEq, reduceIte, reduceCtorEq]
  refine callX_fn 3 (cutPrefixL s p) (by simp only [go_sem]) rfl ?_
  simp (config := { decide := true }) only [go_sem, Int.reduceToNat, Nat.reduceAdd, Nat.reduceSub, Nat.reduceMul, Nat.reduceBEq, reduceIte, reduceCtorEq]

theorem hasSuffix (s p : List UInt8) (hs : s.length ≤ 1000000) : HFn Tryd.prog 58 [.v (str s), .v (str p)] (.v (.bool (sufB s p))) := by
  refine HCalls_body (fn := Tryd.f58) 21 [4] (by kernel_rfl) rfl (by kernel_rfl) (HW.run 400 (by kernel_rfl) ?_)
  unfold sufB
  by_cases h : p.length ≤ s.length
  · have h1 : ((p.length : Int) ≤ (s.length : Int)) = True := by simp only [eq_iff_iff, iff_true]; omega
    have h2 : IntKind.i64.wrap ((s.length : Int) - (p.length : Int)) = (s.length : Int) - (p.length : Int) := w64 (by omega) (by omega)
    have h3 : ((s.length : Int) - (p.length : Int)).toNat = s.length - p.length := by omega
    simp (config := { decide := true }) only [go_sem, Int.reduceToNat, Nat.reduceAdd, Nat.reduceSub, Nat.reduceMul, Nat.reduceBEq, reduceIte, reduceCtorEq, h1, h2, h3]
    refine ⟨⟨by omega, by omega⟩, ?_⟩
    simp [h]
  · have h1 : ((p.length : Int) ≤ (s.length : Int)) = False := by simp only [eq_iff_iff, iff_false]; omega
    simp (config := { decide := true }) only [go_sem, Int.reduceToNat, Nat.reduceAdd, Nat.reduceSub, Nat.reduceMul, Nat.reduceBEq, reduceIte, reduceCtorEq, h1]
    simp [h]

theorem cutSuffixL (s p : List UInt8) (hs : s.length ≤ 1000000) : HFn Tryd.prog 52 [.v (str s), .v (str p)] (.tu [.v (str (if sufB s p = true then s.take (s.length - p.length) else s)), .v (.bool (sufB s p))]) := by
  refine HCalls_body (fn := Tryd.f52) 18 [4, 5] (by kernel_rfl) rfl (by kernel_rfl) (HW.run 400 (by kernel_rfl) ?_)
  simp (config := { decide := true }) only [go_sem, Int.reduceToNat, Nat.reduceAdd, Nat.reduceSub, Nat.reduceMul, Nat.reduceBEq, reduceIte, reduceCtorEq]
  refine callX_fn 3 (hasSuffix s p hs) (by simp only [go_sem]) rfl ?_
  cases h : sufB s p with
  | false => simp (config := { decide := true }) only [go_sem, Int.reduceToNat, Nat.reduceAdd, Nat.reduceSub, Nat.reduceMul, Nat.reduceBEq, reduceIte, reduceCtorEq]
  | true =>
    have hl : p.length ≤ s.length := by unfold sufB at h; simp at h; exact h.1
    have h2 : IntKind.i64.wrap ((s.length : Int) - (p.length : Int)) = (s.length : Int) - (p.length : Int) := w64 (by omega) (by omega)
    have h3 : ((s.length : Int) - (p.length : Int)).toNat = s.length - p.length := by omega
    simp (config := { decide := true }) only [go_sem, Int.reduceToNat, Nat.reduceAdd, Nat.reduceSub, Nat.reduceMul, Nat.reduceBEq, reduceIte, reduceCtorEq, h2, h3]
    omega

theorem cutSuffix (s p : List UInt8) (hs : s.length ≤ 1000000) : HFn Tryd.prog 40 [.v (str s), .v (str p)] (.tu [.v (str (if sufB s p = true then s.take (s.length - p.length) else s)), .v (.bool (sufB s p))]) := by
  refine HCalls_body (fn := Tryd.f40) 11 [4, 5] (by kernel_rfl) rfl (by kernel_rfl) (HW.run 400 (by kernel_rfl) ?_)
  simp (config := { decide := true }) only [go_sem, Int.reduceToNat, Nat.reduceAdd, Nat.reduceSub, Nat.reduceMul, Nat.reduceBEq, reduceIte, reduceCtorEq]
  refine callX_fn 3 (cutSuffixL s p hs) (by simp only [go_sem]) rfl ?_
  simp (config := { decide := true }) only [go_sem, Int.reduceToNat, Nat.reduceAdd, Nat.reduceSub, Nat.reduceMul, Nat.reduceBEq, reduceIte, reduceCtorEq]

/-- What stands between brackets. -/
def insB (s : List UInt8) : List UInt8 :=
  if 2 ≤ s.length ∧ s.head? = some 91 ∧ s.getLast? = some 93 then (s.drop 1).take (s.length - 2) else []

theorem preB_one (s : List UInt8) (c : UInt8) : preB s [c] = decide (s.head? = some c) := by
  cases s with
  | nil => rfl
  | cons x r => simp [preB]

theorem sufB_one (s : List UInt8) (c : UInt8) : sufB s [c] = decide (s.getLast? = some c) := by
  rcases List.eq_nil_or_concat s with rfl | ⟨l, x, rfl⟩
  · rfl
  · simp [sufB, List.getLast?_concat]

theorem within (s : List UInt8) (hs : s.length ≤ 1000000) : HFn Tryd.prog 42 [.v (str s)] (.v (str (insB s))) := by
  refine HCalls_body (fn := Tryd.f42) 23 [2] (by kernel_rfl) rfl (by kernel_rfl) (HW.run 400 (by kernel_rfl) ?_)
  simp (config := { decide := true }) only [go_sem, Int.reduceToNat, Nat.reduceAdd, Nat.reduceSub, Nat.reduceMul, Nat.reduceBEq, reduceIte, reduceCtorEq]
  refine callX_fn 3 (cutPrefix s [91]) (by simp only [go_sem]) rfl ?_
  simp (config := { decide := true }) only [go_sem, Int.reduceToNat, Nat.reduceAdd, Nat.reduceSub, Nat.reduceMul, Nat.reduceBEq, reduceIte, reduceCtorEq]
  refine callX_fn 3 (cutSuffix (if preB s [91] = true then s.drop ([91] : List UInt8).length else s) [93] (by split <;> first | exact hs | (rw [List.length_drop]; omega))) (by simp only [go_sem]) rfl ?_
  have e1 := preB_one s 91
  cases h1 : preB s [91] with
  | false =>
    simp (config := { decide := true }) only [go_sem, Int.reduceToNat, Nat.reduceAdd, Nat.reduceSub, Nat.reduceMul, Nat.reduceBEq, reduceIte, reduceCtorEq]
    rw [h1] at e1
    have : ¬ s.head? = some 91 := by simpa using e1.symm
    unfold insB
    rw [if_neg (fun h => this h.2.1)]
  | true =>
    rw [h1] at e1
    have hh : s.head? = some 91 := by simpa using e1.symm
    obtain ⟨r, rfl⟩ : ∃ r, s = 91 :: r := by
      cases s with
      | nil => simp at hh
      | cons x r => simp only [List.head?_cons, Option.some.injEq] at hh; exact ⟨r, by rw [hh]⟩
    have e2 := sufB_one r 93
    cases h2 : sufB r [93] with
    | false =>
      simp (config := { decide := true }) only [go_sem, Int.reduceToNat, Nat.reduceAdd, Nat.reduceSub, Nat.reduceMul, Nat.reduceBEq, reduceIte, reduceCtorEq, h2]
      rw [h2] at e2
      have : ¬ r.getLast? = some 93 := by simpa using e2.symm
      unfold insB
      rw [if_neg]
      rintro ⟨k1, _, k3⟩
      cases r with
      | nil => simp at k1
      | cons y r => simp only [List.getLast?_cons_cons] at k3; exact this k3
    | true =>
      simp (config := { decide := true }) only [go_sem, Int.reduceToNat, Nat.reduceAdd, Nat.reduceSub, Nat.reduceMul, Nat.reduceBEq, reduceIte, reduceCtorEq, h2]
      rw [h2] at e2
      have : r.getLast? = some 93 := by simpa using e2.symm
      unfold insB
      cases r with
      | nil => simp at this
      | cons y r =>
        rw [if_pos ⟨by simp, rfl, by simp only [List.getLast?_cons_cons]; exact this⟩]
        simp
end Go.Proofs.YtcpefnjofekibaaDoor

/- Ops: forms, and what is right. -/
namespace Go.Proofs.YtcpefnjofekibaaDoor
open Go.RowKit
set_option linter.unusedVariables false
set_option linter.unusedSimpArgs false
set_option maxRecDepth 8000

/-- A line. -/
abbrev lineV (op : Int) (rg loc lab : List UInt8) (n : Int) : HV := .ag [.v (.int .i64 op), .v (str rg), .v (str loc), .v (str lab), .v (.int .i64 n)]
abbrev atomV (th : Int) (nm : List UInt8) (n : Int) : HV := .ag [.v (.int .i64 th), .v (str nm), .v (.int .i64 n)]

def hasReg (op : Int) : Bool := decide (op = 1) || decide (op = 2) || decide (op = 3) || decide (op = 5) || decide (op = 7)
def hasLoc (op : Int) : Bool := decide (op = 2) || decide (op = 3) || decide (op = 4) || decide (op = 5)
def hasLab (op : Int) : Bool := decide (8 ≤ op) && decide (op ≤ 11)
def hasN (op : Int) : Bool := decide (op = 1) || decide (op = 4) || decide (op = 7)

def rb (r lo la nn a b c d e f g : Bool) : Bool := (a || !r && b) && (r || b) && (c || !lo && d) && (lo || d) && (e || !la && f) && (la || f) && (nn || g)

def rightB (op : Int) (rg loc lab : List UInt8) (n : Int) : Bool :=
  decide (1 ≤ op) && decide (op ≤ 11) && rb (hasReg op) (hasLoc op) (hasLab op) (hasN op) (decide (0 ≤ regB rg)) (decide (rg = [])) (nameB loc) (decide (loc = [])) (nameB lab) (decide (lab = [])) (decide (n = 0))

theorem opsOf6 (rg loc lab : List UInt8) (n : Int) : HFn Tryd.prog 31 [lineV 6 rg loc lab n] (.ic 74 (lineV 6 rg loc lab n)) := by
  refine HCalls_body (fn := Tryd.f31) 37 [2] (by kernel_rfl) rfl (by kernel_rfl) (HW.run 400 (by kernel_rfl) ?_)
  simp (config := { decide := true }) only [go_sem, Int.reduceToNat, Nat.reduceAdd, Nat.reduceSub, Nat.reduceMul, Nat.reduceBEq, reduceIte, reduceCtorEq]

theorem opsOfM (op : Int) (rg loc lab : List UInt8) (n : Int) (h : 1 ≤ op ∧ op ≤ 7 ∧ op ≠ 6) : HFn Tryd.prog 31 [lineV op rg loc lab n] (.ic 75 (lineV op rg loc lab n)) := by
  refine HCalls_body (fn := Tryd.f31) 37 [2] (by kernel_rfl) rfl (by kernel_rfl) (HW.run 400 (by kernel_rfl) ?_)
  obtain ⟨h1, h2, h3⟩ := h
  simp (config := { decide := true }) only [go_sem, Int.reduceToNat, Nat.reduceAdd, Nat.reduceSub, Nat.reduceMul, Nat.reduceBEq, reduceIte, reduceCtorEq, h1, h2, h3]

theorem opsOfJ (op : Int) (rg loc lab : List UInt8) (n : Int) (h : 8 ≤ op ∧ op ≤ 11) : HFn Tryd.prog 31 [lineV op rg loc lab n] (.ic 76 (lineV op rg loc lab n)) := by
  refine HCalls_body (fn := Tryd.f31) 37 [2] (by kernel_rfl) rfl (by kernel_rfl) (HW.run 400 (by kernel_rfl) ?_)
  obtain ⟨h1, h2⟩ := h
  have h3 : ¬ op = 6 := by omega
  have h4 : 1 ≤ op := by omega
  have h5 : ¬ op ≤ 7 := by omega
  simp (config := { decide := true }) only [go_sem, Int.reduceToNat, Nat.reduceAdd, Nat.reduceSub, Nat.reduceMul, Nat.reduceBEq, reduceIte, reduceCtorEq, h1, h2, h3, h4, h5]

theorem opsOfN (op : Int) (rg loc lab : List UInt8) (n : Int) (h : op < 1 ∨ 11 < op) : HFn Tryd.prog 31 [lineV op rg loc lab n] (.v .nilIface) := by
  refine HCalls_body (fn := Tryd.f31) 37 [2] (by kernel_rfl) rfl (by kernel_rfl) (HW.run 400 (by kernel_rfl) ?_)
  have h3 : ¬ op = 6 := by omega
  rcases h with h | h
  · have h4 : ¬ 1 ≤ op := by omega
    have h5 : ¬ 8 ≤ op := by omega
    simp (config := { decide := true }) only [go_sem, Int.reduceToNat, Nat.reduceAdd, Nat.reduceSub, Nat.reduceMul, Nat.reduceBEq, reduceIte, reduceCtorEq, h3, h4, h5]
  · have h4 : 1 ≤ op := by omega
    have h5 : ¬ op ≤ 7 := by omega
    have h6 : 8 ≤ op := by omega
    have h7 : ¬ op ≤ 11 := by omega
    simp (config := { decide := true }) only [go_sem, Int.reduceToNat, Nat.reduceAdd, Nat.reduceSub, Nat.reduceMul, Nat.reduceBEq, reduceIte, reduceCtorEq, h3, h4, h5, h6, h7]

theorem fencesHas (op : Int) (rg loc lab : List UInt8) (n : Int) : HFn Tryd.prog 108 [lineV op rg loc lab n] (.tu [.v (.bool false), .v (.bool false), .v (.bool false), .v (.bool false)]) := by
  refine HCalls_body (fn := Tryd.f108) 6 [2, 3, 4, 5] (by kernel_rfl) rfl (by kernel_rfl) (HW.run 400 (by kernel_rfl) ?_)
  simp (config := { decide := true }) only [go_sem, Int.reduceToNat, Nat.reduceAdd, Nat.reduceSub, Nat.reduceMul, Nat.reduceBEq, reduceIte, reduceCtorEq]
theorem jumpsHas (op : Int) (rg loc lab : List UInt8) (n : Int) : HFn Tryd.prog 113 [lineV op rg loc lab n] (.tu [.v (.bool false), .v (.bool false), .v (.bool true), .v (.bool false)]) := by
  refine HCalls_body (fn := Tryd.f113) 6 [2, 3, 4, 5] (by kernel_rfl) rfl (by kernel_rfl) (HW.run 400 (by kernel_rfl) ?_)
  simp (config := { decide := true }) only [go_sem, Int.reduceToNat, Nat.reduceAdd, Nat.reduceSub, Nat.reduceMul, Nat.reduceBEq, reduceIte, reduceCtorEq]

theorem ops_moves {op : Int} (h : 1 ≤ op ∧ op ≤ 7 ∧ op ≠ 6) : op = 1 ∨ op = 2 ∨ op = 3 ∨ op = 4 ∨ op = 5 ∨ op = 7 := by omega

theorem movesHas (op : Int) (rg loc lab : List UInt8) (n : Int) (h : 1 ≤ op ∧ op ≤ 7 ∧ op ≠ 6) : HFn Tryd.prog 110 [lineV op rg loc lab n] (.tu [.v (.bool (hasReg op)), .v (.bool (hasLoc op)), .v (.bool false), .v (.bool (hasN op))]) := by
  rcases ops_moves h with rfl | rfl | rfl | rfl | rfl | rfl
  all_goals
    refine HCalls_body (fn := Tryd.f110) 42 [2, 3, 4, 5] (by kernel_rfl) rfl (by kernel_rfl) (HW.run 400 (by kernel_rfl) ?_)
    simp (config := { decide := true }) only [go_sem, Int.reduceToNat, Nat.reduceAdd, Nat.reduceSub, Nat.reduceMul, Nat.reduceBEq, reduceIte, reduceCtorEq]
    refine HW.quiet 80 follows (by kernel_rfl) ?_
    simp (config := { decide := true }) only [go_sem, Int.reduceToNat, Nat.reduceAdd, Nat.reduceSub, Nat.reduceMul, Nat.reduceBEq, reduceIte, reduceCtorEq]
    rfl

theorem mFences : methodFn Tryd.prog 74 "fencepost/ops.has" = some 108 := by kernel_rfl
theorem mMoves : methodFn Tryd.prog 75 "fencepost/ops.has" = some 110 := by kernel_rfl
theorem mJumps : methodFn Tryd.prog 76 "fencepost/ops.has" = some 113 := by kernel_rfl

theorem reg_empty {rg : List UInt8} {p : Prop} (h : (0 ≤ regB rg) = (true = true)) (hb : rg = []) : p := by
  rw [hb] at h
  have hno : ¬ (0 ≤ regB []) := by decide
  exact absurd (h.mpr rfl) hno

set_option maxHeartbeats 4000000 in
theorem opsRight (op : Int) (rg loc lab : List UInt8) (n : Int) : HFn Tryd.prog 16 [lineV op rg loc lab n] (.v (.bool (rightB op rg loc lab n))) := by
  refine HCalls_body (fn := Tryd.f16) 92 [2] (by kernel_rfl) rfl (by kernel_rfl) (HW.run 400 (by kernel_rfl) ?_)
  simp (config := { decide := true }) only [go_sem, Int.reduceToNat, Nat.reduceAdd, Nat.reduceSub, Nat.reduceMul, Nat.reduceBEq, reduceIte, reduceCtorEq]
  by_cases hN : op < 1 ∨ 11 < op
  · refine callX_fn 3 (opsOfN op rg loc lab n hN) (by simp only [go_sem]) rfl ?_
    simp (config := { decide := true }) only [go_sem, Int.reduceToNat, Nat.reduceAdd, Nat.reduceSub, Nat.reduceMul, Nat.reduceBEq, reduceIte, reduceCtorEq]
    have : rightB op rg loc lab n = false := by
      unfold rightB
      rcases hN with h | h
      · simp [show ¬ 1 ≤ op by omega]
      · simp [show ¬ op ≤ 11 by omega]
    rw [this]
  have hr : rightB op rg loc lab n = rb (hasReg op) (hasLoc op) (hasLab op) (hasN op) (decide (0 ≤ regB rg)) (decide (rg = [])) (nameB loc) (decide (loc = [])) (nameB lab) (decide (lab = [])) (decide (n = 0)) := by
    unfold rightB
    simp [show 1 ≤ op by omega, show op ≤ 11 by omega]
  rw [hr]
  have nd : nameB loc = true → loc ≠ [] := by rintro h rfl; cases h
  have nl : nameB lab = true → lab ≠ [] := by rintro h rfl; cases h
  by_cases h6 : op = 6
  · subst h6
    refine callX_fn 3 (opsOf6 rg loc lab n) (by simp only [go_sem]) rfl ?_
    simp (config := { decide := true }) only [go_sem, Int.reduceToNat, Nat.reduceAdd, Nat.reduceSub, Nat.reduceMul, Nat.reduceBEq, reduceIte, reduceCtorEq, mFences]
    refine callX_fn 3 (fencesHas 6 rg loc lab n) (by simp only [go_sem]) rfl ?_
    have e1 : hasReg 6 = false := rfl
    have e2 : hasLoc 6 = false := rfl
    have e3 : hasLab 6 = false := rfl
    have e4 : hasN 6 = false := rfl
    rw [e1, e2, e3, e4]
    simp (config := { decide := true }) only [go_sem, Int.reduceToNat, Nat.reduceAdd, Nat.reduceSub, Nat.reduceMul, Nat.reduceBEq, reduceIte, reduceCtorEq]
    all_goals
      refine callX_fn 3 (reg rg) (by simp only [go_sem]) rfl ?_
      generalize hga : decide (0 ≤ regB rg) = ga
      have hga' : (0 ≤ regB rg) = (ga = true) := by rw [← hga]; simp
      clear hga
      cases ga <;> by_cases hb : rg = [] <;> simp (config := { decide := true }) only [go_sem, Int.reduceToNat, Nat.reduceAdd, Nat.reduceSub, Nat.reduceMul, Nat.reduceBEq, reduceIte, reduceCtorEq, hga', hb] <;> first | (simp [rb, hb]; done) | (exact reg_empty hga' hb) | skip
    all_goals
      refine callX_fn 3 (namePr loc) (by simp only [go_sem]) rfl ?_
      cases hc : nameB loc <;> by_cases hd : loc = [] <;> simp (config := { decide := true }) only [go_sem, Int.reduceToNat, Nat.reduceAdd, Nat.reduceSub, Nat.reduceMul, Nat.reduceBEq, reduceIte, reduceCtorEq, hd] <;> first | (simp [rb, hb, hd]; done) | (exact absurd hd (nd hc)) | skip
    all_goals
      refine callX_fn 3 (namePr lab) (by simp only [go_sem]) rfl ?_
      cases he : nameB lab <;> by_cases hf : lab = [] <;> simp (config := { decide := true }) only [go_sem, Int.reduceToNat, Nat.reduceAdd, Nat.reduceSub, Nat.reduceMul, Nat.reduceBEq, reduceIte, reduceCtorEq, hf] <;> first | (simp [rb, hb, hd, hf]; done) | (exact absurd hf (nl he)) | skip
  by_cases hM : op ≤ 7
  · have hM' : 1 ≤ op ∧ op ≤ 7 ∧ op ≠ 6 := by omega
    refine callX_fn 3 (opsOfM op rg loc lab n hM') (by simp only [go_sem]) rfl ?_
    simp (config := { decide := true }) only [go_sem, Int.reduceToNat, Nat.reduceAdd, Nat.reduceSub, Nat.reduceMul, Nat.reduceBEq, reduceIte, reduceCtorEq, mMoves]
    refine callX_fn 3 (movesHas op rg loc lab n hM') (by simp only [go_sem]) rfl ?_
    have e3 : hasLab op = false := by unfold hasLab; simp; omega
    rw [e3]
    cases hasReg op <;> cases hasLoc op <;> cases hasN op <;> simp (config := { decide := true }) only [go_sem, Int.reduceToNat, Nat.reduceAdd, Nat.reduceSub, Nat.reduceMul, Nat.reduceBEq, reduceIte, reduceCtorEq]
    all_goals
      refine callX_fn 3 (reg rg) (by simp only [go_sem]) rfl ?_
      generalize hga : decide (0 ≤ regB rg) = ga
      have hga' : (0 ≤ regB rg) = (ga = true) := by rw [← hga]; simp
      clear hga
      cases ga <;> by_cases hb : rg = [] <;> simp (config := { decide := true }) only [go_sem, Int.reduceToNat, Nat.reduceAdd, Nat.reduceSub, Nat.reduceMul, Nat.reduceBEq, reduceIte, reduceCtorEq, hga', hb] <;> first | (simp [rb, hb]; done) | (exact reg_empty hga' hb) | skip
    all_goals
      refine callX_fn 3 (namePr loc) (by simp only [go_sem]) rfl ?_
      cases hc : nameB loc <;> by_cases hd : loc = [] <;> simp (config := { decide := true }) only [go_sem, Int.reduceToNat, Nat.reduceAdd, Nat.reduceSub, Nat.reduceMul, Nat.reduceBEq, reduceIte, reduceCtorEq, hd] <;> first | (simp [rb, hb, hd]; done) | (exact absurd hd (nd hc)) | skip
    all_goals
      refine callX_fn 3 (namePr lab) (by simp only [go_sem]) rfl ?_
      cases he : nameB lab <;> by_cases hf : lab = [] <;> simp (config := { decide := true }) only [go_sem, Int.reduceToNat, Nat.reduceAdd, Nat.reduceSub, Nat.reduceMul, Nat.reduceBEq, reduceIte, reduceCtorEq, hf] <;> first | (simp [rb, hb, hd, hf]; done) | (exact absurd hf (nl he)) | skip
  · have hJ : 8 ≤ op ∧ op ≤ 11 := by omega
    refine callX_fn 3 (opsOfJ op rg loc lab n hJ) (by simp only [go_sem]) rfl ?_
    simp (config := { decide := true }) only [go_sem, Int.reduceToNat, Nat.reduceAdd, Nat.reduceSub, Nat.reduceMul, Nat.reduceBEq, reduceIte, reduceCtorEq, mJumps]
    refine callX_fn 3 (jumpsHas op rg loc lab n) (by simp only [go_sem]) rfl ?_
    have e1 : hasReg op = false := by unfold hasReg; simp; omega
    have e2 : hasLoc op = false := by unfold hasLoc; simp; omega
    have e3 : hasLab op = true := by unfold hasLab; simp; omega
    have e4 : hasN op = false := by unfold hasN; simp; omega
    rw [e1, e2, e3, e4]
    simp (config := { decide := true }) only [go_sem, Int.reduceToNat, Nat.reduceAdd, Nat.reduceSub, Nat.reduceMul, Nat.reduceBEq, reduceIte, reduceCtorEq]
    all_goals
      refine callX_fn 3 (reg rg) (by simp only [go_sem]) rfl ?_
      generalize hga : decide (0 ≤ regB rg) = ga
      have hga' : (0 ≤ regB rg) = (ga = true) := by rw [← hga]; simp
      clear hga
      cases ga <;> by_cases hb : rg = [] <;> simp (config := { decide := true }) only [go_sem, Int.reduceToNat, Nat.reduceAdd, Nat.reduceSub, Nat.reduceMul, Nat.reduceBEq, reduceIte, reduceCtorEq, hga', hb] <;> first | (simp [rb, hb]; done) | (exact reg_empty hga' hb) | skip
    all_goals
      refine callX_fn 3 (namePr loc) (by simp only [go_sem]) rfl ?_
      cases hc : nameB loc <;> by_cases hd : loc = [] <;> simp (config := { decide := true }) only [go_sem, Int.reduceToNat, Nat.reduceAdd, Nat.reduceSub, Nat.reduceMul, Nat.reduceBEq, reduceIte, reduceCtorEq, hd] <;> first | (simp [rb, hb, hd]; done) | (exact absurd hd (nd hc)) | skip
    all_goals
      refine callX_fn 3 (namePr lab) (by simp only [go_sem]) rfl ?_
      cases he : nameB lab <;> by_cases hf : lab = [] <;> simp (config := { decide := true }) only [go_sem, Int.reduceToNat, Nat.reduceAdd, Nat.reduceSub, Nat.reduceMul, Nat.reduceBEq, reduceIte, reduceCtorEq, hf] <;> first | (simp [rb, hb, hd, hf]; done) | (exact absurd hf (nl he)) | skip
end Go.Proofs.YtcpefnjofekibaaDoor

/- Ops: a line's words. -/
namespace Go.Proofs.YtcpefnjofekibaaDoor
open Go.RowKit
set_option linter.unusedVariables false
set_option linter.unusedSimpArgs false
set_option maxRecDepth 8000

/-- A location, in brackets. -/
def atB (loc : List UInt8) : List UInt8 := [91] ++ loc ++ [93]

theorem atPr (op : Int) (rg loc lab : List UInt8) (n : Int) (h : loc.length ≤ 1000000) : HFn Tryd.prog 107 [lineV op rg loc lab n] (.v (str (atB loc))) := by
  refine HCalls_body (fn := Tryd.f107) 8 [2] (by kernel_rfl) rfl (by kernel_rfl) (HW.run 400 (by kernel_rfl) ?_)
  simp (config := { decide := true }) only [go_sem, Int.reduceToNat, Nat.reduceAdd, Nat.reduceSub, Nat.reduceMul, Nat.reduceBEq, reduceIte, reduceCtorEq, List.length_append]
  refine ⟨by omega, by omega, ?_⟩
  rfl

theorem numberPr (op : Int) (rg loc lab : List UInt8) (n : Int) (h : inI n) : HFn Tryd.prog 112 [lineV op rg loc lab n] (.v (str (textB n))) := by
  refine HCalls_body (fn := Tryd.f112) 7 [2] (by kernel_rfl) rfl (by kernel_rfl) (HW.run 400 (by kernel_rfl) ?_)
  simp (config := { decide := true }) only [go_sem, Int.reduceToNat, Nat.reduceAdd, Nat.reduceSub, Nat.reduceMul, Nat.reduceBEq, reduceIte, reduceCtorEq]
  refine callX_fn 3 (numText n h) (by simp only [go_sem]) rfl ?_
  simp (config := { decide := true }) only [go_sem, Int.reduceToNat, Nat.reduceAdd, Nat.reduceSub, Nat.reduceMul, Nat.reduceBEq, reduceIte, reduceCtorEq]

def movB : List UInt8 := [109, 111, 118]
def xchgB : List UInt8 := [120, 99, 104, 103]
def mfenceB : List UInt8 := [109, 102, 101, 110, 99, 101]
def cmpB : List UInt8 := [99, 109, 112]
def jmpB : List UInt8 := [106, 109, 112]
def jeB : List UInt8 := [106, 101]
def jneB : List UInt8 := [106, 110, 101]

/-- The words of a line, if it is right. -/
def wordsO (op : Int) (rg loc lab : List UInt8) (n : Int) : List (List UInt8) :=
  if op = 1 then [movB, rg, textB n]
  else if op = 2 then [movB, rg, atB loc]
  else if op = 3 then [movB, atB loc, rg]
  else if op = 4 then [movB, atB loc, textB n]
  else if op = 5 then [xchgB, atB loc, rg]
  else if op = 6 then [mfenceB]
  else if op = 7 then [cmpB, rg, textB n]
  else if op = 8 then [jmpB, lab]
  else if op = 9 then [jeB, lab]
  else if op = 10 then [jneB, lab]
  else [lab ++ [58]]

theorem fencesWords (rg loc lab : List UInt8) (n : Int) : HFn Tryd.prog 109 [lineV 6 rg loc lab n] (owStrs (wordsO 6 rg loc lab n)) := by
  refine HCalls_body (fn := Tryd.f109) 4 [2] (by kernel_rfl) rfl (by kernel_rfl) (HW.run 400 (by kernel_rfl) ?_)
  simp (config := { decide := true }) only [go_sem, Int.reduceToNat, Nat.reduceAdd, Nat.reduceSub, Nat.reduceMul, Nat.reduceBEq, reduceIte, reduceCtorEq]
  rfl

set_option maxHeartbeats 2000000 in
theorem jumpsWords (op : Int) (rg loc lab : List UInt8) (n : Int) (h : 8 ≤ op ∧ op ≤ 11) (hl : lab.length ≤ 1000000) : HFn Tryd.prog 114 [lineV op rg loc lab n] (owStrs (wordsO op rg loc lab n)) := by
  have h' : op = 8 ∨ op = 9 ∨ op = 10 ∨ op = 11 := by omega
  rcases h' with rfl | rfl | rfl | rfl
  iterate 3
    · refine HCalls_body (fn := Tryd.f114) 25 [2] (by kernel_rfl) rfl (by kernel_rfl) (HW.run 400 (by kernel_rfl) ?_)
      simp (config := { decide := true }) only [go_sem, Int.reduceToNat, Nat.reduceAdd, Nat.reduceSub, Nat.reduceMul, Nat.reduceBEq, reduceIte, reduceCtorEq]
      refine HW.anyOrder 80 10 follows (by kernel_rfl) ?_
      simp (config := { decide := true }) only [go_sem, Int.reduceToNat, Nat.reduceAdd, Nat.reduceSub, Nat.reduceMul, Nat.reduceBEq, reduceIte, reduceCtorEq]
      rfl
  · refine HCalls_body (fn := Tryd.f114) 25 [2] (by kernel_rfl) rfl (by kernel_rfl) (HW.run 400 (by kernel_rfl) ?_)
    simp (config := { decide := true }) only [go_sem, Int.reduceToNat, Nat.reduceAdd, Nat.reduceSub, Nat.reduceMul, Nat.reduceBEq, reduceIte, reduceCtorEq]
    refine ⟨by omega, ?_⟩
    rfl

set_option maxHeartbeats 4000000 in
theorem movesWords (op : Int) (rg loc lab : List UInt8) (n : Int) (h : 1 ≤ op ∧ op ≤ 7 ∧ op ≠ 6) (hl : loc.length ≤ 1000000) (hn : inI n) : HFn Tryd.prog 111 [lineV op rg loc lab n] (owStrs (wordsO op rg loc lab n)) := by
  rcases ops_moves h with rfl | rfl | rfl | rfl | rfl | rfl
  · refine HCalls_body (fn := Tryd.f111) 64 [2] (by kernel_rfl) rfl (by kernel_rfl) (HW.run 400 (by kernel_rfl) ?_)
    simp (config := { decide := true }) only [go_sem, Int.reduceToNat, Nat.reduceAdd, Nat.reduceSub, Nat.reduceMul, Nat.reduceBEq, reduceIte, reduceCtorEq]
    refine HW.anyOrder 80 7 follows (by kernel_rfl) ?_
    simp (config := { decide := true }) only [go_sem, Int.reduceToNat, Nat.reduceAdd, Nat.reduceSub, Nat.reduceMul, Nat.reduceBEq, reduceIte, reduceCtorEq]
    refine callQ_fn 3 (numberPr 1 rg loc lab n hn) (by simp only [go_sem]) rfl rfl ?_
    simp (config := { decide := true }) only [go_sem, Int.reduceToNat, Nat.reduceAdd, Nat.reduceSub, Nat.reduceMul, Nat.reduceBEq, reduceIte, reduceCtorEq]
    rfl
  · refine HCalls_body (fn := Tryd.f111) 64 [2] (by kernel_rfl) rfl (by kernel_rfl) (HW.run 400 (by kernel_rfl) ?_)
    simp (config := { decide := true }) only [go_sem, Int.reduceToNat, Nat.reduceAdd, Nat.reduceSub, Nat.reduceMul, Nat.reduceBEq, reduceIte, reduceCtorEq]
    refine HW.anyOrder 80 7 follows (by kernel_rfl) ?_
    simp (config := { decide := true }) only [go_sem, Int.reduceToNat, Nat.reduceAdd, Nat.reduceSub, Nat.reduceMul, Nat.reduceBEq, reduceIte, reduceCtorEq]
    refine callQ_fn 3 (atPr 2 rg loc lab n hl) (by simp only [go_sem]) rfl rfl ?_
    simp (config := { decide := true }) only [go_sem, Int.reduceToNat, Nat.reduceAdd, Nat.reduceSub, Nat.reduceMul, Nat.reduceBEq, reduceIte, reduceCtorEq]
    rfl
  · refine HCalls_body (fn := Tryd.f111) 64 [2] (by kernel_rfl) rfl (by kernel_rfl) (HW.run 400 (by kernel_rfl) ?_)
    simp (config := { decide := true }) only [go_sem, Int.reduceToNat, Nat.reduceAdd, Nat.reduceSub, Nat.reduceMul, Nat.reduceBEq, reduceIte, reduceCtorEq]
    refine HW.anyOrder 80 7 follows (by kernel_rfl) ?_
    simp (config := { decide := true }) only [go_sem, Int.reduceToNat, Nat.reduceAdd, Nat.reduceSub, Nat.reduceMul, Nat.reduceBEq, reduceIte, reduceCtorEq]
    refine callQ_fn 3 (atPr 3 rg loc lab n hl) (by simp only [go_sem]) rfl rfl ?_
    simp (config := { decide := true }) only [go_sem, Int.reduceToNat, Nat.reduceAdd, Nat.reduceSub, Nat.reduceMul, Nat.reduceBEq, reduceIte, reduceCtorEq]
    rfl
  · refine HCalls_body (fn := Tryd.f111) 64 [2] (by kernel_rfl) rfl (by kernel_rfl) (HW.run 400 (by kernel_rfl) ?_)
    simp (config := { decide := true }) only [go_sem, Int.reduceToNat, Nat.reduceAdd, Nat.reduceSub, Nat.reduceMul, Nat.reduceBEq, reduceIte, reduceCtorEq]
    refine HW.anyOrder 80 6 follows (by kernel_rfl) ?_
    simp (config := { decide := true }) only [go_sem, Int.reduceToNat, Nat.reduceAdd, Nat.reduceSub, Nat.reduceMul, Nat.reduceBEq, reduceIte, reduceCtorEq]
    refine callQ_fn 3 (atPr 4 rg loc lab n hl) (by simp only [go_sem]) rfl rfl ?_
    simp (config := { decide := true }) only [go_sem, Int.reduceToNat, Nat.reduceAdd, Nat.reduceSub, Nat.reduceMul, Nat.reduceBEq, reduceIte, reduceCtorEq]
    refine callQ_fn 3 (numberPr 4 rg loc lab n hn) (by simp only [go_sem]) rfl rfl ?_
    simp (config := { decide := true }) only [go_sem, Int.reduceToNat, Nat.reduceAdd, Nat.reduceSub, Nat.reduceMul, Nat.reduceBEq, reduceIte, reduceCtorEq]
    rfl
  · refine HCalls_body (fn := Tryd.f111) 64 [2] (by kernel_rfl) rfl (by kernel_rfl) (HW.run 400 (by kernel_rfl) ?_)
    simp (config := { decide := true }) only [go_sem, Int.reduceToNat, Nat.reduceAdd, Nat.reduceSub, Nat.reduceMul, Nat.reduceBEq, reduceIte, reduceCtorEq]
    refine HW.anyOrder 80 7 follows (by kernel_rfl) ?_
    simp (config := { decide := true }) only [go_sem, Int.reduceToNat, Nat.reduceAdd, Nat.reduceSub, Nat.reduceMul, Nat.reduceBEq, reduceIte, reduceCtorEq]
    refine callQ_fn 3 (atPr 5 rg loc lab n hl) (by simp only [go_sem]) rfl rfl ?_
    simp (config := { decide := true }) only [go_sem, Int.reduceToNat, Nat.reduceAdd, Nat.reduceSub, Nat.reduceMul, Nat.reduceBEq, reduceIte, reduceCtorEq]
    rfl
  · refine HCalls_body (fn := Tryd.f111) 64 [2] (by kernel_rfl) rfl (by kernel_rfl) (HW.run 400 (by kernel_rfl) ?_)
    simp (config := { decide := true }) only [go_sem, Int.reduceToNat, Nat.reduceAdd, Nat.reduceSub, Nat.reduceMul, Nat.reduceBEq, reduceIte, reduceCtorEq]
    refine HW.anyOrder 80 7 follows (by kernel_rfl) ?_
    simp (config := { decide := true }) only [go_sem, Int.reduceToNat, Nat.reduceAdd, Nat.reduceSub, Nat.reduceMul, Nat.reduceBEq, reduceIte, reduceCtorEq]
    refine callQ_fn 3 (numberPr 7 rg loc lab n hn) (by simp only [go_sem]) rfl rfl ?_
    simp (config := { decide := true }) only [go_sem, Int.reduceToNat, Nat.reduceAdd, Nat.reduceSub, Nat.reduceMul, Nat.reduceBEq, reduceIte, reduceCtorEq]
    rfl

theorem wFences : methodFn Tryd.prog 74 "fencepost/ops.words" = some 109 := by kernel_rfl
theorem wMoves : methodFn Tryd.prog 75 "fencepost/ops.words" = some 111 := by kernel_rfl
theorem wJumps : methodFn Tryd.prog 76 "fencepost/ops.words" = some 114 := by kernel_rfl

theorem rightB_op {op : Int} {rg loc lab : List UInt8} {n : Int} (h : rightB op rg loc lab n = true) : 1 ≤ op ∧ op ≤ 11 := by
  simp only [rightB, Bool.and_eq_true, decide_eq_true_eq] at h
  exact h.1

/-- All words of a line: none, if it is not right. -/
def lineW (op : Int) (rg loc lab : List UInt8) (n : Int) : List (List UInt8) := if rightB op rg loc lab n = true then wordsO op rg loc lab n else []

theorem own_nil {f : FuncId} {args : List HV} (h : HFn Tryd.prog f args (.v (.slice none 0 0))) : HFn Tryd.prog f args (owStrs []) :=
  HCalls.conv h fun x H' hx => ⟨_, rfl, .inr ⟨by rw [hx]; rfl, by rw [hx]; exact Conv.nilOw _ _⟩⟩

theorem opsWords (op : Int) (rg loc lab : List UInt8) (n : Int) (hl : loc.length ≤ 1000000) (hl2 : lab.length ≤ 1000000) (hn : inI n) : HFn Tryd.prog 19 [lineV op rg loc lab n] (owStrs (lineW op rg loc lab n)) := by
  unfold lineW
  cases hr : rightB op rg loc lab n with
  | false =>
    rw [if_neg (by simp)]
    refine own_nil ?_
    refine HCalls_body (fn := Tryd.f19) 9 [2] (by kernel_rfl) rfl (by kernel_rfl) (HW.run 400 (by kernel_rfl) ?_)
    simp (config := { decide := true }) only [go_sem, Int.reduceToNat, Nat.reduceAdd, Nat.reduceSub, Nat.reduceMul, Nat.reduceBEq, reduceIte, reduceCtorEq]
    refine callX_fn 3 (opsRight op rg loc lab n) (by simp only [go_sem]) rfl ?_
    simp (config := { decide := true }) only [go_sem, Int.reduceToNat, Nat.reduceAdd, Nat.reduceSub, Nat.reduceMul, Nat.reduceBEq, reduceIte, reduceCtorEq, hr]
  | true =>
    rw [if_pos rfl]
    obtain ⟨h1, h2⟩ := rightB_op hr
    refine HCalls_body (fn := Tryd.f19) 9 [2] (by kernel_rfl) rfl (by kernel_rfl) (HW.run 400 (by kernel_rfl) ?_)
    simp (config := { decide := true }) only [go_sem, Int.reduceToNat, Nat.reduceAdd, Nat.reduceSub, Nat.reduceMul, Nat.reduceBEq, reduceIte, reduceCtorEq]
    refine callX_fn 3 (opsRight op rg loc lab n) (by simp only [go_sem]) rfl ?_
    simp (config := { decide := true }) only [go_sem, Int.reduceToNat, Nat.reduceAdd, Nat.reduceSub, Nat.reduceMul, Nat.reduceBEq, reduceIte, reduceCtorEq, hr]
    by_cases h6 : op = 6
    · subst h6
      refine callX_fn 3 (opsOf6 rg loc lab n) (by simp only [go_sem]) rfl ?_
      simp (config := { decide := true }) only [go_sem, Int.reduceToNat, Nat.reduceAdd, Nat.reduceSub, Nat.reduceMul, Nat.reduceBEq, reduceIte, reduceCtorEq, wFences]
      refine callX_fn 3 (fencesWords rg loc lab n) (by simp only [go_sem]) nz_owStrs ?_
      simp (config := { decide := true }) only [go_sem, Int.reduceToNat, Nat.reduceAdd, Nat.reduceSub, Nat.reduceMul, Nat.reduceBEq, reduceIte, reduceCtorEq, owStrs]
    by_cases hM : op ≤ 7
    · have hM' : 1 ≤ op ∧ op ≤ 7 ∧ op ≠ 6 := by omega
      refine callX_fn 3 (opsOfM op rg loc lab n hM') (by simp only [go_sem]) rfl ?_
      simp (config := { decide := true }) only [go_sem, Int.reduceToNat, Nat.reduceAdd, Nat.reduceSub, Nat.reduceMul, Nat.reduceBEq, reduceIte, reduceCtorEq, wMoves]
      refine callX_fn 3 (movesWords op rg loc lab n hM' hl hn) (by simp only [go_sem]) nz_owStrs ?_
      simp (config := { decide := true }) only [go_sem, Int.reduceToNat, Nat.reduceAdd, Nat.reduceSub, Nat.reduceMul, Nat.reduceBEq, reduceIte, reduceCtorEq, owStrs]
    · have hJ : 8 ≤ op ∧ op ≤ 11 := by omega
      refine callX_fn 3 (opsOfJ op rg loc lab n hJ) (by simp only [go_sem]) rfl ?_
      simp (config := { decide := true }) only [go_sem, Int.reduceToNat, Nat.reduceAdd, Nat.reduceSub, Nat.reduceMul, Nat.reduceBEq, reduceIte, reduceCtorEq, wJumps]
      refine callX_fn 3 (jumpsWords op rg loc lab n hJ hl2) (by simp only [go_sem]) nz_owStrs ?_
      simp (config := { decide := true }) only [go_sem, Int.reduceToNat, Nat.reduceAdd, Nat.reduceSub, Nat.reduceMul, Nat.reduceBEq, reduceIte, reduceCtorEq, owStrs]
end Go.Proofs.YtcpefnjofekibaaDoor

