/- Ops: arguments opened. -/
import Derived.Test.YtcpefnjofekibaaDoorYs
import Derived.OpenShut
import Derived.ShutString
import Derived.ChangeOld
import Derived.Carry
import Derived.Below
namespace Go.Proofs.YtcpefnjofekibaaDoor
open Go.ChangeShapes Go.WideShapes Go.ChangeAt Go.RowKit
set_option linter.unusedVariables false
set_option maxRecDepth 8000
set_option linter.unusedSimpArgs false

theorem laidOut : laidOutB Tryd.prog = true := by kernel_rfl
theorem wf_inI {n : Int} (h : (Lit.int .i64 n).wf = true) : -9223372036854775808 ≤ n ∧ n < 9223372036854775808 := by
  have h2 : IntKind.i64.min ≤ n ∧ n ≤ IntKind.i64.max := by simpa [Lit.wf] using h
  have e1 : IntKind.i64.min = -9223372036854775808 := by decide
  have e2 : IntKind.i64.max = 9223372036854775807 := by decide
  rw [e1, e2] at h2
  omega

theorem RL_cons0 {Z : Nat → Prop} {G : List (Option OG)} {w : World} {a : HV} {y : Value} {bs : List HV} {ys : List Value} (h : RV Z G w a y []) (t : RL Z G w bs ys []) : RL Z G w (a :: bs) (y :: ys) [] := by
  simp only [RL]; exact ⟨y, ys, [], [], rfl, rfl, h, t⟩
theorem RL_nil0 {Z : Nat → Prop} {G : List (Option OG)} {w : World} : RL Z G w [] [] [] := by simp [RL]
theorem RV_v0 {Z : Nat → Prop} {G : List (Option OG)} {w : World} (x : Value) : RV Z G w (.v x) x [] := by simp [RV]
theorem RV_ag0 {Z : Nat → Prop} {G : List (Option OG)} {w : World} {cs : List HV} {ys : List Value} (h : RL Z G w cs ys []) : RV Z G w (.ag cs) (.agg ys.toArray) [] := by
  simp only [RV]; exact ⟨_, rfl, by simpa using h⟩

section
variable {H : Type} {enc : TypeId × Value → H} {w : World} {base : Nat} {sp : Nat → Bool} {held : Bool}

theorem open_atom {r : Reach} {b0 : Nat} {v : Value} {d : DataW H} {ps : List MemPlace} (hval : Value.okWide Tryd.prog w r b0 26 v) (hd : DataW.Trod enc Tryd.prog w base sp held 26 v d ps) :
    ∃ (th : Int) (nm : List UInt8) (n : Int), v = .agg #[.int .i64 th, str nm, .int .i64 n] ∧ (Lit.int .i64 th).wf = true ∧ (Lit.int .i64 n).wf = true := by
  obtain ⟨cs, rfl, hs⟩ := okWide_struct Tryd.underlying26 hval
  obtain ⟨fuel, hf⟩ := hd
  obtain ⟨xs, m, _, _, hl, hlen, hx⟩ := DataW.trod_struct Tryd.underlying26 hf
  have hc : Tryd.prog.cellsOf 26 = 3 := by kernel_rfl
  have c3 : Tryd.prog.cellsOf 3 = 1 := by kernel_rfl
  have c9 : Tryd.prog.cellsOf 9 = 1 := by kernel_rfl
  rw [hc] at hs
  obtain ⟨l⟩ := cs
  match l, hs with
  | [a, b, c], _ =>
    match xs, hlen with
    | [x0, x1, x2], _ =>
      have f0 := hx 0 _ rfl
      have f1 := hx 1 _ rfl
      have f2 := hx 2 _ rfl
      simp only [c3, c9, Value.cells, List.drop_succ_cons, List.drop_zero, List.take_succ_cons, List.take_zero, List.getElem?_cons_zero, List.getElem?_cons_succ] at f0 f1 f2
      obtain ⟨n0, e0, _, w0⟩ := DataW.trod_int Tryd.underlying3 f0
      obtain ⟨s1, e1, _, _⟩ := DataW.trod_string Tryd.underlying9 f1
      obtain ⟨n2, e2, _, w2⟩ := DataW.trod_int Tryd.underlying3 f2
      refine ⟨n0, s1.data.toList, n2, ?_, w0, w2⟩
      simp_all [str]
theorem open_line {r : Reach} {b0 : Nat} {v : Value} {d : DataW H} {ps : List MemPlace} (hval : Value.okWide Tryd.prog w r b0 23 v) (hd : DataW.Trod enc Tryd.prog w base sp held 23 v d ps) :
    ∃ (op : Int) (rg loc lab : List UInt8) (n : Int), v = .agg #[.int .i64 op, str rg, str loc, str lab, .int .i64 n] ∧ (Lit.int .i64 op).wf = true ∧ (Lit.int .i64 n).wf = true := by
  obtain ⟨cs, rfl, hs⟩ := okWide_struct Tryd.underlying23 hval
  obtain ⟨fuel, hf⟩ := hd
  obtain ⟨xs, m, _, _, hl, hlen, hx⟩ := DataW.trod_struct Tryd.underlying23 hf
  have hc : Tryd.prog.cellsOf 23 = 5 := by kernel_rfl
  rw [hc] at hs
  obtain ⟨l⟩ := cs
  match l, hs with
  | [a, b, c, e, g], _ =>
    match xs, hlen with
    | [x0, x1, x2, x3, x4], _ =>
      obtain ⟨n0, e0, _, w0⟩ := DataW.trod_int Tryd.underlying3 (hx 0 _ rfl)
      obtain ⟨s1, e1, _, _⟩ := DataW.trod_string Tryd.underlying9 (hx 1 _ rfl)
      obtain ⟨s2, e2, _, _⟩ := DataW.trod_string Tryd.underlying9 (hx 2 _ rfl)
      obtain ⟨s3, e3, _, _⟩ := DataW.trod_string Tryd.underlying9 (hx 3 _ rfl)
      obtain ⟨n4, e4, _, w4⟩ := DataW.trod_int Tryd.underlying3 (hx 4 _ rfl)
      have q0 : [a] = [.int .i64 n0] := e0
      have q1 : [b] = [.string s1] := e1
      have q2 : [c] = [.string s2] := e2
      have q3 : [e] = [.string s3] := e3
      have q4 : [g] = [.int .i64 n4] := e4
      cases q0; cases q1; cases q2; cases q3; cases q4
      exact ⟨n0, s1.data.toList, s2.data.toList, s3.data.toList, n4, by simp [str], w0, w4⟩
end
end Go.Proofs.YtcpefnjofekibaaDoor
