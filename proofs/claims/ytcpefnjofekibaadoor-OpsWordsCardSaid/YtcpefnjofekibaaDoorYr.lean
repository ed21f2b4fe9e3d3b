/- What the rows lean on: a call of which all is known, from the world of a row. -/
import Derived.Test.YtcpefnjofekibaaDoorHiX
import Derived.Test.YtcpefnjofekibaaDoorProg
import Derived.Test.YtcpefnjofekibaaDoorChecked
import Derived.Shelf.Vars
import Derived.KernelRfl
import Derived.ProofKit
namespace Go.Proofs.YtcpefnjofekibaaDoor
open Go.RowKit
set_option linter.unusedVariables false
set_option maxRecDepth 8000

theorem rowOwn : ownKnob Tryd.prog.godebug = none := by kernel_rfl

theorem lt_of_cell {W : World} {b : Nat} {v : Value} (hm : W.cell? ⟨b, 0, none⟩ = some v) : b < W.heap.size := by
  unfold World.cell? at hm
  simp only at hm
  cases hh : W.heap[b]? with
  | none => rw [hh] at hm; simp at hm
  | some o => exact (Array.getElem?_eq_some_iff.1 hh).1

/-- The package variables that hold a value of an interface. -/
def Ifcs (W : World) : Prop := ∀ b, globI b = true → ∃ v, W.cell? ⟨b, 0, none⟩ = some v ∧ (v = .nilIface ∨ ∃ t p, v = .iface t p)

/-- The package variables that are read hold what their types let. -/
theorem globs_of {W : World} (h : W.ShapedOpen Tryd.prog) (hI : Ifcs W) : Globs (fun b => b < W.heap.size) W := by
  refine ⟨fun b hb => ?_, fun b hb => ?_⟩
  · have key : ∃ m, W.cell? ⟨b, 0, none⟩ = some (.int .i64 m) := by
      unfold globB at hb
      have e := beq_iff_eq.1 hb
      subst e
      exact cell_of_shapedOpen_int h (of_decide_eq_true (by kernel_rfl)) (t := 3) (zero := #[.int .i64 0]) (by kernel_rfl) rfl (by kernel_rfl) (by kernel_rfl) (by kernel_rfl)
    obtain ⟨m, hm⟩ := key
    exact ⟨lt_of_cell hm, m, hm⟩
  · obtain ⟨v, hv, hv'⟩ := hI b hb
    exact ⟨lt_of_cell hv, v, hv, hv'⟩

/-- A call of which all is known, in the world of a row: what lay, lies. -/
theorem HFn.below {f : FuncId} {args : List HV} {x : Value} {W : World} (h : HFn Tryd.prog f args (.v x)) (hsh : W.ShapedOpen Tryd.prog) (hI : Ifcs W) (vals : List Value) (ha : RL (fun b => b < W.heap.size) [] W args vals []) :
    Calls Tryd.prog f vals.toArray W fun e W' => e = .returned x ∧ Below W.heap.size W W' := by
  refine Calls.mono (h.2 _ [] _ W vals (HInv.empty (fun _ h => h) (globs_of hsh hI)) ha) ?_
  rintro e w' ⟨v, r, H', Z', G', FP', fr, rfl, rfl, hlen, hi', hr, hnd, hfr1, hfr2, hG, hE⟩
  simp only [RV] at hr
  obtain ⟨_, rfl⟩ := hr
  exact ⟨rfl, ⟨hE.os, hE.tape, hE.output, hE.size, fun b hb => hE.keep b hb (by simp)⟩⟩

theorem plain_args (W : World) (vals : List Value) : RL (fun b => b < W.heap.size) [] W (vals.map .v) vals [] := RL_vs _ _ _ vals

theorem u8_of {a : Int} (h : (Lit.int .u8 a).wf = true) : ∃ c : UInt8, (c.toNat : Int) = a := by
  have h2 : IntKind.u8.min ≤ a ∧ a ≤ IntKind.u8.max := by simpa [Lit.wf] using h
  have e1 : IntKind.u8.min = 0 := by decide
  have e2 : IntKind.u8.max = 255 := by decide
  rw [e1, e2] at h2
  refine ⟨UInt8.ofNat a.toNat, ?_⟩
  simp
  omega
end Go.Proofs.YtcpefnjofekibaaDoor
