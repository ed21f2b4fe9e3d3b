/- Ops: what the rows of a door seat lean on: the wrap, the witness's world, the two errors' variables. -/
import Derived.Test.YtcpefnjofekibaaDoorRows
import Derived.Test.YtcpefnjofekibaaDoorYr
import Derived.WalkKit
import Derived.ProofKit
import Derived.HandedShaped
import Derived.LaidLaws
import Derived.LaidMore
import Derived.LaidHandle
import Derived.LaidSub
import Derived.ChangeSame
import Derived.ChangeVars
import Derived.JoinedOf
import Derived.RowKit
import Derived.RowKitTokens
namespace Go.Proofs.YtcpefnjofekibaaDoor
open Go.RowKit
set_option linter.unusedVariables false
set_option maxRecDepth 8000

/-- The wrap of a row with listed variables, the shape of the start at hand. -/
theorem returnsInHanded_laid {H : Type} {enc : TypeId × Value → H} {a : Assume} {C : Checked} {os : Os} {f : FuncId} {fn : Func} {s : ChangeSpec} {conds : List PathCond} {apart fresh handsOn again : Bool} {X : World → Array Value → Prop}
    (hX : ∀ (w w' : World) (args : Array Value), w.heap = w'.heap → X w args → X w' args)
    (own : ownKnob C.prog.godebug = none) (started : os.Started) (noInit : C.prog.inits.idxOf? f = none) (hfn : C.prog.funcs[f]? = some fn)
    (witness : ∃ (w : World) (tape : Tape) (i : Input), w.os = os ∧ (w.forCall tape i).Shaped C.prog ∧ i.vars = [] ∧ Input.okWide C.prog (w.forCall tape i) .any w.heap.size f i ∧
      ((s.pre enc C.prog fn conds apart (w.forCall tape i).memory i.args ∧ X (w.forCall tape i).memory i.args) ∧ sizedMet enc C.prog fn (OpenSpec.ofChange s) apart (w.forCall tape i).memory i.args) ∧ a.holds C.prog (lone (Frame.enter C.prog f i.args .normal) [] (w.forCall tape i)))
    (contract : ∀ (W : World) (base : Nat) (args : Array Value) (ds gs : List (DataW H)) (before : List MemPlace),
      (∀ (j : Nat) t v, fn.params[j]? = some t → args[j]? = some v → Value.okWide C.prog W .any base t v) →
      DataW.Whole enc C.prog fn.params.toList s.vars apart W args.toList ds gs before →
      conds.all (PathCond.test C.prog ⟨fn.params.toList, ds, s.plain.varTypes C.prog, gs⟩) = true →
      (DataW.weightsEach C.prog (fn.params.toList ++ s.plain.varTypes C.prog) (ds ++ gs)).all (· ≤ reachBytes) = true →
      W.ShapedOpen C.prog → X W args →
      a.holds C.prog (lone (Frame.enter C.prog f args .normal) [] W) →
      Calls C.prog f args W fun e W' => ∃ v, e = .returned v ∧ s.post enc C.prog fn apart fresh handsOn again W args v W') :
    ReturnsInHanded a C os f .any (fun w args => (s.pre enc C.prog fn conds apart w args ∧ X w args) ∧ sizedMet enc C.prog fn (OpenSpec.ofChange s) apart w args) (s.post enc C.prog fn apart fresh handsOn again) := by
  refine returnsInHanded_of_calls own started noInit witness ?_
  intro w tape i _ hsh _ hok hpre hholds
  obtain ⟨_, _, _, fn', hfn', _, _, _, _, hval⟩ := hok
  have e : fn' = fn := Option.some.inj (hfn'.symm.trans hfn)
  subst e
  obtain ⟨⟨⟨ds, gs, before, hw, hc⟩, hx⟩, hz⟩ := hpre
  have hw' := DataW.Whole.of_heap (w' := w.forCall tape i) (by rfl) hw
  refine (contract (w.forCall tape i) w.heap.size i.args ds gs before hval hw' hc (hz.weights hw) hsh (hX _ _ _ (by rfl) hx) hholds).mono fun e W' ⟨v, he, hp⟩ => ?_
  subst he
  exact ChangeSpec.post_blind hp

theorem errSyntax_at : Tryd.prog.globalNamed "strconv.ErrSyntax" = some 1 := by kernel_rfl
theorem errRange_at : Tryd.prog.globalNamed "strconv.ErrRange" = some 2 := by kernel_rfl
theorem errSyntax_type : (Tryd.prog.globals[1]?).map (·.type) = some 68 := by kernel_rfl
theorem errRange_type : (Tryd.prog.globals[2]?).map (·.type) = some 68 := by kernel_rfl

/-- The two variables hold a value of an interface. -/
theorem ifcs_of_laid {W : World} (h : laidMetH Tryd.prog Rows.opsAtomRow.laid W) : Ifcs W := by
  have h2 := (laidMetH_iff.1 (h.filter fun x => x.1 == "strconv.ErrRange" || x.1 == "strconv.ErrSyntax")).1
  have hl : ((Rows.opsAtomRow.laid.filter fun x => x.1 == "strconv.ErrRange" || x.1 == "strconv.ErrSyntax").filter fun x => x.2.handleName?.isNone) = [("strconv.ErrRange", Rows.laid_strconv_ErrRange), ("strconv.ErrSyntax", Rows.laid_strconv_ErrSyntax)] := by
    simp [Rows.opsAtomRow, Rows.laid_strconv_ErrRange, Rows.laid_strconv_ErrSyntax, DataW.handleName?]
  rw [hl] at h2
  obtain ⟨ps, ⟨g0, t0, cs0, f0, p0, q0, hg0, ht0, hv0, hd0, ⟨g1, t1, cs1, f1, p1, q1, hg1, ht1, hv1, hd1, hq1, e1⟩, e0⟩, hnd, hrows⟩ := h2
  obtain rfl := Option.some.inj (errRange_at.symm.trans hg0)
  obtain rfl := Option.some.inj (errSyntax_at.symm.trans hg1)
  obtain rfl := Option.some.inj (errRange_type.symm.trans ht0)
  obtain rfl := Option.some.inj (errSyntax_type.symm.trans ht1)
  obtain ⟨l0⟩ := cs0
  obtain ⟨l1⟩ := cs1
  obtain ⟨_, u0, v0, e0', _, _⟩ := iface_of_trod Tryd.underlying68 hd0
  obtain ⟨_, u1, v1, e1', _, _⟩ := iface_of_trod Tryd.underlying68 hd1
  have e0'' : l0 = [.iface u0 v0] := e0'
  have e1'' : l1 = [.iface u1 v1] := e1'
  subst e0''
  subst e1''
  have c0 := World.var?_cell hg0 hv0 0
  have c1 := World.var?_cell hg1 hv1 0
  intro b hb
  have hb' : b = 1 ∨ b = 2 := by simpa [globI] using hb
  rcases hb' with rfl | rfl
  · exact ⟨.iface u1 v1, by simpa using c1, .inr ⟨_, _, rfl⟩⟩
  · exact ⟨.iface u0 v0, by simpa using c0, .inr ⟨_, _, rfl⟩⟩

/-- The witness's world. -/
theorem door_met (os : Os) (args : Array Value) : laidMetH Tryd.prog Rows.opsAtomRow.laid ((World.doorLaid Tryd.prog 62 os).forCall (fun _ _ => 0) ⟨#[], args, []⟩).memory :=
  laidMetH_of_parts (laidMet_of_run' 8 (by kernel_rfl) (by kernel_rfl)) (by kernel_rfl)
theorem door_shaped (os : Os) (args : Array Value) : ((World.doorLaid Tryd.prog 62 os).forCall (fun _ _ => 0) ⟨#[], args, []⟩).Shaped Tryd.prog :=
  World.shaped_of_RefB (by kernel_rfl) (by kernel_rfl)
end Go.Proofs.YtcpefnjofekibaaDoor
