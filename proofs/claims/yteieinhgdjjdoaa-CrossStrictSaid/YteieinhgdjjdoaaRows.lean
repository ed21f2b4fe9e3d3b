/-
  No cell of these rows narrows 'for every input' (looked for: loops, veiled, ifaces, maps, wideKeys, modest, calm, conditions, laid).
  DERIVED. THE GIVEN ROWS OF THIS SEAT. 6 by the template 'for every input the law returns true; each argument reads behind the call as it read before'; 0 by the template 'total and deterministic' (their statements: YteieinhgdjjdoaaTotals.lean).
  GIVEN WITH THE SEED: the statements are not yours to turn. If you find one false, say at which input.
  Laid BY PROGRAM, IN A SANDBOX (cutbox-rows.mjs): the forced cells as the released guide's own fill.sh prints them over the translation 1324d60a3aac629d… (all of the seat's roots in one cut). By AI agents, Wed Nov 11 2026. No macro, syntax, notation, axiom, sorry.
-/
import Derived.Test.YteieinhgdjjdoaaChecked
import GoSem.Claim
import GoSem.ClaimJoined
import GoSem.ClaimMapViews
import Derived.JoinedTies
import Derived.KernelRfl
namespace Go.Proofs.Yteieinhgdjjdoaa
/- THE CELL 'sum', in the pinned program and in every row, IS THE sha256 OF THE DUMP (.gsa) THAT YteieinhgdjjdoaaProg.lean LOADS. Nothing in Lean hashes anything: it is a label: what it is worth is what the hold of that sum in a sandbox is worth. -/
noncomputable def Try.pinned : Pinned := { name := "yteieinhgdjjdoaa", sum := "1324d60a3aac629dfd7ab243124d92d55d162be858d2bf4cd4fa79a071371564", checked := Try.checked }
namespace Rows
def none {H : Type} : Left H := { results := [], args := [] }

/-- 'fencepostlaw14.CrossTells': WHATEVER THE INPUT: true; the input reads as it did. -/
def crossTellsSpec : ChangeSpec := { name := "crossTells", fn := fun _ => fun
  | [d1, d2, d3] => { results := [.lit (.bool true)], args := [d1, d2, d3] }
  | _ => none }
def crossTellsRow : OpenClaim := { program := "yteieinhgdjjdoaa", sum := "1324d60a3aac629dfd7ab243124d92d55d162be858d2bf4cd4fa79a071371564", func := "fencepost/fencepostlaw14.CrossTells", spec := "crossTells", unfollowed := true, recurses := true, plainKeys := false, apart := false }
def CrossTellsSaid : Prop := crossTellsRow.holds Try.pinned (OpenSpec.ofChange crossTellsSpec)

/-- ITS FALSE NEIGHBOUR: 'it returns false'. Refute it at one input. -/
def crossTellsWrong : ChangeSpec := { name := "crossTells", fn := fun _ => fun
  | [d1, d2, d3] => { results := [.lit (.bool false)], args := [d1, d2, d3] }
  | _ => none }
def CrossTellsWrongFalsely : Prop := crossTellsRow.holds Try.pinned (OpenSpec.ofChange crossTellsWrong)

/-- 'fencepostlaw14.CrossWithin': WHATEVER THE INPUT: true; the input reads as it did. -/
def crossWithinSpec : ChangeSpec := { name := "crossWithin", fn := fun _ => fun
  | [d1, d2] => { results := [.lit (.bool true)], args := [d1, d2] }
  | _ => none }
def crossWithinRow : OpenClaim := { program := "yteieinhgdjjdoaa", sum := "1324d60a3aac629dfd7ab243124d92d55d162be858d2bf4cd4fa79a071371564", func := "fencepost/fencepostlaw14.CrossWithin", spec := "crossWithin", unfollowed := true, recurses := true, plainKeys := false, apart := false }
def CrossWithinSaid : Prop := crossWithinRow.holds Try.pinned (OpenSpec.ofChange crossWithinSpec)

/-- ITS FALSE NEIGHBOUR: 'it returns false'. Refute it at one input. -/
def crossWithinWrong : ChangeSpec := { name := "crossWithin", fn := fun _ => fun
  | [d1, d2] => { results := [.lit (.bool false)], args := [d1, d2] }
  | _ => none }
def CrossWithinWrongFalsely : Prop := crossWithinRow.holds Try.pinned (OpenSpec.ofChange crossWithinWrong)

/-- 'fencepostlaw14.CrossLower': WHATEVER THE INPUT: true; the input reads as it did. -/
def crossLowerSpec : ChangeSpec := { name := "crossLower", fn := fun _ => fun
  | [d1, d2, d3] => { results := [.lit (.bool true)], args := [d1, d2, d3] }
  | _ => none }
def crossLowerRow : OpenClaim := { program := "yteieinhgdjjdoaa", sum := "1324d60a3aac629dfd7ab243124d92d55d162be858d2bf4cd4fa79a071371564", func := "fencepost/fencepostlaw14.CrossLower", spec := "crossLower", unfollowed := true, recurses := true, plainKeys := false, apart := false }
def CrossLowerSaid : Prop := crossLowerRow.holds Try.pinned (OpenSpec.ofChange crossLowerSpec)

/-- ITS FALSE NEIGHBOUR: 'it returns false'. Refute it at one input. -/
def crossLowerWrong : ChangeSpec := { name := "crossLower", fn := fun _ => fun
  | [d1, d2, d3] => { results := [.lit (.bool false)], args := [d1, d2, d3] }
  | _ => none }
def CrossLowerWrongFalsely : Prop := crossLowerRow.holds Try.pinned (OpenSpec.ofChange crossLowerWrong)

/-- 'fencepostlaw14.CrossRaise': WHATEVER THE INPUT: true; the input reads as it did. -/
def crossRaiseSpec : ChangeSpec := { name := "crossRaise", fn := fun _ => fun
  | [d1, d2, d3] => { results := [.lit (.bool true)], args := [d1, d2, d3] }
  | _ => none }
def crossRaiseRow : OpenClaim := { program := "yteieinhgdjjdoaa", sum := "1324d60a3aac629dfd7ab243124d92d55d162be858d2bf4cd4fa79a071371564", func := "fencepost/fencepostlaw14.CrossRaise", spec := "crossRaise", unfollowed := true, recurses := true, plainKeys := false, apart := false }
def CrossRaiseSaid : Prop := crossRaiseRow.holds Try.pinned (OpenSpec.ofChange crossRaiseSpec)

/-- ITS FALSE NEIGHBOUR: 'it returns false'. Refute it at one input. -/
def crossRaiseWrong : ChangeSpec := { name := "crossRaise", fn := fun _ => fun
  | [d1, d2, d3] => { results := [.lit (.bool false)], args := [d1, d2, d3] }
  | _ => none }
def CrossRaiseWrongFalsely : Prop := crossRaiseRow.holds Try.pinned (OpenSpec.ofChange crossRaiseWrong)

/-- 'fencepostlaw14.CrossStrict': WHATEVER THE INPUT: true; the input reads as it did. -/
def crossStrictSpec : ChangeSpec := { name := "crossStrict", fn := fun _ => fun
  | [d1, d2, d3] => { results := [.lit (.bool true)], args := [d1, d2, d3] }
  | _ => none }
def crossStrictRow : OpenClaim := { program := "yteieinhgdjjdoaa", sum := "1324d60a3aac629dfd7ab243124d92d55d162be858d2bf4cd4fa79a071371564", func := "fencepost/fencepostlaw14.CrossStrict", spec := "crossStrict", unfollowed := true, recurses := true, plainKeys := false, apart := false }
def CrossStrictSaid : Prop := crossStrictRow.holds Try.pinned (OpenSpec.ofChange crossStrictSpec)

/-- ITS FALSE NEIGHBOUR: 'it returns false'. Refute it at one input. -/
def crossStrictWrong : ChangeSpec := { name := "crossStrict", fn := fun _ => fun
  | [d1, d2, d3] => { results := [.lit (.bool false)], args := [d1, d2, d3] }
  | _ => none }
def CrossStrictWrongFalsely : Prop := crossStrictRow.holds Try.pinned (OpenSpec.ofChange crossStrictWrong)

/-- 'fencepostlaw14.CrossNone': WHATEVER THE INPUT: true; the input reads as it did. -/
def crossNoneSpec : ChangeSpec := { name := "crossNone", fn := fun _ => fun
  | [d1, d2, d3] => { results := [.lit (.bool true)], args := [d1, d2, d3] }
  | _ => none }
def crossNoneRow : OpenClaim := { program := "yteieinhgdjjdoaa", sum := "1324d60a3aac629dfd7ab243124d92d55d162be858d2bf4cd4fa79a071371564", func := "fencepost/fencepostlaw14.CrossNone", spec := "crossNone", unfollowed := true, recurses := true, plainKeys := false, apart := false }
def CrossNoneSaid : Prop := crossNoneRow.holds Try.pinned (OpenSpec.ofChange crossNoneSpec)

/-- ITS FALSE NEIGHBOUR: 'it returns false'. Refute it at one input. -/
def crossNoneWrong : ChangeSpec := { name := "crossNone", fn := fun _ => fun
  | [d1, d2, d3] => { results := [.lit (.bool false)], args := [d1, d2, d3] }
  | _ => none }
def CrossNoneWrongFalsely : Prop := crossNoneRow.holds Try.pinned (OpenSpec.ofChange crossNoneWrong)

/- THE SECOND FORM. 'bulk': how many values and letters a reading holds, each counted each time it is reached (what is shared counts as often as it is met; a slice's spare places count too). A statement '..UptoSaid' is the law's where the arguments, and the package variables that the reading takes, are together of bulk at most 1048576: NARROWER than '..Said'. Prove '..Said' where nothing that the law and all that it calls make is longer than what came in: it says more and counts as full. Else prove '..UptoSaid'. A law counts once. -/
mutual
def uptoBulk {H : Type} : DataW H → Nat
  | .lit (.string bytes) => bytes.length + 1
  | .lit _ => 1
  | .nil => 1
  | .ptr d => uptoBulk d + 1
  | .slice elems spare => uptoBulkAll elems + uptoBulkAll spare + 1
  | .agg parts => uptoBulkAll parts + 1
  | .iface _ d => uptoBulk d + 1
  | .map entries => uptoBulkEntries entries + 1
  | .held _ => 1
def uptoBulkAll {H : Type} : List (DataW H) → Nat
  | [] => 0
  | d :: r => uptoBulk d + uptoBulkAll r
def uptoBulkEntries {H : Type} : List (Lit × DataW H) → Nat
  | [] => 0
  | x :: r => uptoBulkEntry x + uptoBulkEntries r
def uptoBulkEntry {H : Type} : Lit × DataW H → Nat
  | (.string bytes, d) => bytes.length + uptoBulk d + 1
  | (_, d) => uptoBulk d + 1
 end
def uptoSmall : (H : Type) → List (DataW H) → Bool := fun _ ds => decide (uptoBulkAll ds ≤ 1048576)
def OpenSpec.upto (s : _root_.Go.ChangeSpec) : _root_.Go.OpenSpec := { _root_.Go.OpenSpec.ofChange s with cond := some uptoSmall }

/-- 'fencepostlaw14.CrossTells', WHERE WHAT IT READS IS OF BULK AT MOST 1048576: true; the input reads as it did. -/
def crossTellsUptoRow : OpenClaim := { program := "yteieinhgdjjdoaa", sum := "1324d60a3aac629dfd7ab243124d92d55d162be858d2bf4cd4fa79a071371564", func := "fencepost/fencepostlaw14.CrossTells", spec := "crossTells", unfollowed := true, recurses := true, plainKeys := false, apart := false, narrowed := true }
def CrossTellsUptoSaid : Prop := crossTellsUptoRow.holds Try.pinned (OpenSpec.upto crossTellsSpec)

/-- 'fencepostlaw14.CrossWithin', WHERE WHAT IT READS IS OF BULK AT MOST 1048576: true; the input reads as it did. -/
def crossWithinUptoRow : OpenClaim := { program := "yteieinhgdjjdoaa", sum := "1324d60a3aac629dfd7ab243124d92d55d162be858d2bf4cd4fa79a071371564", func := "fencepost/fencepostlaw14.CrossWithin", spec := "crossWithin", unfollowed := true, recurses := true, plainKeys := false, apart := false, narrowed := true }
def CrossWithinUptoSaid : Prop := crossWithinUptoRow.holds Try.pinned (OpenSpec.upto crossWithinSpec)

/-- 'fencepostlaw14.CrossLower', WHERE WHAT IT READS IS OF BULK AT MOST 1048576: true; the input reads as it did. -/
def crossLowerUptoRow : OpenClaim := { program := "yteieinhgdjjdoaa", sum := "1324d60a3aac629dfd7ab243124d92d55d162be858d2bf4cd4fa79a071371564", func := "fencepost/fencepostlaw14.CrossLower", spec := "crossLower", unfollowed := true, recurses := true, plainKeys := false, apart := false, narrowed := true }
def CrossLowerUptoSaid : Prop := crossLowerUptoRow.holds Try.pinned (OpenSpec.upto crossLowerSpec)

/-- 'fencepostlaw14.CrossRaise', WHERE WHAT IT READS IS OF BULK AT MOST 1048576: true; the input reads as it did. -/
def crossRaiseUptoRow : OpenClaim := { program := "yteieinhgdjjdoaa", sum := "1324d60a3aac629dfd7ab243124d92d55d162be858d2bf4cd4fa79a071371564", func := "fencepost/fencepostlaw14.CrossRaise", spec := "crossRaise", unfollowed := true, recurses := true, plainKeys := false, apart := false, narrowed := true }
def CrossRaiseUptoSaid : Prop := crossRaiseUptoRow.holds Try.pinned (OpenSpec.upto crossRaiseSpec)

/-- 'fencepostlaw14.CrossStrict', WHERE WHAT IT READS IS OF BULK AT MOST 1048576: true; the input reads as it did. -/
def crossStrictUptoRow : OpenClaim := { program := "yteieinhgdjjdoaa", sum := "1324d60a3aac629dfd7ab243124d92d55d162be858d2bf4cd4fa79a071371564", func := "fencepost/fencepostlaw14.CrossStrict", spec := "crossStrict", unfollowed := true, recurses := true, plainKeys := false, apart := false, narrowed := true }
def CrossStrictUptoSaid : Prop := crossStrictUptoRow.holds Try.pinned (OpenSpec.upto crossStrictSpec)

/-- 'fencepostlaw14.CrossNone', WHERE WHAT IT READS IS OF BULK AT MOST 1048576: true; the input reads as it did. -/
def crossNoneUptoRow : OpenClaim := { program := "yteieinhgdjjdoaa", sum := "1324d60a3aac629dfd7ab243124d92d55d162be858d2bf4cd4fa79a071371564", func := "fencepost/fencepostlaw14.CrossNone", spec := "crossNone", unfollowed := true, recurses := true, plainKeys := false, apart := false, narrowed := true }
def CrossNoneUptoSaid : Prop := crossNoneUptoRow.holds Try.pinned (OpenSpec.upto crossNoneSpec)

end Rows
end Go.Proofs.Yteieinhgdjjdoaa
