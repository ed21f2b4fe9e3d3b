/-
  No cell of these rows narrows 'for every input' (looked for: loops, veiled, ifaces, maps, wideKeys, modest, calm, conditions, laid).
  DERIVED. THE GIVEN ROWS OF THIS SEAT. 6 by the template 'for every input the law returns true; each argument reads behind the call as it read before'; 0 by the template 'total and deterministic' (their statements: YtoknohandclcbaaGreatTotals.lean).
  GIVEN WITH THE SEED: the statements are not yours to turn. If you find one false, say at which input.
  Laid BY PROGRAM, IN A SANDBOX (cutbox-rows.mjs): the forced cells as the released guide's own fill.sh prints them over the translation 5fe7772699a170b7… (all of the seat's roots in one cut). By AI agents, Wed Nov 11 2026. No macro, syntax, notation, axiom, sorry.
-/
import Derived.Test.YtoknohandclcbaaGreatChecked
import GoSem.Claim
import GoSem.ClaimJoined
import GoSem.ClaimMapViews
import Derived.JoinedTies
import Derived.KernelRfl
namespace Go.Proofs.YtoknohandclcbaaGreat
/- THE CELL 'sum', in the pinned program and in every row, IS THE sha256 OF THE DUMP (.gsa) THAT YtoknohandclcbaaGreatProg.lean LOADS. Nothing in Lean hashes anything: it is a label: what it is worth is what the hold of that sum in a sandbox is worth. -/
noncomputable def Tryz.pinned : Pinned := { name := "ytoknohandclcbaagreat", sum := "5fe7772699a170b7dff9e23510a0e630fe09cb6fe87ce6bf33489f81f3805777", checked := Tryz.checked }
namespace Rows
def none {H : Type} : Left H := { results := [], args := [] }

/-- 'fencepostlaw23.CertTells': WHATEVER THE INPUT: true; the input reads as it did. -/
def certTellsSpec : ChangeSpec := { name := "certTells", fn := fun _ => fun
  | [d1, d2, d3] => { results := [.lit (.bool true)], args := [d1, d2, d3] }
  | _ => none }
def certTellsRow : OpenClaim := { program := "ytoknohandclcbaagreat", sum := "5fe7772699a170b7dff9e23510a0e630fe09cb6fe87ce6bf33489f81f3805777", func := "fencepost/fencepostlaw23.CertTells", spec := "certTells", unfollowed := true, recurses := true, apart := false }
def CertTellsSaid : Prop := certTellsRow.holds Tryz.pinned (OpenSpec.ofChange certTellsSpec)

/-- ITS FALSE NEIGHBOUR: 'it returns false'. Refute it at one input. -/
def certTellsWrong : ChangeSpec := { name := "certTells", fn := fun _ => fun
  | [d1, d2, d3] => { results := [.lit (.bool false)], args := [d1, d2, d3] }
  | _ => none }
def CertTellsWrongFalsely : Prop := certTellsRow.holds Tryz.pinned (OpenSpec.ofChange certTellsWrong)

/-- 'fencepostlaw23.CertSolved': WHATEVER THE INPUT: true; the input reads as it did. -/
def certSolvedSpec : ChangeSpec := { name := "certSolved", fn := fun _ => fun
  | [d1, d2] => { results := [.lit (.bool true)], args := [d1, d2] }
  | _ => none }
def certSolvedRow : OpenClaim := { program := "ytoknohandclcbaagreat", sum := "5fe7772699a170b7dff9e23510a0e630fe09cb6fe87ce6bf33489f81f3805777", func := "fencepost/fencepostlaw23.CertSolved", spec := "certSolved", unfollowed := true, recurses := true, apart := false }
def CertSolvedSaid : Prop := certSolvedRow.holds Tryz.pinned (OpenSpec.ofChange certSolvedSpec)

/-- ITS FALSE NEIGHBOUR: 'it returns false'. Refute it at one input. -/
def certSolvedWrong : ChangeSpec := { name := "certSolved", fn := fun _ => fun
  | [d1, d2] => { results := [.lit (.bool false)], args := [d1, d2] }
  | _ => none }
def CertSolvedWrongFalsely : Prop := certSolvedRow.holds Tryz.pinned (OpenSpec.ofChange certSolvedWrong)

/-- 'fencepostlaw23.CertBeats': WHATEVER THE INPUT: true; the input reads as it did. -/
def certBeatsSpec : ChangeSpec := { name := "certBeats", fn := fun _ => fun
  | [d1, d2, d3] => { results := [.lit (.bool true)], args := [d1, d2, d3] }
  | _ => none }
def certBeatsRow : OpenClaim := { program := "ytoknohandclcbaagreat", sum := "5fe7772699a170b7dff9e23510a0e630fe09cb6fe87ce6bf33489f81f3805777", func := "fencepost/fencepostlaw23.CertBeats", spec := "certBeats", unfollowed := true, recurses := true, apart := false }
def CertBeatsSaid : Prop := certBeatsRow.holds Tryz.pinned (OpenSpec.ofChange certBeatsSpec)

/-- ITS FALSE NEIGHBOUR: 'it returns false'. Refute it at one input. -/
def certBeatsWrong : ChangeSpec := { name := "certBeats", fn := fun _ => fun
  | [d1, d2, d3] => { results := [.lit (.bool false)], args := [d1, d2, d3] }
  | _ => none }
def CertBeatsWrongFalsely : Prop := certBeatsRow.holds Tryz.pinned (OpenSpec.ofChange certBeatsWrong)

/-- 'fencepostlaw23.CertHits': WHATEVER THE INPUT: true; the input reads as it did. -/
def certHitsSpec : ChangeSpec := { name := "certHits", fn := fun _ => fun
  | [d1, d2, d3] => { results := [.lit (.bool true)], args := [d1, d2, d3] }
  | _ => none }
def certHitsRow : OpenClaim := { program := "ytoknohandclcbaagreat", sum := "5fe7772699a170b7dff9e23510a0e630fe09cb6fe87ce6bf33489f81f3805777", func := "fencepost/fencepostlaw23.CertHits", spec := "certHits", unfollowed := true, recurses := true, apart := false }
def CertHitsSaid : Prop := certHitsRow.holds Tryz.pinned (OpenSpec.ofChange certHitsSpec)

/-- ITS FALSE NEIGHBOUR: 'it returns false'. Refute it at one input. -/
def certHitsWrong : ChangeSpec := { name := "certHits", fn := fun _ => fun
  | [d1, d2, d3] => { results := [.lit (.bool false)], args := [d1, d2, d3] }
  | _ => none }
def CertHitsWrongFalsely : Prop := certHitsRow.holds Tryz.pinned (OpenSpec.ofChange certHitsWrong)

/-- 'fencepostlaw23.CertSpoilt': WHATEVER THE INPUT: true; the input reads as it did. -/
def certSpoiltSpec : ChangeSpec := { name := "certSpoilt", fn := fun _ => fun
  | [d1, d2, d3, d4] => { results := [.lit (.bool true)], args := [d1, d2, d3, d4] }
  | _ => none }
def certSpoiltRow : OpenClaim := { program := "ytoknohandclcbaagreat", sum := "5fe7772699a170b7dff9e23510a0e630fe09cb6fe87ce6bf33489f81f3805777", func := "fencepost/fencepostlaw23.CertSpoilt", spec := "certSpoilt", unfollowed := true, recurses := true, apart := false }
def CertSpoiltSaid : Prop := certSpoiltRow.holds Tryz.pinned (OpenSpec.ofChange certSpoiltSpec)

/-- ITS FALSE NEIGHBOUR: 'it returns false'. Refute it at one input. -/
def certSpoiltWrong : ChangeSpec := { name := "certSpoilt", fn := fun _ => fun
  | [d1, d2, d3, d4] => { results := [.lit (.bool false)], args := [d1, d2, d3, d4] }
  | _ => none }
def CertSpoiltWrongFalsely : Prop := certSpoiltRow.holds Tryz.pinned (OpenSpec.ofChange certSpoiltWrong)

/-- 'fencepostlaw23.CertEnds': WHATEVER THE INPUT: true; the input reads as it did. -/
def certEndsSpec : ChangeSpec := { name := "certEnds", fn := fun _ => fun
  | [d1, d2, d3, d4] => { results := [.lit (.bool true)], args := [d1, d2, d3, d4] }
  | _ => none }
def certEndsRow : OpenClaim := { program := "ytoknohandclcbaagreat", sum := "5fe7772699a170b7dff9e23510a0e630fe09cb6fe87ce6bf33489f81f3805777", func := "fencepost/fencepostlaw23.CertEnds", spec := "certEnds", unfollowed := true, recurses := true, apart := false }
def CertEndsSaid : Prop := certEndsRow.holds Tryz.pinned (OpenSpec.ofChange certEndsSpec)

/-- ITS FALSE NEIGHBOUR: 'it returns false'. Refute it at one input. -/
def certEndsWrong : ChangeSpec := { name := "certEnds", fn := fun _ => fun
  | [d1, d2, d3, d4] => { results := [.lit (.bool false)], args := [d1, d2, d3, d4] }
  | _ => none }
def CertEndsWrongFalsely : Prop := certEndsRow.holds Tryz.pinned (OpenSpec.ofChange certEndsWrong)

/- THE SECOND FORM. 'bulk': how many values and letters a reading holds, each counted each time it is reached (what is shared counts as often as it is met; a slice's spare places count too). A statement '..UptoSaid' is the law's where the arguments, and the package variables that the reading takes, are together of bulk at most 1048576: NARROWER than '..Said'. Prove '..Said' where nothing that the law and all that it calls make is longer than what came in: it says more and counts as full. Else prove '..UptoSaid'. A law counts once. -/
mutual
def uptoBulk {H : Type} : DataW H → Nat
  | .lit (.string bytes) => bytes.length + 1
  | .lit _ => 1
  | .nil => 1
  | .ptr d => uptoBulk d + 1
  | .slice elems spare => uptoBulkAll elems + uptoBulkAll spare + 1
  | .agg parts => uptoBulkAll parts + 1
  | .iface _ d => uptoBulk d + 1
  | .map entries => uptoBulkEntries entries + 1
  | .held _ => 1
def uptoBulkAll {H : Type} : List (DataW H) → Nat
  | [] => 0
  | d :: r => uptoBulk d + uptoBulkAll r
def uptoBulkEntries {H : Type} : List (Lit × DataW H) → Nat
  | [] => 0
  | x :: r => uptoBulkEntry x + uptoBulkEntries r
def uptoBulkEntry {H : Type} : Lit × DataW H → Nat
  | (.string bytes, d) => bytes.length + uptoBulk d + 1
  | (_, d) => uptoBulk d + 1
 end
def uptoSmall : (H : Type) → List (DataW H) → Bool := fun _ ds => decide (uptoBulkAll ds ≤ 1048576)
def OpenSpec.upto (s : _root_.Go.ChangeSpec) : _root_.Go.OpenSpec := { _root_.Go.OpenSpec.ofChange s with cond := some uptoSmall }

/-- 'fencepostlaw23.CertTells', WHERE WHAT IT READS IS OF BULK AT MOST 1048576: true; the input reads as it did. -/
def certTellsUptoRow : OpenClaim := { program := "ytoknohandclcbaagreat", sum := "5fe7772699a170b7dff9e23510a0e630fe09cb6fe87ce6bf33489f81f3805777", func := "fencepost/fencepostlaw23.CertTells", spec := "certTells", unfollowed := true, recurses := true, apart := false, narrowed := true }
def CertTellsUptoSaid : Prop := certTellsUptoRow.holds Tryz.pinned (OpenSpec.upto certTellsSpec)

/-- 'fencepostlaw23.CertSolved', WHERE WHAT IT READS IS OF BULK AT MOST 1048576: true; the input reads as it did. -/
def certSolvedUptoRow : OpenClaim := { program := "ytoknohandclcbaagreat", sum := "5fe7772699a170b7dff9e23510a0e630fe09cb6fe87ce6bf33489f81f3805777", func := "fencepost/fencepostlaw23.CertSolved", spec := "certSolved", unfollowed := true, recurses := true, apart := false, narrowed := true }
def CertSolvedUptoSaid : Prop := certSolvedUptoRow.holds Tryz.pinned (OpenSpec.upto certSolvedSpec)

/-- 'fencepostlaw23.CertBeats', WHERE WHAT IT READS IS OF BULK AT MOST 1048576: true; the input reads as it did. -/
def certBeatsUptoRow : OpenClaim := { program := "ytoknohandclcbaagreat", sum := "5fe7772699a170b7dff9e23510a0e630fe09cb6fe87ce6bf33489f81f3805777", func := "fencepost/fencepostlaw23.CertBeats", spec := "certBeats", unfollowed := true, recurses := true, apart := false, narrowed := true }
def CertBeatsUptoSaid : Prop := certBeatsUptoRow.holds Tryz.pinned (OpenSpec.upto certBeatsSpec)

/-- 'fencepostlaw23.CertHits', WHERE WHAT IT READS IS OF BULK AT MOST 1048576: true; the input reads as it did. -/
def certHitsUptoRow : OpenClaim := { program := "ytoknohandclcbaagreat", sum := "5fe7772699a170b7dff9e23510a0e630fe09cb6fe87ce6bf33489f81f3805777", func := "fencepost/fencepostlaw23.CertHits", spec := "certHits", unfollowed := true, recurses := true, apart := false, narrowed := true }
def CertHitsUptoSaid : Prop := certHitsUptoRow.holds Tryz.pinned (OpenSpec.upto certHitsSpec)

/-- 'fencepostlaw23.CertSpoilt', WHERE WHAT IT READS IS OF BULK AT MOST 1048576: true; the input reads as it did. -/
def certSpoiltUptoRow : OpenClaim := { program := "ytoknohandclcbaagreat", sum := "5fe7772699a170b7dff9e23510a0e630fe09cb6fe87ce6bf33489f81f3805777", func := "fencepost/fencepostlaw23.CertSpoilt", spec := "certSpoilt", unfollowed := true, recurses := true, apart := false, narrowed := true }
def CertSpoiltUptoSaid : Prop := certSpoiltUptoRow.holds Tryz.pinned (OpenSpec.upto certSpoiltSpec)

/-- 'fencepostlaw23.CertEnds', WHERE WHAT IT READS IS OF BULK AT MOST 1048576: true; the input reads as it did. -/
def certEndsUptoRow : OpenClaim := { program := "ytoknohandclcbaagreat", sum := "5fe7772699a170b7dff9e23510a0e630fe09cb6fe87ce6bf33489f81f3805777", func := "fencepost/fencepostlaw23.CertEnds", spec := "certEnds", unfollowed := true, recurses := true, apart := false, narrowed := true }
def CertEndsUptoSaid : Prop := certEndsUptoRow.holds Tryz.pinned (OpenSpec.upto certEndsSpec)

end Rows
end Go.Proofs.YtoknohandclcbaaGreat
