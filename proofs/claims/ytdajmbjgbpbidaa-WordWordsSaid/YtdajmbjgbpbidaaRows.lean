/-
  No cell of these rows narrows 'for every input' (looked for: loops, veiled, ifaces, maps, wideKeys, modest, calm, conditions, laid).
  DERIVED. THE GIVEN ROWS OF THIS SEAT. 6 by the template 'for every input the law returns true; each argument reads behind the call as it read before'; 0 by the template 'total and deterministic' (their statements: YtdajmbjgbpbidaaTotals.lean).
  GIVEN WITH THE SEED: the statements are not yours to turn. If you find one false, say at which input.
  Laid BY PROGRAM, IN A SANDBOX (cutbox-rows.mjs): the forced cells as the released guide's own fill.sh prints them over the translation d33ece19f6b73ba5… (all of the seat's roots in one cut). By AI agents, Wed Nov 11 2026. No macro, syntax, notation, axiom, sorry.
-/
import Derived.Test.YtdajmbjgbpbidaaChecked
import GoSem.Claim
import GoSem.ClaimJoined
import GoSem.ClaimMapViews
import Derived.JoinedTies
import Derived.KernelRfl
namespace Go.Proofs.Ytdajmbjgbpbidaa
/- THE CELL 'sum', in the pinned program and in every row, IS THE sha256 OF THE DUMP (.gsa) THAT YtdajmbjgbpbidaaProg.lean LOADS. Nothing in Lean hashes anything: it is a label: what it is worth is what the hold of that sum in a sandbox is worth. -/
noncomputable def Try.pinned : Pinned := { name := "ytdajmbjgbpbidaa", sum := "d33ece19f6b73ba533301d0c8025244803a6b65c64b91a5d9ad805d7b0587b6c", checked := Try.checked }
namespace Rows
def none {H : Type} : Left H := { results := [], args := [] }

/-- 'fencepostlaw02.WordTells': WHATEVER THE INPUT: true; the input reads as it did. -/
def wordTellsSpec : ChangeSpec := { name := "wordTells", fn := fun _ => fun
  | [d1, d2] => { results := [.lit (.bool true)], args := [d1, d2] }
  | _ => none }
def wordTellsRow : OpenClaim := { program := "ytdajmbjgbpbidaa", sum := "d33ece19f6b73ba533301d0c8025244803a6b65c64b91a5d9ad805d7b0587b6c", func := "fencepost/fencepostlaw02.WordTells", spec := "wordTells", inPlace := ["internal/bytealg.IndexByteString", "internal/bytealg.IndexString"], unfollowed := true, recurses := true, named := ["internal/bytealg.MaxLen"], apart := false }
def WordTellsSaid : Prop := wordTellsRow.holds Try.pinned (OpenSpec.ofChange wordTellsSpec)

/-- ITS FALSE NEIGHBOUR: 'it returns false'. Refute it at one input. -/
def wordTellsWrong : ChangeSpec := { name := "wordTells", fn := fun _ => fun
  | [d1, d2] => { results := [.lit (.bool false)], args := [d1, d2] }
  | _ => none }
def WordTellsWrongFalsely : Prop := wordTellsRow.holds Try.pinned (OpenSpec.ofChange wordTellsWrong)

/-- 'fencepostlaw02.WordLines': WHATEVER THE INPUT: true; the input reads as it did. -/
def wordLinesSpec : ChangeSpec := { name := "wordLines", fn := fun _ => fun
  | [d] => { results := [.lit (.bool true)], args := [d] }
  | _ => none }
def wordLinesRow : OpenClaim := { program := "ytdajmbjgbpbidaa", sum := "d33ece19f6b73ba533301d0c8025244803a6b65c64b91a5d9ad805d7b0587b6c", func := "fencepost/fencepostlaw02.WordLines", spec := "wordLines", inPlace := ["internal/bytealg.IndexByteString", "internal/bytealg.IndexString"], unfollowed := true, recurses := true, named := ["internal/bytealg.MaxLen"], apart := false }
def WordLinesSaid : Prop := wordLinesRow.holds Try.pinned (OpenSpec.ofChange wordLinesSpec)

/-- ITS FALSE NEIGHBOUR: 'it returns false'. Refute it at one input. -/
def wordLinesWrong : ChangeSpec := { name := "wordLines", fn := fun _ => fun
  | [d] => { results := [.lit (.bool false)], args := [d] }
  | _ => none }
def WordLinesWrongFalsely : Prop := wordLinesRow.holds Try.pinned (OpenSpec.ofChange wordLinesWrong)

/-- 'fencepostlaw02.WordWords': WHATEVER THE INPUT: true; the input reads as it did. -/
def wordWordsSpec : ChangeSpec := { name := "wordWords", fn := fun _ => fun
  | [d] => { results := [.lit (.bool true)], args := [d] }
  | _ => none }
def wordWordsRow : OpenClaim := { program := "ytdajmbjgbpbidaa", sum := "d33ece19f6b73ba533301d0c8025244803a6b65c64b91a5d9ad805d7b0587b6c", func := "fencepost/fencepostlaw02.WordWords", spec := "wordWords", inPlace := ["internal/bytealg.IndexByteString", "internal/bytealg.IndexString"], unfollowed := true, recurses := true, named := ["internal/bytealg.MaxLen"], apart := false }
def WordWordsSaid : Prop := wordWordsRow.holds Try.pinned (OpenSpec.ofChange wordWordsSpec)

/-- ITS FALSE NEIGHBOUR: 'it returns false'. Refute it at one input. -/
def wordWordsWrong : ChangeSpec := { name := "wordWords", fn := fun _ => fun
  | [d] => { results := [.lit (.bool false)], args := [d] }
  | _ => none }
def WordWordsWrongFalsely : Prop := wordWordsRow.holds Try.pinned (OpenSpec.ofChange wordWordsWrong)

/-- 'fencepostlaw02.WordParts': WHATEVER THE INPUT: true; the input reads as it did. -/
def wordPartsSpec : ChangeSpec := { name := "wordParts", fn := fun _ => fun
  | [d1, d2] => { results := [.lit (.bool true)], args := [d1, d2] }
  | _ => none }
def wordPartsRow : OpenClaim := { program := "ytdajmbjgbpbidaa", sum := "d33ece19f6b73ba533301d0c8025244803a6b65c64b91a5d9ad805d7b0587b6c", func := "fencepost/fencepostlaw02.WordParts", spec := "wordParts", inPlace := ["internal/bytealg.IndexByteString", "internal/bytealg.IndexString"], unfollowed := true, recurses := true, named := ["internal/bytealg.MaxLen"], apart := false }
def WordPartsSaid : Prop := wordPartsRow.holds Try.pinned (OpenSpec.ofChange wordPartsSpec)

/-- ITS FALSE NEIGHBOUR: 'it returns false'. Refute it at one input. -/
def wordPartsWrong : ChangeSpec := { name := "wordParts", fn := fun _ => fun
  | [d1, d2] => { results := [.lit (.bool false)], args := [d1, d2] }
  | _ => none }
def WordPartsWrongFalsely : Prop := wordPartsRow.holds Try.pinned (OpenSpec.ofChange wordPartsWrong)

/-- 'fencepostlaw02.WordRegs': WHATEVER THE INPUT: true; the input reads as it did. -/
def wordRegsSpec : ChangeSpec := { name := "wordRegs", fn := fun _ => fun
  | [d1, d2] => { results := [.lit (.bool true)], args := [d1, d2] }
  | _ => none }
def wordRegsRow : OpenClaim := { program := "ytdajmbjgbpbidaa", sum := "d33ece19f6b73ba533301d0c8025244803a6b65c64b91a5d9ad805d7b0587b6c", func := "fencepost/fencepostlaw02.WordRegs", spec := "wordRegs", inPlace := ["internal/bytealg.IndexByteString", "internal/bytealg.IndexString"], unfollowed := true, recurses := true, named := ["internal/bytealg.MaxLen"], apart := false }
def WordRegsSaid : Prop := wordRegsRow.holds Try.pinned (OpenSpec.ofChange wordRegsSpec)

/-- ITS FALSE NEIGHBOUR: 'it returns false'. Refute it at one input. -/
def wordRegsWrong : ChangeSpec := { name := "wordRegs", fn := fun _ => fun
  | [d1, d2] => { results := [.lit (.bool false)], args := [d1, d2] }
  | _ => none }
def WordRegsWrongFalsely : Prop := wordRegsRow.holds Try.pinned (OpenSpec.ofChange wordRegsWrong)

/-- 'fencepostlaw02.WordNames': WHATEVER THE INPUT: true; the input reads as it did. -/
def wordNamesSpec : ChangeSpec := { name := "wordNames", fn := fun _ => fun
  | [d1, d2] => { results := [.lit (.bool true)], args := [d1, d2] }
  | _ => none }
def wordNamesRow : OpenClaim := { program := "ytdajmbjgbpbidaa", sum := "d33ece19f6b73ba533301d0c8025244803a6b65c64b91a5d9ad805d7b0587b6c", func := "fencepost/fencepostlaw02.WordNames", spec := "wordNames", inPlace := ["internal/bytealg.IndexByteString", "internal/bytealg.IndexString"], unfollowed := true, recurses := true, named := ["internal/bytealg.MaxLen"], apart := false }
def WordNamesSaid : Prop := wordNamesRow.holds Try.pinned (OpenSpec.ofChange wordNamesSpec)

/-- ITS FALSE NEIGHBOUR: 'it returns false'. Refute it at one input. -/
def wordNamesWrong : ChangeSpec := { name := "wordNames", fn := fun _ => fun
  | [d1, d2] => { results := [.lit (.bool false)], args := [d1, d2] }
  | _ => none }
def WordNamesWrongFalsely : Prop := wordNamesRow.holds Try.pinned (OpenSpec.ofChange wordNamesWrong)

/- THE SECOND FORM. 'bulk': how many values and letters a reading holds, each counted each time it is reached (what is shared counts as often as it is met; a slice's spare places count too). A statement '..UptoSaid' is the law's where the arguments, and the package variables that the reading takes, are together of bulk at most 1048576: NARROWER than '..Said'. Prove '..Said' where nothing that the law and all that it calls make is longer than what came in: it says more and counts as full. Else prove '..UptoSaid'. A law counts once. -/
mutual
def uptoBulk {H : Type} : DataW H → Nat
  | .lit (.string bytes) => bytes.length + 1
  | .lit _ => 1
  | .nil => 1
  | .ptr d => uptoBulk d + 1
  | .slice elems spare => uptoBulkAll elems + uptoBulkAll spare + 1
  | .agg parts => uptoBulkAll parts + 1
  | .iface _ d => uptoBulk d + 1
  | .map entries => uptoBulkEntries entries + 1
  | .held _ => 1
def uptoBulkAll {H : Type} : List (DataW H) → Nat
  | [] => 0
  | d :: r => uptoBulk d + uptoBulkAll r
def uptoBulkEntries {H : Type} : List (Lit × DataW H) → Nat
  | [] => 0
  | x :: r => uptoBulkEntry x + uptoBulkEntries r
def uptoBulkEntry {H : Type} : Lit × DataW H → Nat
  | (.string bytes, d) => bytes.length + uptoBulk d + 1
  | (_, d) => uptoBulk d + 1
 end
def uptoSmall : (H : Type) → List (DataW H) → Bool := fun _ ds => decide (uptoBulkAll ds ≤ 1048576)
def OpenSpec.upto (s : _root_.Go.ChangeSpec) : _root_.Go.OpenSpec := { _root_.Go.OpenSpec.ofChange s with cond := some uptoSmall }

/-- 'fencepostlaw02.WordTells', WHERE WHAT IT READS IS OF BULK AT MOST 1048576: true; the input reads as it did. -/
def wordTellsUptoRow : OpenClaim := { program := "ytdajmbjgbpbidaa", sum := "d33ece19f6b73ba533301d0c8025244803a6b65c64b91a5d9ad805d7b0587b6c", func := "fencepost/fencepostlaw02.WordTells", spec := "wordTells", inPlace := ["internal/bytealg.IndexByteString", "internal/bytealg.IndexString"], unfollowed := true, recurses := true, named := ["internal/bytealg.MaxLen"], apart := false, narrowed := true }
def WordTellsUptoSaid : Prop := wordTellsUptoRow.holds Try.pinned (OpenSpec.upto wordTellsSpec)

/-- 'fencepostlaw02.WordLines', WHERE WHAT IT READS IS OF BULK AT MOST 1048576: true; the input reads as it did. -/
def wordLinesUptoRow : OpenClaim := { program := "ytdajmbjgbpbidaa", sum := "d33ece19f6b73ba533301d0c8025244803a6b65c64b91a5d9ad805d7b0587b6c", func := "fencepost/fencepostlaw02.WordLines", spec := "wordLines", inPlace := ["internal/bytealg.IndexByteString", "internal/bytealg.IndexString"], unfollowed := true, recurses := true, named := ["internal/bytealg.MaxLen"], apart := false, narrowed := true }
def WordLinesUptoSaid : Prop := wordLinesUptoRow.holds Try.pinned (OpenSpec.upto wordLinesSpec)

/-- 'fencepostlaw02.WordWords', WHERE WHAT IT READS IS OF BULK AT MOST 1048576: true; the input reads as it did. -/
def wordWordsUptoRow : OpenClaim := { program := "ytdajmbjgbpbidaa", sum := "d33ece19f6b73ba533301d0c8025244803a6b65c64b91a5d9ad805d7b0587b6c", func := "fencepost/fencepostlaw02.WordWords", spec := "wordWords", inPlace := ["internal/bytealg.IndexByteString", "internal/bytealg.IndexString"], unfollowed := true, recurses := true, named := ["internal/bytealg.MaxLen"], apart := false, narrowed := true }
def WordWordsUptoSaid : Prop := wordWordsUptoRow.holds Try.pinned (OpenSpec.upto wordWordsSpec)

/-- 'fencepostlaw02.WordParts', WHERE WHAT IT READS IS OF BULK AT MOST 1048576: true; the input reads as it did. -/
def wordPartsUptoRow : OpenClaim := { program := "ytdajmbjgbpbidaa", sum := "d33ece19f6b73ba533301d0c8025244803a6b65c64b91a5d9ad805d7b0587b6c", func := "fencepost/fencepostlaw02.WordParts", spec := "wordParts", inPlace := ["internal/bytealg.IndexByteString", "internal/bytealg.IndexString"], unfollowed := true, recurses := true, named := ["internal/bytealg.MaxLen"], apart := false, narrowed := true }
def WordPartsUptoSaid : Prop := wordPartsUptoRow.holds Try.pinned (OpenSpec.upto wordPartsSpec)

/-- 'fencepostlaw02.WordRegs', WHERE WHAT IT READS IS OF BULK AT MOST 1048576: true; the input reads as it did. -/
def wordRegsUptoRow : OpenClaim := { program := "ytdajmbjgbpbidaa", sum := "d33ece19f6b73ba533301d0c8025244803a6b65c64b91a5d9ad805d7b0587b6c", func := "fencepost/fencepostlaw02.WordRegs", spec := "wordRegs", inPlace := ["internal/bytealg.IndexByteString", "internal/bytealg.IndexString"], unfollowed := true, recurses := true, named := ["internal/bytealg.MaxLen"], apart := false, narrowed := true }
def WordRegsUptoSaid : Prop := wordRegsUptoRow.holds Try.pinned (OpenSpec.upto wordRegsSpec)

/-- 'fencepostlaw02.WordNames', WHERE WHAT IT READS IS OF BULK AT MOST 1048576: true; the input reads as it did. -/
def wordNamesUptoRow : OpenClaim := { program := "ytdajmbjgbpbidaa", sum := "d33ece19f6b73ba533301d0c8025244803a6b65c64b91a5d9ad805d7b0587b6c", func := "fencepost/fencepostlaw02.WordNames", spec := "wordNames", inPlace := ["internal/bytealg.IndexByteString", "internal/bytealg.IndexString"], unfollowed := true, recurses := true, named := ["internal/bytealg.MaxLen"], apart := false, narrowed := true }
def WordNamesUptoSaid : Prop := wordNamesUptoRow.holds Try.pinned (OpenSpec.upto wordNamesSpec)

end Rows
end Go.Proofs.Ytdajmbjgbpbidaa
