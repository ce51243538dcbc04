/-
  No cell of these rows narrows 'for every input' (looked for: loops, veiled, ifaces, maps, wideKeys, modest, calm, conditions, laid).
  DERIVED. THE GIVEN ROWS OF THIS SEAT. 6 by the template 'for every input the law returns true; each argument reads behind the call as it read before'; 0 by the template 'total and deterministic' (their statements: YtaaekhmklkidmaaTotals.lean).
  GIVEN WITH THE SEED: the statements are not yours to turn. If you find one false, say at which input.
  Laid BY PROGRAM, IN A SANDBOX (cutbox-rows.mjs): the forced cells as the released guide's own fill.sh prints them over the translation 7127c3f17c1686fb… (all of the seat's roots in one cut). By AI agents, Wed Nov 11 2026. No macro, syntax, notation, axiom, sorry.
-/
import Derived.Test.YtaaekhmklkidmaaChecked
import GoSem.Claim
import GoSem.ClaimJoined
import GoSem.ClaimMapViews
import Derived.JoinedTies
import Derived.KernelRfl
namespace Go.Proofs.Ytaaekhmklkidmaa
/- THE CELL 'sum', in the pinned program and in every row, IS THE sha256 OF THE DUMP (.gsa) THAT YtaaekhmklkidmaaProg.lean LOADS. Nothing in Lean hashes anything: it is a label: what it is worth is what the hold of that sum in a sandbox is worth. -/
noncomputable def Try.pinned : Pinned := { name := "ytaaekhmklkidmaa", sum := "7127c3f17c1686fba3176958fd18b4f533f0c4c39eb15fd35b2283840929aea7", checked := Try.checked }
namespace Rows
def none {H : Type} : Left H := { results := [], args := [] }

/-- 'tendrillaw04.LineReads': WHATEVER THE INPUT: true; the input reads as it did. -/
def lineReadsSpec : ChangeSpec := { name := "lineReads", fn := fun _ => fun
  | [d1, d2] => { results := [.lit (.bool true)], args := [d1, d2] }
  | _ => none }
def lineReadsRow : OpenClaim := { program := "ytaaekhmklkidmaa", sum := "7127c3f17c1686fba3176958fd18b4f533f0c4c39eb15fd35b2283840929aea7", func := "tendril/tendrillaw04.LineReads", spec := "lineReads", unfollowed := true, recurses := true, apart := false }
def LineReadsSaid : Prop := lineReadsRow.holds Try.pinned (OpenSpec.ofChange lineReadsSpec)

/-- ITS FALSE NEIGHBOUR: 'it returns false'. Refute it at one input. -/
def lineReadsWrong : ChangeSpec := { name := "lineReads", fn := fun _ => fun
  | [d1, d2] => { results := [.lit (.bool false)], args := [d1, d2] }
  | _ => none }
def LineReadsWrongFalsely : Prop := lineReadsRow.holds Try.pinned (OpenSpec.ofChange lineReadsWrong)

/-- 'tendrillaw04.LinePlain': WHATEVER THE INPUT: true; the input reads as it did. -/
def linePlainSpec : ChangeSpec := { name := "linePlain", fn := fun _ => fun
  | [d] => { results := [.lit (.bool true)], args := [d] }
  | _ => none }
def linePlainRow : OpenClaim := { program := "ytaaekhmklkidmaa", sum := "7127c3f17c1686fba3176958fd18b4f533f0c4c39eb15fd35b2283840929aea7", func := "tendril/tendrillaw04.LinePlain", spec := "linePlain", unfollowed := true, recurses := true, apart := false }
def LinePlainSaid : Prop := linePlainRow.holds Try.pinned (OpenSpec.ofChange linePlainSpec)

/-- ITS FALSE NEIGHBOUR: 'it returns false'. Refute it at one input. -/
def linePlainWrong : ChangeSpec := { name := "linePlain", fn := fun _ => fun
  | [d] => { results := [.lit (.bool false)], args := [d] }
  | _ => none }
def LinePlainWrongFalsely : Prop := linePlainRow.holds Try.pinned (OpenSpec.ofChange linePlainWrong)

/-- 'tendrillaw04.LineParts': WHATEVER THE INPUT: true; the input reads as it did. -/
def linePartsSpec : ChangeSpec := { name := "lineParts", fn := fun _ => fun
  | [d1, d2] => { results := [.lit (.bool true)], args := [d1, d2] }
  | _ => none }
def linePartsRow : OpenClaim := { program := "ytaaekhmklkidmaa", sum := "7127c3f17c1686fba3176958fd18b4f533f0c4c39eb15fd35b2283840929aea7", func := "tendril/tendrillaw04.LineParts", spec := "lineParts", unfollowed := true, recurses := true, apart := false }
def LinePartsSaid : Prop := linePartsRow.holds Try.pinned (OpenSpec.ofChange linePartsSpec)

/-- ITS FALSE NEIGHBOUR: 'it returns false'. Refute it at one input. -/
def linePartsWrong : ChangeSpec := { name := "lineParts", fn := fun _ => fun
  | [d1, d2] => { results := [.lit (.bool false)], args := [d1, d2] }
  | _ => none }
def LinePartsWrongFalsely : Prop := linePartsRow.holds Try.pinned (OpenSpec.ofChange linePartsWrong)

/-- 'tendrillaw04.LineBack': WHATEVER THE INPUT: true; the input reads as it did. -/
def lineBackSpec : ChangeSpec := { name := "lineBack", fn := fun _ => fun
  | [d1, d2] => { results := [.lit (.bool true)], args := [d1, d2] }
  | _ => none }
def lineBackRow : OpenClaim := { program := "ytaaekhmklkidmaa", sum := "7127c3f17c1686fba3176958fd18b4f533f0c4c39eb15fd35b2283840929aea7", func := "tendril/tendrillaw04.LineBack", spec := "lineBack", unfollowed := true, recurses := true, apart := false }
def LineBackSaid : Prop := lineBackRow.holds Try.pinned (OpenSpec.ofChange lineBackSpec)

/-- ITS FALSE NEIGHBOUR: 'it returns false'. Refute it at one input. -/
def lineBackWrong : ChangeSpec := { name := "lineBack", fn := fun _ => fun
  | [d1, d2] => { results := [.lit (.bool false)], args := [d1, d2] }
  | _ => none }
def LineBackWrongFalsely : Prop := lineBackRow.holds Try.pinned (OpenSpec.ofChange lineBackWrong)

/-- 'tendrillaw04.LinePicks': WHATEVER THE INPUT: true; the input reads as it did. -/
def linePicksSpec : ChangeSpec := { name := "linePicks", fn := fun _ => fun
  | [d1, d2, d3] => { results := [.lit (.bool true)], args := [d1, d2, d3] }
  | _ => none }
def linePicksRow : OpenClaim := { program := "ytaaekhmklkidmaa", sum := "7127c3f17c1686fba3176958fd18b4f533f0c4c39eb15fd35b2283840929aea7", func := "tendril/tendrillaw04.LinePicks", spec := "linePicks", unfollowed := true, recurses := true, apart := false }
def LinePicksSaid : Prop := linePicksRow.holds Try.pinned (OpenSpec.ofChange linePicksSpec)

/-- ITS FALSE NEIGHBOUR: 'it returns false'. Refute it at one input. -/
def linePicksWrong : ChangeSpec := { name := "linePicks", fn := fun _ => fun
  | [d1, d2, d3] => { results := [.lit (.bool false)], args := [d1, d2, d3] }
  | _ => none }
def LinePicksWrongFalsely : Prop := linePicksRow.holds Try.pinned (OpenSpec.ofChange linePicksWrong)

/-- 'tendrillaw04.LineWrites': WHATEVER THE INPUT: true; the input reads as it did. -/
def lineWritesSpec : ChangeSpec := { name := "lineWrites", fn := fun _ => fun
  | [d1, d2, d3] => { results := [.lit (.bool true)], args := [d1, d2, d3] }
  | _ => none }
def lineWritesRow : OpenClaim := { program := "ytaaekhmklkidmaa", sum := "7127c3f17c1686fba3176958fd18b4f533f0c4c39eb15fd35b2283840929aea7", func := "tendril/tendrillaw04.LineWrites", spec := "lineWrites", unfollowed := true, recurses := true, apart := false }
def LineWritesSaid : Prop := lineWritesRow.holds Try.pinned (OpenSpec.ofChange lineWritesSpec)

/-- ITS FALSE NEIGHBOUR: 'it returns false'. Refute it at one input. -/
def lineWritesWrong : ChangeSpec := { name := "lineWrites", fn := fun _ => fun
  | [d1, d2, d3] => { results := [.lit (.bool false)], args := [d1, d2, d3] }
  | _ => none }
def LineWritesWrongFalsely : Prop := lineWritesRow.holds Try.pinned (OpenSpec.ofChange lineWritesWrong)

/- THE SECOND FORM. 'bulk': how many values and letters a reading holds, each counted each time it is reached (what is shared counts as often as it is met; a slice's spare places count too). A statement '..UptoSaid' is the law's where the arguments, and the package variables that the reading takes, are together of bulk at most 1048576: NARROWER than '..Said'. Prove '..Said' where nothing that the law and all that it calls make is longer than what came in: it says more and counts as full. Else prove '..UptoSaid'. A law counts once. -/
mutual
def uptoBulk {H : Type} : DataW H → Nat
  | .lit (.string bytes) => bytes.length + 1
  | .lit _ => 1
  | .nil => 1
  | .ptr d => uptoBulk d + 1
  | .slice elems spare => uptoBulkAll elems + uptoBulkAll spare + 1
  | .agg parts => uptoBulkAll parts + 1
  | .iface _ d => uptoBulk d + 1
  | .map entries => uptoBulkEntries entries + 1
  | .held _ => 1
def uptoBulkAll {H : Type} : List (DataW H) → Nat
  | [] => 0
  | d :: r => uptoBulk d + uptoBulkAll r
def uptoBulkEntries {H : Type} : List (Lit × DataW H) → Nat
  | [] => 0
  | x :: r => uptoBulkEntry x + uptoBulkEntries r
def uptoBulkEntry {H : Type} : Lit × DataW H → Nat
  | (.string bytes, d) => bytes.length + uptoBulk d + 1
  | (_, d) => uptoBulk d + 1
 end
def uptoSmall : (H : Type) → List (DataW H) → Bool := fun _ ds => decide (uptoBulkAll ds ≤ 1048576)
def OpenSpec.upto (s : _root_.Go.ChangeSpec) : _root_.Go.OpenSpec := { _root_.Go.OpenSpec.ofChange s with cond := some uptoSmall }

/-- 'tendrillaw04.LineReads', WHERE WHAT IT READS IS OF BULK AT MOST 1048576: true; the input reads as it did. -/
def lineReadsUptoRow : OpenClaim := { program := "ytaaekhmklkidmaa", sum := "7127c3f17c1686fba3176958fd18b4f533f0c4c39eb15fd35b2283840929aea7", func := "tendril/tendrillaw04.LineReads", spec := "lineReads", unfollowed := true, recurses := true, apart := false, narrowed := true }
def LineReadsUptoSaid : Prop := lineReadsUptoRow.holds Try.pinned (OpenSpec.upto lineReadsSpec)

/-- 'tendrillaw04.LinePlain', WHERE WHAT IT READS IS OF BULK AT MOST 1048576: true; the input reads as it did. -/
def linePlainUptoRow : OpenClaim := { program := "ytaaekhmklkidmaa", sum := "7127c3f17c1686fba3176958fd18b4f533f0c4c39eb15fd35b2283840929aea7", func := "tendril/tendrillaw04.LinePlain", spec := "linePlain", unfollowed := true, recurses := true, apart := false, narrowed := true }
def LinePlainUptoSaid : Prop := linePlainUptoRow.holds Try.pinned (OpenSpec.upto linePlainSpec)

/-- 'tendrillaw04.LineParts', WHERE WHAT IT READS IS OF BULK AT MOST 1048576: true; the input reads as it did. -/
def linePartsUptoRow : OpenClaim := { program := "ytaaekhmklkidmaa", sum := "7127c3f17c1686fba3176958fd18b4f533f0c4c39eb15fd35b2283840929aea7", func := "tendril/tendrillaw04.LineParts", spec := "lineParts", unfollowed := true, recurses := true, apart := false, narrowed := true }
def LinePartsUptoSaid : Prop := linePartsUptoRow.holds Try.pinned (OpenSpec.upto linePartsSpec)

/-- 'tendrillaw04.LineBack', WHERE WHAT IT READS IS OF BULK AT MOST 1048576: true; the input reads as it did. -/
def lineBackUptoRow : OpenClaim := { program := "ytaaekhmklkidmaa", sum := "7127c3f17c1686fba3176958fd18b4f533f0c4c39eb15fd35b2283840929aea7", func := "tendril/tendrillaw04.LineBack", spec := "lineBack", unfollowed := true, recurses := true, apart := false, narrowed := true }
def LineBackUptoSaid : Prop := lineBackUptoRow.holds Try.pinned (OpenSpec.upto lineBackSpec)

/-- 'tendrillaw04.LinePicks', WHERE WHAT IT READS IS OF BULK AT MOST 1048576: true; the input reads as it did. -/
def linePicksUptoRow : OpenClaim := { program := "ytaaekhmklkidmaa", sum := "7127c3f17c1686fba3176958fd18b4f533f0c4c39eb15fd35b2283840929aea7", func := "tendril/tendrillaw04.LinePicks", spec := "linePicks", unfollowed := true, recurses := true, apart := false, narrowed := true }
def LinePicksUptoSaid : Prop := linePicksUptoRow.holds Try.pinned (OpenSpec.upto linePicksSpec)

/-- 'tendrillaw04.LineWrites', WHERE WHAT IT READS IS OF BULK AT MOST 1048576: true; the input reads as it did. -/
def lineWritesUptoRow : OpenClaim := { program := "ytaaekhmklkidmaa", sum := "7127c3f17c1686fba3176958fd18b4f533f0c4c39eb15fd35b2283840929aea7", func := "tendril/tendrillaw04.LineWrites", spec := "lineWrites", unfollowed := true, recurses := true, apart := false, narrowed := true }
def LineWritesUptoSaid : Prop := lineWritesUptoRow.holds Try.pinned (OpenSpec.upto lineWritesSpec)

end Rows
end Go.Proofs.Ytaaekhmklkidmaa
