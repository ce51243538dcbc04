/-
  No cell of these rows narrows 'for every input' (looked for: loops, veiled, ifaces, maps, wideKeys, modest, calm, conditions, laid).
  DERIVED. THE GIVEN ROWS OF THIS SEAT. 17 by the template 'for every input the law returns true; each argument reads behind the call as it read before'; 0 by the template 'total and deterministic' (their statements: YtpehmmdbjakkpaaTotals.lean).
  GIVEN WITH THE SEED: the statements are not yours to turn. If you find one false, say at which input.
  Laid BY PROGRAM, IN A SANDBOX (cutbox-rows.mjs): the forced cells as the released guide's own fill.sh prints them over the translation a746eb236d6aecde… (all of the seat's roots in one cut). By AI agents, Wed Nov 11 2026. No macro, syntax, notation, axiom, sorry.
-/
import Derived.Test.YtpehmmdbjakkpaaChecked
import GoSem.Claim
import GoSem.ClaimJoined
import GoSem.ClaimMapViews
import Derived.JoinedTies
import Derived.KernelRfl
namespace Go.Proofs.Ytpehmmdbjakkpaa
/- THE CELL 'sum', in the pinned program and in every row, IS THE sha256 OF THE DUMP (.gsa) THAT YtpehmmdbjakkpaaProg.lean LOADS. Nothing in Lean hashes anything: it is a label: what it is worth is what the hold of that sum in a sandbox is worth. -/
noncomputable def Try.pinned : Pinned := { name := "ytpehmmdbjakkpaa", sum := "a746eb236d6aecdef1fdca92f398202e9b86c0732b51881cb9c897963df0c4a7", checked := Try.checked }
namespace Rows
def none {H : Type} : Left H := { results := [], args := [] }

/-- 'tendrillaw10.GraphEdges': WHATEVER THE INPUT: true; the input reads as it did. -/
def graphEdgesSpec : ChangeSpec := { name := "graphEdges", fn := fun _ => fun
  | [d1, d2] => { results := [.lit (.bool true)], args := [d1, d2] }
  | _ => none }
def graphEdgesRow : OpenClaim := { program := "ytpehmmdbjakkpaa", sum := "a746eb236d6aecdef1fdca92f398202e9b86c0732b51881cb9c897963df0c4a7", func := "tendril/tendrillaw10.GraphEdges", spec := "graphEdges", inPlace := ["slices.overlaps[tendril/api.Pair]"], unfollowed := true, recurses := true, apart := false }
def GraphEdgesSaid : Prop := graphEdgesRow.holds Try.pinned (OpenSpec.ofChange graphEdgesSpec)

/-- ITS FALSE NEIGHBOUR: 'it returns false'. Refute it at one input. -/
def graphEdgesWrong : ChangeSpec := { name := "graphEdges", fn := fun _ => fun
  | [d1, d2] => { results := [.lit (.bool false)], args := [d1, d2] }
  | _ => none }
def GraphEdgesWrongFalsely : Prop := graphEdgesRow.holds Try.pinned (OpenSpec.ofChange graphEdgesWrong)

/-- 'tendrillaw10.GraphFuses': WHATEVER THE INPUT: true; the input reads as it did. -/
def graphFusesSpec : ChangeSpec := { name := "graphFuses", fn := fun _ => fun
  | [d1, d2, d3, d4, d5] => { results := [.lit (.bool true)], args := [d1, d2, d3, d4, d5] }
  | _ => none }
def graphFusesRow : OpenClaim := { program := "ytpehmmdbjakkpaa", sum := "a746eb236d6aecdef1fdca92f398202e9b86c0732b51881cb9c897963df0c4a7", func := "tendril/tendrillaw10.GraphFuses", spec := "graphFuses", inPlace := ["slices.overlaps[tendril/api.Pair]"], unfollowed := true, recurses := true, apart := false }
def GraphFusesSaid : Prop := graphFusesRow.holds Try.pinned (OpenSpec.ofChange graphFusesSpec)

/-- ITS FALSE NEIGHBOUR: 'it returns false'. Refute it at one input. -/
def graphFusesWrong : ChangeSpec := { name := "graphFuses", fn := fun _ => fun
  | [d1, d2, d3, d4, d5] => { results := [.lit (.bool false)], args := [d1, d2, d3, d4, d5] }
  | _ => none }
def GraphFusesWrongFalsely : Prop := graphFusesRow.holds Try.pinned (OpenSpec.ofChange graphFusesWrong)

/-- 'tendrillaw10.GraphDoes': WHATEVER THE INPUT: true; the input reads as it did. -/
def graphDoesSpec : ChangeSpec := { name := "graphDoes", fn := fun _ => fun
  | [d1, d2, d3, d4] => { results := [.lit (.bool true)], args := [d1, d2, d3, d4] }
  | _ => none }
def graphDoesRow : OpenClaim := { program := "ytpehmmdbjakkpaa", sum := "a746eb236d6aecdef1fdca92f398202e9b86c0732b51881cb9c897963df0c4a7", func := "tendril/tendrillaw10.GraphDoes", spec := "graphDoes", inPlace := ["slices.overlaps[tendril/api.Pair]"], unfollowed := true, recurses := true, apart := false }
def GraphDoesSaid : Prop := graphDoesRow.holds Try.pinned (OpenSpec.ofChange graphDoesSpec)

/-- ITS FALSE NEIGHBOUR: 'it returns false'. Refute it at one input. -/
def graphDoesWrong : ChangeSpec := { name := "graphDoes", fn := fun _ => fun
  | [d1, d2, d3, d4] => { results := [.lit (.bool false)], args := [d1, d2, d3, d4] }
  | _ => none }
def GraphDoesWrongFalsely : Prop := graphDoesRow.holds Try.pinned (OpenSpec.ofChange graphDoesWrong)

/-- 'tendrillaw10.GraphProps': WHATEVER THE INPUT: true; the input reads as it did. -/
def graphPropsSpec : ChangeSpec := { name := "graphProps", fn := fun _ => fun
  | [d1, d2, d3, d4, d5] => { results := [.lit (.bool true)], args := [d1, d2, d3, d4, d5] }
  | _ => none }
def graphPropsRow : OpenClaim := { program := "ytpehmmdbjakkpaa", sum := "a746eb236d6aecdef1fdca92f398202e9b86c0732b51881cb9c897963df0c4a7", func := "tendril/tendrillaw10.GraphProps", spec := "graphProps", inPlace := ["slices.overlaps[tendril/api.Pair]"], unfollowed := true, recurses := true, apart := false }
def GraphPropsSaid : Prop := graphPropsRow.holds Try.pinned (OpenSpec.ofChange graphPropsSpec)

/-- ITS FALSE NEIGHBOUR: 'it returns false'. Refute it at one input. -/
def graphPropsWrong : ChangeSpec := { name := "graphProps", fn := fun _ => fun
  | [d1, d2, d3, d4, d5] => { results := [.lit (.bool false)], args := [d1, d2, d3, d4, d5] }
  | _ => none }
def GraphPropsWrongFalsely : Prop := graphPropsRow.holds Try.pinned (OpenSpec.ofChange graphPropsWrong)

/-- 'tendrillaw10.GraphLooks': WHATEVER THE INPUT: true; the input reads as it did. -/
def graphLooksSpec : ChangeSpec := { name := "graphLooks", fn := fun _ => fun
  | [d1, d2, d3] => { results := [.lit (.bool true)], args := [d1, d2, d3] }
  | _ => none }
def graphLooksRow : OpenClaim := { program := "ytpehmmdbjakkpaa", sum := "a746eb236d6aecdef1fdca92f398202e9b86c0732b51881cb9c897963df0c4a7", func := "tendril/tendrillaw10.GraphLooks", spec := "graphLooks", inPlace := ["slices.overlaps[tendril/api.Pair]"], unfollowed := true, recurses := true, apart := false }
def GraphLooksSaid : Prop := graphLooksRow.holds Try.pinned (OpenSpec.ofChange graphLooksSpec)

/-- ITS FALSE NEIGHBOUR: 'it returns false'. Refute it at one input. -/
def graphLooksWrong : ChangeSpec := { name := "graphLooks", fn := fun _ => fun
  | [d1, d2, d3] => { results := [.lit (.bool false)], args := [d1, d2, d3] }
  | _ => none }
def GraphLooksWrongFalsely : Prop := graphLooksRow.holds Try.pinned (OpenSpec.ofChange graphLooksWrong)

/-- 'tendrillaw10.GraphStays': WHATEVER THE INPUT: true; the input reads as it did. -/
def graphStaysSpec : ChangeSpec := { name := "graphStays", fn := fun _ => fun
  | [d1, d2, d3, d4, d5, d6] => { results := [.lit (.bool true)], args := [d1, d2, d3, d4, d5, d6] }
  | _ => none }
def graphStaysRow : OpenClaim := { program := "ytpehmmdbjakkpaa", sum := "a746eb236d6aecdef1fdca92f398202e9b86c0732b51881cb9c897963df0c4a7", func := "tendril/tendrillaw10.GraphStays", spec := "graphStays", inPlace := ["slices.overlaps[tendril/api.Pair]"], unfollowed := true, recurses := true, apart := false }
def GraphStaysSaid : Prop := graphStaysRow.holds Try.pinned (OpenSpec.ofChange graphStaysSpec)

/-- ITS FALSE NEIGHBOUR: 'it returns false'. Refute it at one input. -/
def graphStaysWrong : ChangeSpec := { name := "graphStays", fn := fun _ => fun
  | [d1, d2, d3, d4, d5, d6] => { results := [.lit (.bool false)], args := [d1, d2, d3, d4, d5, d6] }
  | _ => none }
def GraphStaysWrongFalsely : Prop := graphStaysRow.holds Try.pinned (OpenSpec.ofChange graphStaysWrong)

/-- 'tendrillaw11.ApplyAll': WHATEVER THE INPUT: true; the input reads as it did. -/
def applyAllSpec : ChangeSpec := { name := "applyAll", fn := fun _ => fun
  | [d1, d2] => { results := [.lit (.bool true)], args := [d1, d2] }
  | _ => none }
def applyAllRow : OpenClaim := { program := "ytpehmmdbjakkpaa", sum := "a746eb236d6aecdef1fdca92f398202e9b86c0732b51881cb9c897963df0c4a7", func := "tendril/tendrillaw11.ApplyAll", spec := "applyAll", inPlace := ["slices.overlaps[tendril/api.Pair]"], unfollowed := true, recurses := true, apart := false }
def ApplyAllSaid : Prop := applyAllRow.holds Try.pinned (OpenSpec.ofChange applyAllSpec)

/-- ITS FALSE NEIGHBOUR: 'it returns false'. Refute it at one input. -/
def applyAllWrong : ChangeSpec := { name := "applyAll", fn := fun _ => fun
  | [d1, d2] => { results := [.lit (.bool false)], args := [d1, d2] }
  | _ => none }
def ApplyAllWrongFalsely : Prop := applyAllRow.holds Try.pinned (OpenSpec.ofChange applyAllWrong)

/-- 'tendrillaw11.ApplyDoes': WHATEVER THE INPUT: true; the input reads as it did. -/
def applyDoesSpec : ChangeSpec := { name := "applyDoes", fn := fun _ => fun
  | [d1, d2, d3] => { results := [.lit (.bool true)], args := [d1, d2, d3] }
  | _ => none }
def applyDoesRow : OpenClaim := { program := "ytpehmmdbjakkpaa", sum := "a746eb236d6aecdef1fdca92f398202e9b86c0732b51881cb9c897963df0c4a7", func := "tendril/tendrillaw11.ApplyDoes", spec := "applyDoes", inPlace := ["slices.overlaps[tendril/api.Pair]"], unfollowed := true, recurses := true, apart := false }
def ApplyDoesSaid : Prop := applyDoesRow.holds Try.pinned (OpenSpec.ofChange applyDoesSpec)

/-- ITS FALSE NEIGHBOUR: 'it returns false'. Refute it at one input. -/
def applyDoesWrong : ChangeSpec := { name := "applyDoes", fn := fun _ => fun
  | [d1, d2, d3] => { results := [.lit (.bool false)], args := [d1, d2, d3] }
  | _ => none }
def ApplyDoesWrongFalsely : Prop := applyDoesRow.holds Try.pinned (OpenSpec.ofChange applyDoesWrong)

/-- 'tendrillaw11.ApplyTakes': WHATEVER THE INPUT: true; the input reads as it did. -/
def applyTakesSpec : ChangeSpec := { name := "applyTakes", fn := fun _ => fun
  | [d1, d2, d3] => { results := [.lit (.bool true)], args := [d1, d2, d3] }
  | _ => none }
def applyTakesRow : OpenClaim := { program := "ytpehmmdbjakkpaa", sum := "a746eb236d6aecdef1fdca92f398202e9b86c0732b51881cb9c897963df0c4a7", func := "tendril/tendrillaw11.ApplyTakes", spec := "applyTakes", inPlace := ["slices.overlaps[tendril/api.Pair]"], unfollowed := true, recurses := true, apart := false }
def ApplyTakesSaid : Prop := applyTakesRow.holds Try.pinned (OpenSpec.ofChange applyTakesSpec)

/-- ITS FALSE NEIGHBOUR: 'it returns false'. Refute it at one input. -/
def applyTakesWrong : ChangeSpec := { name := "applyTakes", fn := fun _ => fun
  | [d1, d2, d3] => { results := [.lit (.bool false)], args := [d1, d2, d3] }
  | _ => none }
def ApplyTakesWrongFalsely : Prop := applyTakesRow.holds Try.pinned (OpenSpec.ofChange applyTakesWrong)

/-- 'tendrillaw11.ApplyParts': WHATEVER THE INPUT: true; the input reads as it did. -/
def applyPartsSpec : ChangeSpec := { name := "applyParts", fn := fun _ => fun
  | [d1, d2, d3] => { results := [.lit (.bool true)], args := [d1, d2, d3] }
  | _ => none }
def applyPartsRow : OpenClaim := { program := "ytpehmmdbjakkpaa", sum := "a746eb236d6aecdef1fdca92f398202e9b86c0732b51881cb9c897963df0c4a7", func := "tendril/tendrillaw11.ApplyParts", spec := "applyParts", inPlace := ["slices.overlaps[tendril/api.Pair]"], unfollowed := true, recurses := true, apart := false }
def ApplyPartsSaid : Prop := applyPartsRow.holds Try.pinned (OpenSpec.ofChange applyPartsSpec)

/-- ITS FALSE NEIGHBOUR: 'it returns false'. Refute it at one input. -/
def applyPartsWrong : ChangeSpec := { name := "applyParts", fn := fun _ => fun
  | [d1, d2, d3] => { results := [.lit (.bool false)], args := [d1, d2, d3] }
  | _ => none }
def ApplyPartsWrongFalsely : Prop := applyPartsRow.holds Try.pinned (OpenSpec.ofChange applyPartsWrong)

/-- 'tendrillaw11.ApplyFits': WHATEVER THE INPUT: true; the input reads as it did. -/
def applyFitsSpec : ChangeSpec := { name := "applyFits", fn := fun _ => fun
  | [d1, d2, d3, d4, d5] => { results := [.lit (.bool true)], args := [d1, d2, d3, d4, d5] }
  | _ => none }
def applyFitsRow : OpenClaim := { program := "ytpehmmdbjakkpaa", sum := "a746eb236d6aecdef1fdca92f398202e9b86c0732b51881cb9c897963df0c4a7", func := "tendril/tendrillaw11.ApplyFits", spec := "applyFits", inPlace := ["slices.overlaps[tendril/api.Pair]"], unfollowed := true, recurses := true, apart := false }
def ApplyFitsSaid : Prop := applyFitsRow.holds Try.pinned (OpenSpec.ofChange applyFitsSpec)

/-- ITS FALSE NEIGHBOUR: 'it returns false'. Refute it at one input. -/
def applyFitsWrong : ChangeSpec := { name := "applyFits", fn := fun _ => fun
  | [d1, d2, d3, d4, d5] => { results := [.lit (.bool false)], args := [d1, d2, d3, d4, d5] }
  | _ => none }
def ApplyFitsWrongFalsely : Prop := applyFitsRow.holds Try.pinned (OpenSpec.ofChange applyFitsWrong)

/-- 'tendrillaw11.ApplyFull': WHATEVER THE INPUT: true; the input reads as it did. -/
def applyFullSpec : ChangeSpec := { name := "applyFull", fn := fun _ => fun
  | [d1, d2, d3] => { results := [.lit (.bool true)], args := [d1, d2, d3] }
  | _ => none }
def applyFullRow : OpenClaim := { program := "ytpehmmdbjakkpaa", sum := "a746eb236d6aecdef1fdca92f398202e9b86c0732b51881cb9c897963df0c4a7", func := "tendril/tendrillaw11.ApplyFull", spec := "applyFull", inPlace := ["slices.overlaps[tendril/api.Pair]"], unfollowed := true, recurses := true, apart := false }
def ApplyFullSaid : Prop := applyFullRow.holds Try.pinned (OpenSpec.ofChange applyFullSpec)

/-- ITS FALSE NEIGHBOUR: 'it returns false'. Refute it at one input. -/
def applyFullWrong : ChangeSpec := { name := "applyFull", fn := fun _ => fun
  | [d1, d2, d3] => { results := [.lit (.bool false)], args := [d1, d2, d3] }
  | _ => none }
def ApplyFullWrongFalsely : Prop := applyFullRow.holds Try.pinned (OpenSpec.ofChange applyFullWrong)

/-- 'tendrillaw11.ApplyFails': WHATEVER THE INPUT: true; the input reads as it did. -/
def applyFailsSpec : ChangeSpec := { name := "applyFails", fn := fun _ => fun
  | [d1, d2, d3] => { results := [.lit (.bool true)], args := [d1, d2, d3] }
  | _ => none }
def applyFailsRow : OpenClaim := { program := "ytpehmmdbjakkpaa", sum := "a746eb236d6aecdef1fdca92f398202e9b86c0732b51881cb9c897963df0c4a7", func := "tendril/tendrillaw11.ApplyFails", spec := "applyFails", inPlace := ["slices.overlaps[tendril/api.Pair]"], unfollowed := true, recurses := true, apart := false }
def ApplyFailsSaid : Prop := applyFailsRow.holds Try.pinned (OpenSpec.ofChange applyFailsSpec)

/-- ITS FALSE NEIGHBOUR: 'it returns false'. Refute it at one input. -/
def applyFailsWrong : ChangeSpec := { name := "applyFails", fn := fun _ => fun
  | [d1, d2, d3] => { results := [.lit (.bool false)], args := [d1, d2, d3] }
  | _ => none }
def ApplyFailsWrongFalsely : Prop := applyFailsRow.holds Try.pinned (OpenSpec.ofChange applyFailsWrong)

/-- 'tendrillaw13.LinCuts': WHATEVER THE INPUT: true; the input reads as it did. -/
def linCutsSpec : ChangeSpec := { name := "linCuts", fn := fun _ => fun
  | [d1, d2, d3] => { results := [.lit (.bool true)], args := [d1, d2, d3] }
  | _ => none }
def linCutsRow : OpenClaim := { program := "ytpehmmdbjakkpaa", sum := "a746eb236d6aecdef1fdca92f398202e9b86c0732b51881cb9c897963df0c4a7", func := "tendril/tendrillaw13.LinCuts", spec := "linCuts", inPlace := ["slices.overlaps[tendril/api.Pair]"], unfollowed := true, recurses := true, apart := false }
def LinCutsSaid : Prop := linCutsRow.holds Try.pinned (OpenSpec.ofChange linCutsSpec)

/-- ITS FALSE NEIGHBOUR: 'it returns false'. Refute it at one input. -/
def linCutsWrong : ChangeSpec := { name := "linCuts", fn := fun _ => fun
  | [d1, d2, d3] => { results := [.lit (.bool false)], args := [d1, d2, d3] }
  | _ => none }
def LinCutsWrongFalsely : Prop := linCutsRow.holds Try.pinned (OpenSpec.ofChange linCutsWrong)

/-- 'tendrillaw13.LinWrong': WHATEVER THE INPUT: true; the input reads as it did. -/
def linWrongSpec : ChangeSpec := { name := "linWrong", fn := fun _ => fun
  | [d1, d2, d3] => { results := [.lit (.bool true)], args := [d1, d2, d3] }
  | _ => none }
def linWrongRow : OpenClaim := { program := "ytpehmmdbjakkpaa", sum := "a746eb236d6aecdef1fdca92f398202e9b86c0732b51881cb9c897963df0c4a7", func := "tendril/tendrillaw13.LinWrong", spec := "linWrong", inPlace := ["slices.overlaps[tendril/api.Pair]"], unfollowed := true, recurses := true, apart := false }
def LinWrongSaid : Prop := linWrongRow.holds Try.pinned (OpenSpec.ofChange linWrongSpec)

/-- ITS FALSE NEIGHBOUR: 'it returns false'. Refute it at one input. -/
def linWrongWrong : ChangeSpec := { name := "linWrong", fn := fun _ => fun
  | [d1, d2, d3] => { results := [.lit (.bool false)], args := [d1, d2, d3] }
  | _ => none }
def LinWrongWrongFalsely : Prop := linWrongRow.holds Try.pinned (OpenSpec.ofChange linWrongWrong)

/-- 'tendrillaw13.LinSerial': WHATEVER THE INPUT: true; the input reads as it did. -/
def linSerialSpec : ChangeSpec := { name := "linSerial", fn := fun _ => fun
  | [d1, d2] => { results := [.lit (.bool true)], args := [d1, d2] }
  | _ => none }
def linSerialRow : OpenClaim := { program := "ytpehmmdbjakkpaa", sum := "a746eb236d6aecdef1fdca92f398202e9b86c0732b51881cb9c897963df0c4a7", func := "tendril/tendrillaw13.LinSerial", spec := "linSerial", inPlace := ["slices.overlaps[tendril/api.Pair]"], unfollowed := true, recurses := true, apart := false }
def LinSerialSaid : Prop := linSerialRow.holds Try.pinned (OpenSpec.ofChange linSerialSpec)

/-- ITS FALSE NEIGHBOUR: 'it returns false'. Refute it at one input. -/
def linSerialWrong : ChangeSpec := { name := "linSerial", fn := fun _ => fun
  | [d1, d2] => { results := [.lit (.bool false)], args := [d1, d2] }
  | _ => none }
def LinSerialWrongFalsely : Prop := linSerialRow.holds Try.pinned (OpenSpec.ofChange linSerialWrong)

/-- 'tendrillaw13.LinFound': WHATEVER THE INPUT: true; the input reads as it did. -/
def linFoundSpec : ChangeSpec := { name := "linFound", fn := fun _ => fun
  | [d1, d2] => { results := [.lit (.bool true)], args := [d1, d2] }
  | _ => none }
def linFoundRow : OpenClaim := { program := "ytpehmmdbjakkpaa", sum := "a746eb236d6aecdef1fdca92f398202e9b86c0732b51881cb9c897963df0c4a7", func := "tendril/tendrillaw13.LinFound", spec := "linFound", inPlace := ["slices.overlaps[tendril/api.Pair]"], unfollowed := true, recurses := true, apart := false }
def LinFoundSaid : Prop := linFoundRow.holds Try.pinned (OpenSpec.ofChange linFoundSpec)

/-- ITS FALSE NEIGHBOUR: 'it returns false'. Refute it at one input. -/
def linFoundWrong : ChangeSpec := { name := "linFound", fn := fun _ => fun
  | [d1, d2] => { results := [.lit (.bool false)], args := [d1, d2] }
  | _ => none }
def LinFoundWrongFalsely : Prop := linFoundRow.holds Try.pinned (OpenSpec.ofChange linFoundWrong)

/- THE SECOND FORM. 'bulk': how many values and letters a reading holds, each counted each time it is reached (what is shared counts as often as it is met; a slice's spare places count too). A statement '..UptoSaid' is the law's where the arguments, and the package variables that the reading takes, are together of bulk at most 1048576: NARROWER than '..Said'. Prove '..Said' where nothing that the law and all that it calls make is longer than what came in: it says more and counts as full. Else prove '..UptoSaid'. A law counts once. -/
mutual
def uptoBulk {H : Type} : DataW H → Nat
  | .lit (.string bytes) => bytes.length + 1
  | .lit _ => 1
  | .nil => 1
  | .ptr d => uptoBulk d + 1
  | .slice elems spare => uptoBulkAll elems + uptoBulkAll spare + 1
  | .agg parts => uptoBulkAll parts + 1
  | .iface _ d => uptoBulk d + 1
  | .map entries => uptoBulkEntries entries + 1
  | .held _ => 1
def uptoBulkAll {H : Type} : List (DataW H) → Nat
  | [] => 0
  | d :: r => uptoBulk d + uptoBulkAll r
def uptoBulkEntries {H : Type} : List (Lit × DataW H) → Nat
  | [] => 0
  | x :: r => uptoBulkEntry x + uptoBulkEntries r
def uptoBulkEntry {H : Type} : Lit × DataW H → Nat
  | (.string bytes, d) => bytes.length + uptoBulk d + 1
  | (_, d) => uptoBulk d + 1
 end
def uptoSmall : (H : Type) → List (DataW H) → Bool := fun _ ds => decide (uptoBulkAll ds ≤ 1048576)
def OpenSpec.upto (s : _root_.Go.ChangeSpec) : _root_.Go.OpenSpec := { _root_.Go.OpenSpec.ofChange s with cond := some uptoSmall }

/-- 'tendrillaw10.GraphEdges', WHERE WHAT IT READS IS OF BULK AT MOST 1048576: true; the input reads as it did. -/
def graphEdgesUptoRow : OpenClaim := { program := "ytpehmmdbjakkpaa", sum := "a746eb236d6aecdef1fdca92f398202e9b86c0732b51881cb9c897963df0c4a7", func := "tendril/tendrillaw10.GraphEdges", spec := "graphEdges", inPlace := ["slices.overlaps[tendril/api.Pair]"], unfollowed := true, recurses := true, apart := false, narrowed := true }
def GraphEdgesUptoSaid : Prop := graphEdgesUptoRow.holds Try.pinned (OpenSpec.upto graphEdgesSpec)

/-- 'tendrillaw10.GraphFuses', WHERE WHAT IT READS IS OF BULK AT MOST 1048576: true; the input reads as it did. -/
def graphFusesUptoRow : OpenClaim := { program := "ytpehmmdbjakkpaa", sum := "a746eb236d6aecdef1fdca92f398202e9b86c0732b51881cb9c897963df0c4a7", func := "tendril/tendrillaw10.GraphFuses", spec := "graphFuses", inPlace := ["slices.overlaps[tendril/api.Pair]"], unfollowed := true, recurses := true, apart := false, narrowed := true }
def GraphFusesUptoSaid : Prop := graphFusesUptoRow.holds Try.pinned (OpenSpec.upto graphFusesSpec)

/-- 'tendrillaw10.GraphDoes', WHERE WHAT IT READS IS OF BULK AT MOST 1048576: true; the input reads as it did. -/
def graphDoesUptoRow : OpenClaim := { program := "ytpehmmdbjakkpaa", sum := "a746eb236d6aecdef1fdca92f398202e9b86c0732b51881cb9c897963df0c4a7", func := "tendril/tendrillaw10.GraphDoes", spec := "graphDoes", inPlace := ["slices.overlaps[tendril/api.Pair]"], unfollowed := true, recurses := true, apart := false, narrowed := true }
def GraphDoesUptoSaid : Prop := graphDoesUptoRow.holds Try.pinned (OpenSpec.upto graphDoesSpec)

/-- 'tendrillaw10.GraphProps', WHERE WHAT IT READS IS OF BULK AT MOST 1048576: true; the input reads as it did. -/
def graphPropsUptoRow : OpenClaim := { program := "ytpehmmdbjakkpaa", sum := "a746eb236d6aecdef1fdca92f398202e9b86c0732b51881cb9c897963df0c4a7", func := "tendril/tendrillaw10.GraphProps", spec := "graphProps", inPlace := ["slices.overlaps[tendril/api.Pair]"], unfollowed := true, recurses := true, apart := false, narrowed := true }
def GraphPropsUptoSaid : Prop := graphPropsUptoRow.holds Try.pinned (OpenSpec.upto graphPropsSpec)

/-- 'tendrillaw10.GraphLooks', WHERE WHAT IT READS IS OF BULK AT MOST 1048576: true; the input reads as it did. -/
def graphLooksUptoRow : OpenClaim := { program := "ytpehmmdbjakkpaa", sum := "a746eb236d6aecdef1fdca92f398202e9b86c0732b51881cb9c897963df0c4a7", func := "tendril/tendrillaw10.GraphLooks", spec := "graphLooks", inPlace := ["slices.overlaps[tendril/api.Pair]"], unfollowed := true, recurses := true, apart := false, narrowed := true }
def GraphLooksUptoSaid : Prop := graphLooksUptoRow.holds Try.pinned (OpenSpec.upto graphLooksSpec)

/-- 'tendrillaw10.GraphStays', WHERE WHAT IT READS IS OF BULK AT MOST 1048576: true; the input reads as it did. -/
def graphStaysUptoRow : OpenClaim := { program := "ytpehmmdbjakkpaa", sum := "a746eb236d6aecdef1fdca92f398202e9b86c0732b51881cb9c897963df0c4a7", func := "tendril/tendrillaw10.GraphStays", spec := "graphStays", inPlace := ["slices.overlaps[tendril/api.Pair]"], unfollowed := true, recurses := true, apart := false, narrowed := true }
def GraphStaysUptoSaid : Prop := graphStaysUptoRow.holds Try.pinned (OpenSpec.upto graphStaysSpec)

/-- 'tendrillaw11.ApplyAll', WHERE WHAT IT READS IS OF BULK AT MOST 1048576: true; the input reads as it did. -/
def applyAllUptoRow : OpenClaim := { program := "ytpehmmdbjakkpaa", sum := "a746eb236d6aecdef1fdca92f398202e9b86c0732b51881cb9c897963df0c4a7", func := "tendril/tendrillaw11.ApplyAll", spec := "applyAll", inPlace := ["slices.overlaps[tendril/api.Pair]"], unfollowed := true, recurses := true, apart := false, narrowed := true }
def ApplyAllUptoSaid : Prop := applyAllUptoRow.holds Try.pinned (OpenSpec.upto applyAllSpec)

/-- 'tendrillaw11.ApplyDoes', WHERE WHAT IT READS IS OF BULK AT MOST 1048576: true; the input reads as it did. -/
def applyDoesUptoRow : OpenClaim := { program := "ytpehmmdbjakkpaa", sum := "a746eb236d6aecdef1fdca92f398202e9b86c0732b51881cb9c897963df0c4a7", func := "tendril/tendrillaw11.ApplyDoes", spec := "applyDoes", inPlace := ["slices.overlaps[tendril/api.Pair]"], unfollowed := true, recurses := true, apart := false, narrowed := true }
def ApplyDoesUptoSaid : Prop := applyDoesUptoRow.holds Try.pinned (OpenSpec.upto applyDoesSpec)

/-- 'tendrillaw11.ApplyTakes', WHERE WHAT IT READS IS OF BULK AT MOST 1048576: true; the input reads as it did. -/
def applyTakesUptoRow : OpenClaim := { program := "ytpehmmdbjakkpaa", sum := "a746eb236d6aecdef1fdca92f398202e9b86c0732b51881cb9c897963df0c4a7", func := "tendril/tendrillaw11.ApplyTakes", spec := "applyTakes", inPlace := ["slices.overlaps[tendril/api.Pair]"], unfollowed := true, recurses := true, apart := false, narrowed := true }
def ApplyTakesUptoSaid : Prop := applyTakesUptoRow.holds Try.pinned (OpenSpec.upto applyTakesSpec)

/-- 'tendrillaw11.ApplyParts', WHERE WHAT IT READS IS OF BULK AT MOST 1048576: true; the input reads as it did. -/
def applyPartsUptoRow : OpenClaim := { program := "ytpehmmdbjakkpaa", sum := "a746eb236d6aecdef1fdca92f398202e9b86c0732b51881cb9c897963df0c4a7", func := "tendril/tendrillaw11.ApplyParts", spec := "applyParts", inPlace := ["slices.overlaps[tendril/api.Pair]"], unfollowed := true, recurses := true, apart := false, narrowed := true }
def ApplyPartsUptoSaid : Prop := applyPartsUptoRow.holds Try.pinned (OpenSpec.upto applyPartsSpec)

/-- 'tendrillaw11.ApplyFits', WHERE WHAT IT READS IS OF BULK AT MOST 1048576: true; the input reads as it did. -/
def applyFitsUptoRow : OpenClaim := { program := "ytpehmmdbjakkpaa", sum := "a746eb236d6aecdef1fdca92f398202e9b86c0732b51881cb9c897963df0c4a7", func := "tendril/tendrillaw11.ApplyFits", spec := "applyFits", inPlace := ["slices.overlaps[tendril/api.Pair]"], unfollowed := true, recurses := true, apart := false, narrowed := true }
def ApplyFitsUptoSaid : Prop := applyFitsUptoRow.holds Try.pinned (OpenSpec.upto applyFitsSpec)

/-- 'tendrillaw11.ApplyFull', WHERE WHAT IT READS IS OF BULK AT MOST 1048576: true; the input reads as it did. -/
def applyFullUptoRow : OpenClaim := { program := "ytpehmmdbjakkpaa", sum := "a746eb236d6aecdef1fdca92f398202e9b86c0732b51881cb9c897963df0c4a7", func := "tendril/tendrillaw11.ApplyFull", spec := "applyFull", inPlace := ["slices.overlaps[tendril/api.Pair]"], unfollowed := true, recurses := true, apart := false, narrowed := true }
def ApplyFullUptoSaid : Prop := applyFullUptoRow.holds Try.pinned (OpenSpec.upto applyFullSpec)

/-- 'tendrillaw11.ApplyFails', WHERE WHAT IT READS IS OF BULK AT MOST 1048576: true; the input reads as it did. -/
def applyFailsUptoRow : OpenClaim := { program := "ytpehmmdbjakkpaa", sum := "a746eb236d6aecdef1fdca92f398202e9b86c0732b51881cb9c897963df0c4a7", func := "tendril/tendrillaw11.ApplyFails", spec := "applyFails", inPlace := ["slices.overlaps[tendril/api.Pair]"], unfollowed := true, recurses := true, apart := false, narrowed := true }
def ApplyFailsUptoSaid : Prop := applyFailsUptoRow.holds Try.pinned (OpenSpec.upto applyFailsSpec)

/-- 'tendrillaw13.LinCuts', WHERE WHAT IT READS IS OF BULK AT MOST 1048576: true; the input reads as it did. -/
def linCutsUptoRow : OpenClaim := { program := "ytpehmmdbjakkpaa", sum := "a746eb236d6aecdef1fdca92f398202e9b86c0732b51881cb9c897963df0c4a7", func := "tendril/tendrillaw13.LinCuts", spec := "linCuts", inPlace := ["slices.overlaps[tendril/api.Pair]"], unfollowed := true, recurses := true, apart := false, narrowed := true }
def LinCutsUptoSaid : Prop := linCutsUptoRow.holds Try.pinned (OpenSpec.upto linCutsSpec)

/-- 'tendrillaw13.LinWrong', WHERE WHAT IT READS IS OF BULK AT MOST 1048576: true; the input reads as it did. -/
def linWrongUptoRow : OpenClaim := { program := "ytpehmmdbjakkpaa", sum := "a746eb236d6aecdef1fdca92f398202e9b86c0732b51881cb9c897963df0c4a7", func := "tendril/tendrillaw13.LinWrong", spec := "linWrong", inPlace := ["slices.overlaps[tendril/api.Pair]"], unfollowed := true, recurses := true, apart := false, narrowed := true }
def LinWrongUptoSaid : Prop := linWrongUptoRow.holds Try.pinned (OpenSpec.upto linWrongSpec)

/-- 'tendrillaw13.LinSerial', WHERE WHAT IT READS IS OF BULK AT MOST 1048576: true; the input reads as it did. -/
def linSerialUptoRow : OpenClaim := { program := "ytpehmmdbjakkpaa", sum := "a746eb236d6aecdef1fdca92f398202e9b86c0732b51881cb9c897963df0c4a7", func := "tendril/tendrillaw13.LinSerial", spec := "linSerial", inPlace := ["slices.overlaps[tendril/api.Pair]"], unfollowed := true, recurses := true, apart := false, narrowed := true }
def LinSerialUptoSaid : Prop := linSerialUptoRow.holds Try.pinned (OpenSpec.upto linSerialSpec)

/-- 'tendrillaw13.LinFound', WHERE WHAT IT READS IS OF BULK AT MOST 1048576: true; the input reads as it did. -/
def linFoundUptoRow : OpenClaim := { program := "ytpehmmdbjakkpaa", sum := "a746eb236d6aecdef1fdca92f398202e9b86c0732b51881cb9c897963df0c4a7", func := "tendril/tendrillaw13.LinFound", spec := "linFound", inPlace := ["slices.overlaps[tendril/api.Pair]"], unfollowed := true, recurses := true, apart := false, narrowed := true }
def LinFoundUptoSaid : Prop := linFoundUptoRow.holds Try.pinned (OpenSpec.upto linFoundSpec)

end Rows
end Go.Proofs.Ytpehmmdbjakkpaa
