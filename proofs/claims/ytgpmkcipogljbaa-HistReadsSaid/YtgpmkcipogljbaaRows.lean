/-
  No cell of these rows narrows 'for every input' (looked for: loops, veiled, ifaces, maps, wideKeys, modest, calm, conditions, laid).
  DERIVED. THE GIVEN ROWS OF THIS SEAT. 6 by the template 'for every input the law returns true; each argument reads behind the call as it read before'; 0 by the template 'total and deterministic' (their statements: YtgpmkcipogljbaaTotals.lean).
  GIVEN WITH THE SEED: the statements are not yours to turn. If you find one false, say at which input.
  Laid BY PROGRAM, IN A SANDBOX (cutbox-rows.mjs): the forced cells as the released guide's own fill.sh prints them over the translation ff68356403b07dcd… (all of the seat's roots in one cut). By AI agents, Wed Nov 11 2026. No macro, syntax, notation, axiom, sorry.
-/
import Derived.Test.YtgpmkcipogljbaaChecked
import GoSem.Claim
import GoSem.ClaimJoined
import GoSem.ClaimMapViews
import Derived.JoinedTies
import Derived.KernelRfl
namespace Go.Proofs.Ytgpmkcipogljbaa
/- THE CELL 'sum', in the pinned program and in every row, IS THE sha256 OF THE DUMP (.gsa) THAT YtgpmkcipogljbaaProg.lean LOADS. Nothing in Lean hashes anything: it is a label: what it is worth is what the hold of that sum in a sandbox is worth. -/
noncomputable def Try.pinned : Pinned := { name := "ytgpmkcipogljbaa", sum := "ff68356403b07dcd52a48c07abf43b142d5c020fa4d005171210db3c8c674d98", checked := Try.checked }
namespace Rows
def none {H : Type} : Left H := { results := [], args := [] }

/-- 'tendrillaw12.HistOrder': WHATEVER THE INPUT: true; the input reads as it did. -/
def histOrderSpec : ChangeSpec := { name := "histOrder", fn := fun _ => fun
  | [d] => { results := [.lit (.bool true)], args := [d] }
  | _ => none }
def histOrderRow : OpenClaim := { program := "ytgpmkcipogljbaa", sum := "ff68356403b07dcd52a48c07abf43b142d5c020fa4d005171210db3c8c674d98", func := "tendril/tendrillaw12.HistOrder", spec := "histOrder", apart := false }
def HistOrderSaid : Prop := histOrderRow.holds Try.pinned (OpenSpec.ofChange histOrderSpec)

/-- ITS FALSE NEIGHBOUR: 'it returns false'. Refute it at one input. -/
def histOrderWrong : ChangeSpec := { name := "histOrder", fn := fun _ => fun
  | [d] => { results := [.lit (.bool false)], args := [d] }
  | _ => none }
def HistOrderWrongFalsely : Prop := histOrderRow.holds Try.pinned (OpenSpec.ofChange histOrderWrong)

/-- 'tendrillaw12.HistReads': WHATEVER THE INPUT: true; the input reads as it did. -/
def histReadsSpec : ChangeSpec := { name := "histReads", fn := fun _ => fun
  | [d] => { results := [.lit (.bool true)], args := [d] }
  | _ => none }
def histReadsRow : OpenClaim := { program := "ytgpmkcipogljbaa", sum := "ff68356403b07dcd52a48c07abf43b142d5c020fa4d005171210db3c8c674d98", func := "tendril/tendrillaw12.HistReads", spec := "histReads", apart := false }
def HistReadsSaid : Prop := histReadsRow.holds Try.pinned (OpenSpec.ofChange histReadsSpec)

/-- ITS FALSE NEIGHBOUR: 'it returns false'. Refute it at one input. -/
def histReadsWrong : ChangeSpec := { name := "histReads", fn := fun _ => fun
  | [d] => { results := [.lit (.bool false)], args := [d] }
  | _ => none }
def HistReadsWrongFalsely : Prop := histReadsRow.holds Try.pinned (OpenSpec.ofChange histReadsWrong)

/-- 'tendrillaw12.HistThreads': WHATEVER THE INPUT: true; the input reads as it did. -/
def histThreadsSpec : ChangeSpec := { name := "histThreads", fn := fun _ => fun
  | [d] => { results := [.lit (.bool true)], args := [d] }
  | _ => none }
def histThreadsRow : OpenClaim := { program := "ytgpmkcipogljbaa", sum := "ff68356403b07dcd52a48c07abf43b142d5c020fa4d005171210db3c8c674d98", func := "tendril/tendrillaw12.HistThreads", spec := "histThreads", apart := false }
def HistThreadsSaid : Prop := histThreadsRow.holds Try.pinned (OpenSpec.ofChange histThreadsSpec)

/-- ITS FALSE NEIGHBOUR: 'it returns false'. Refute it at one input. -/
def histThreadsWrong : ChangeSpec := { name := "histThreads", fn := fun _ => fun
  | [d] => { results := [.lit (.bool false)], args := [d] }
  | _ => none }
def HistThreadsWrongFalsely : Prop := histThreadsRow.holds Try.pinned (OpenSpec.ofChange histThreadsWrong)

/-- 'tendrillaw12.HistCuts': WHATEVER THE INPUT: true; the input reads as it did. -/
def histCutsSpec : ChangeSpec := { name := "histCuts", fn := fun _ => fun
  | [d1, d2] => { results := [.lit (.bool true)], args := [d1, d2] }
  | _ => none }
def histCutsRow : OpenClaim := { program := "ytgpmkcipogljbaa", sum := "ff68356403b07dcd52a48c07abf43b142d5c020fa4d005171210db3c8c674d98", func := "tendril/tendrillaw12.HistCuts", spec := "histCuts", apart := false }
def HistCutsSaid : Prop := histCutsRow.holds Try.pinned (OpenSpec.ofChange histCutsSpec)

/-- ITS FALSE NEIGHBOUR: 'it returns false'. Refute it at one input. -/
def histCutsWrong : ChangeSpec := { name := "histCuts", fn := fun _ => fun
  | [d1, d2] => { results := [.lit (.bool false)], args := [d1, d2] }
  | _ => none }
def HistCutsWrongFalsely : Prop := histCutsRow.holds Try.pinned (OpenSpec.ofChange histCutsWrong)

/-- 'tendrillaw12.HistEvents': WHATEVER THE INPUT: true; the input reads as it did. -/
def histEventsSpec : ChangeSpec := { name := "histEvents", fn := fun _ => fun
  | [d] => { results := [.lit (.bool true)], args := [d] }
  | _ => none }
def histEventsRow : OpenClaim := { program := "ytgpmkcipogljbaa", sum := "ff68356403b07dcd52a48c07abf43b142d5c020fa4d005171210db3c8c674d98", func := "tendril/tendrillaw12.HistEvents", spec := "histEvents", apart := false }
def HistEventsSaid : Prop := histEventsRow.holds Try.pinned (OpenSpec.ofChange histEventsSpec)

/-- ITS FALSE NEIGHBOUR: 'it returns false'. Refute it at one input. -/
def histEventsWrong : ChangeSpec := { name := "histEvents", fn := fun _ => fun
  | [d] => { results := [.lit (.bool false)], args := [d] }
  | _ => none }
def HistEventsWrongFalsely : Prop := histEventsRow.holds Try.pinned (OpenSpec.ofChange histEventsWrong)

/-- 'tendrillaw12.HistTells': WHATEVER THE INPUT: true; the input reads as it did. -/
def histTellsSpec : ChangeSpec := { name := "histTells", fn := fun _ => fun
  | [d1, d2, d3] => { results := [.lit (.bool true)], args := [d1, d2, d3] }
  | _ => none }
def histTellsRow : OpenClaim := { program := "ytgpmkcipogljbaa", sum := "ff68356403b07dcd52a48c07abf43b142d5c020fa4d005171210db3c8c674d98", func := "tendril/tendrillaw12.HistTells", spec := "histTells", apart := false }
def HistTellsSaid : Prop := histTellsRow.holds Try.pinned (OpenSpec.ofChange histTellsSpec)

/-- ITS FALSE NEIGHBOUR: 'it returns false'. Refute it at one input. -/
def histTellsWrong : ChangeSpec := { name := "histTells", fn := fun _ => fun
  | [d1, d2, d3] => { results := [.lit (.bool false)], args := [d1, d2, d3] }
  | _ => none }
def HistTellsWrongFalsely : Prop := histTellsRow.holds Try.pinned (OpenSpec.ofChange histTellsWrong)

/- THE SECOND FORM. 'bulk': how many values and letters a reading holds, each counted each time it is reached (what is shared counts as often as it is met; a slice's spare places count too). A statement '..UptoSaid' is the law's where the arguments, and the package variables that the reading takes, are together of bulk at most 1048576: NARROWER than '..Said'. Prove '..Said' where nothing that the law and all that it calls make is longer than what came in: it says more and counts as full. Else prove '..UptoSaid'. A law counts once. -/
mutual
def uptoBulk {H : Type} : DataW H → Nat
  | .lit (.string bytes) => bytes.length + 1
  | .lit _ => 1
  | .nil => 1
  | .ptr d => uptoBulk d + 1
  | .slice elems spare => uptoBulkAll elems + uptoBulkAll spare + 1
  | .agg parts => uptoBulkAll parts + 1
  | .iface _ d => uptoBulk d + 1
  | .map entries => uptoBulkEntries entries + 1
  | .held _ => 1
def uptoBulkAll {H : Type} : List (DataW H) → Nat
  | [] => 0
  | d :: r => uptoBulk d + uptoBulkAll r
def uptoBulkEntries {H : Type} : List (Lit × DataW H) → Nat
  | [] => 0
  | x :: r => uptoBulkEntry x + uptoBulkEntries r
def uptoBulkEntry {H : Type} : Lit × DataW H → Nat
  | (.string bytes, d) => bytes.length + uptoBulk d + 1
  | (_, d) => uptoBulk d + 1
 end
def uptoSmall : (H : Type) → List (DataW H) → Bool := fun _ ds => decide (uptoBulkAll ds ≤ 1048576)
def OpenSpec.upto (s : _root_.Go.ChangeSpec) : _root_.Go.OpenSpec := { _root_.Go.OpenSpec.ofChange s with cond := some uptoSmall }

/-- 'tendrillaw12.HistOrder', WHERE WHAT IT READS IS OF BULK AT MOST 1048576: true; the input reads as it did. -/
def histOrderUptoRow : OpenClaim := { program := "ytgpmkcipogljbaa", sum := "ff68356403b07dcd52a48c07abf43b142d5c020fa4d005171210db3c8c674d98", func := "tendril/tendrillaw12.HistOrder", spec := "histOrder", apart := false, narrowed := true }
def HistOrderUptoSaid : Prop := histOrderUptoRow.holds Try.pinned (OpenSpec.upto histOrderSpec)

/-- 'tendrillaw12.HistReads', WHERE WHAT IT READS IS OF BULK AT MOST 1048576: true; the input reads as it did. -/
def histReadsUptoRow : OpenClaim := { program := "ytgpmkcipogljbaa", sum := "ff68356403b07dcd52a48c07abf43b142d5c020fa4d005171210db3c8c674d98", func := "tendril/tendrillaw12.HistReads", spec := "histReads", apart := false, narrowed := true }
def HistReadsUptoSaid : Prop := histReadsUptoRow.holds Try.pinned (OpenSpec.upto histReadsSpec)

/-- 'tendrillaw12.HistThreads', WHERE WHAT IT READS IS OF BULK AT MOST 1048576: true; the input reads as it did. -/
def histThreadsUptoRow : OpenClaim := { program := "ytgpmkcipogljbaa", sum := "ff68356403b07dcd52a48c07abf43b142d5c020fa4d005171210db3c8c674d98", func := "tendril/tendrillaw12.HistThreads", spec := "histThreads", apart := false, narrowed := true }
def HistThreadsUptoSaid : Prop := histThreadsUptoRow.holds Try.pinned (OpenSpec.upto histThreadsSpec)

/-- 'tendrillaw12.HistCuts', WHERE WHAT IT READS IS OF BULK AT MOST 1048576: true; the input reads as it did. -/
def histCutsUptoRow : OpenClaim := { program := "ytgpmkcipogljbaa", sum := "ff68356403b07dcd52a48c07abf43b142d5c020fa4d005171210db3c8c674d98", func := "tendril/tendrillaw12.HistCuts", spec := "histCuts", apart := false, narrowed := true }
def HistCutsUptoSaid : Prop := histCutsUptoRow.holds Try.pinned (OpenSpec.upto histCutsSpec)

/-- 'tendrillaw12.HistEvents', WHERE WHAT IT READS IS OF BULK AT MOST 1048576: true; the input reads as it did. -/
def histEventsUptoRow : OpenClaim := { program := "ytgpmkcipogljbaa", sum := "ff68356403b07dcd52a48c07abf43b142d5c020fa4d005171210db3c8c674d98", func := "tendril/tendrillaw12.HistEvents", spec := "histEvents", apart := false, narrowed := true }
def HistEventsUptoSaid : Prop := histEventsUptoRow.holds Try.pinned (OpenSpec.upto histEventsSpec)

/-- 'tendrillaw12.HistTells', WHERE WHAT IT READS IS OF BULK AT MOST 1048576: true; the input reads as it did. -/
def histTellsUptoRow : OpenClaim := { program := "ytgpmkcipogljbaa", sum := "ff68356403b07dcd52a48c07abf43b142d5c020fa4d005171210db3c8c674d98", func := "tendril/tendrillaw12.HistTells", spec := "histTells", apart := false, narrowed := true }
def HistTellsUptoSaid : Prop := histTellsUptoRow.holds Try.pinned (OpenSpec.upto histTellsSpec)

end Rows
end Go.Proofs.Ytgpmkcipogljbaa
