/- Which change an operation asks for. -/
import Derived.Test.YtpehmmdbjakkpaaGreatCloA
import Derived.Test.YtpehmmdbjakkpaaGreatLookA
import Derived.Test.YtpehmmdbjakkpaaGreatOwnAp
namespace Go.Proofs.YtpehmmdbjakkpaaGreat
open Go.RowKit Go.Shelf
set_option linter.unusedSimpArgs false
set_option linter.unusedVariables false
/-- The change: the graph, how it ended, the number. -/
def chg (c : CfgD) (g : GraphD) (o : OpD) : Option (GraphD × Int × Int) :=
 if o.k = 1 then some ((addOf c g).1, (addOf c g).2.2, (addOf c g).2.1)
 else if o.k = 2 then some ((linkOf c g o.a o.b).1, (linkOf c g o.a o.b).2.2, (linkOf c g o.a o.b).2.1)
 else if o.k = 3 then some ((cutOf g o.a).1, (cutOf g o.a).2, 0)
 else if o.k = 4 then some ((setOf g o.a o.p o.v).1, (setOf g o.a o.p o.v).2, 0)
 else if o.k = 5 then some ((delOf g o.a o.p).1, (delOf g o.a o.p).2, 0)
 else if o.k = 8 then some ((dropOf g o.a).1, (dropOf g o.a).2, 0)
 else if o.k = 9 then some ((fuseOf g o.a o.b).1, (fuseOf g o.a o.b).2, 0)
 else none
def doOf (c : CfgD) (g : GraphD) (o : OpD) : GraphD × ResD := match chg c g o with
 | none => (g, lookOf g o)
 | some (z, st, id) => (if st = 0 then z else g, ⟨st, id, [], [], []⟩)
theorem pick_none {c : CfgD} {g : GraphD} {o : OpD} {B b : Nat} {W : World} (h : chg c g o = none) (hb : W.heap[b]? = some (.map (chgMap B) 7)) :
  (Instr.lookup 110 (.map (some b)) (.int .i64 o.k) true).run Tryz.prog W = .ok (.tuple #[.nilFunc, .bool false]) W := by
 unfold chg at h
 split at h
 ·
  simp at h
 split at h
 ·
  simp at h
 split at h
 ·
  simp at h
 split at h
 ·
  simp at h
 split at h
 ·
  simp at h
 split at h
 ·
  simp at h
 split at h
 ·
  simp at h
 refine run_missF W b _ _ _ hb ?_
 rename_i h1 h2 h3 h4 h5 h8 h9
 have e : ∀ n : Int, ¬ o.k = n → (o.k == n) = false := fun n h => by simpa using h
 simp [chgMap, Instr.findNow, Instr.sameNow, e 1 h1, e 2 h2, e 3 h3, e 4 h4, e 5 h5, e 8 h8, e 9 h9]
theorem pick_some {c : CfgD} {g : GraphD} {o : OpD} {B : Nat} {S : Nat → Prop} {vn ve : Value} {z : GraphD} {st id : Int} (h : chg c g o = some (z, st, id)) (hr : Rdy c g) :
  ∃ n caps, (∀ (W : World) (b : Nat), W.heap[b]? = some (.map (chgMap B) 7) → (Instr.lookup 110 (.map (some b)) (.int .i64 o.k) true).run Tryz.prog W = .ok (.tuple #[.func (.func n) #[] caps, .bool true]) W) ∧ Enters Tryz.prog n ∧ ∀ W, Cap B S c g vn ve o W → Calls Tryz.prog n caps W (DonePost W z st id) := by
 unfold chg at h
 split at h
 ·
  rename_i hk
  injection h with h
  injection h with h1 h
  injection h with h2 h3
  subst h1 h2 h3
  exact ⟨_, _, fun W b hb => by rw [hk]; exact run_getF W b _ _ _ 0 _ hb rfl, enters_of Tryz.func86 (by kernel_rfl) rfl, fun W hc => chgAdd_calls W B S c g vn ve o hc hr⟩
 split at h
 ·
  rename_i hk
  injection h with h
  injection h with h1 h
  injection h with h2 h3
  subst h1 h2 h3
  exact ⟨_, _, fun W b hb => by rw [hk]; exact run_getF W b _ _ _ 1 _ hb rfl, enters_of Tryz.func88 (by kernel_rfl) rfl, fun W hc => chgLink_calls W B S c g vn ve o hc hr⟩
 split at h
 ·
  rename_i hk
  injection h with h
  injection h with h1 h
  injection h with h2 h3
  subst h1 h2 h3
  exact ⟨_, _, fun W b hb => by rw [hk]; exact run_getF W b _ _ _ 2 _ hb rfl, enters_of Tryz.func90 (by kernel_rfl) rfl, fun W hc => chgCut_calls W B S c g vn ve o hc hr⟩
 split at h
 ·
  rename_i hk
  injection h with h
  injection h with h1 h
  injection h with h2 h3
  subst h1 h2 h3
  exact ⟨_, _, fun W b hb => by rw [hk]; exact run_getF W b _ _ _ 3 _ hb rfl, enters_of Tryz.func92 (by kernel_rfl) rfl, fun W hc => chgSet_calls W B S c g vn ve o hc hr⟩
 split at h
 ·
  rename_i hk
  injection h with h
  injection h with h1 h
  injection h with h2 h3
  subst h1 h2 h3
  exact ⟨_, _, fun W b hb => by rw [hk]; exact run_getF W b _ _ _ 4 _ hb rfl, enters_of Tryz.func94 (by kernel_rfl) rfl, fun W hc => chgDel_calls W B S c g vn ve o hc hr⟩
 split at h
 ·
  rename_i hk
  injection h with h
  injection h with h1 h
  injection h with h2 h3
  subst h1 h2 h3
  exact ⟨_, _, fun W b hb => by rw [hk]; exact run_getF W b _ _ _ 5 _ hb rfl, enters_of Tryz.func96 (by kernel_rfl) rfl, fun W hc => chgDrop_calls W B S c g vn ve o hc hr⟩
 split at h
 ·
  rename_i hk
  injection h with h
  injection h with h1 h
  injection h with h2 h3
  subst h1 h2 h3
  exact ⟨_, _, fun W b hb => by rw [hk]; exact run_getF W b _ _ _ 6 _ hb rfl, enters_of Tryz.func98 (by kernel_rfl) rfl, fun W hc => chgFuse_calls W B S c g vn ve o hc hr⟩
 simp at h

end Go.Proofs.YtpehmmdbjakkpaaGreat
