/- A map from numbers to functions, entry by entry. apply.changes: what it lays. What the closures of apply.changes hold, and the two that build what is done. -/
import Derived.Test.YtpehmmdbjakkpaaGreatStaysLaw
import Derived.Laws.EntriesVeiled
import Derived.MapKept
namespace Go.Proofs.YtpehmmdbjakkpaaGreat
open Go.RowKit Go.Shelf
set_option linter.unusedSimpArgs false
set_option linter.unusedVariables false
theorem run_putF (W : World) (es : Array MapEntry) (cl : Nat) (k : Int) (v : Value) (h : Instr.findNow (.int .i64) (.int .i64 k) es.toList 0 = some none) :
  (Instr.mapUpdate 110 (.map (some W.heap.size)) (.int .i64 k) v).run Tryz.prog (W.alloc (.map es cl)) = .ok () (W.alloc (.map (es.push { key := .int .i64 k, val := v, born := cl }) (cl + 1))) := by
 have hb : (W.alloc (.map es cl)).heap[W.heap.size]? = some (.map es cl) := (MapKept.heap_alloc W _).1
 have hc : (Instr.checkKey false 10000 3 (.int .i64 k)).run Tryz.prog (W.alloc (.map es cl)) = .ok () (W.alloc (.map es cl)) := MapKept.run_checkKey (k := .int .i64 k) Tryz.underlying3 (by simp [MapKept.IsKey]) false 9999
 have e : (W.alloc (.map es cl)).heap.setIfInBounds W.heap.size (.map (es.push { key := .int .i64 k, val := v, born := cl }) (cl + 1)) = W.heap.push (.map (es.push { key := .int .i64 k, val := v, born := cl }) (cl + 1)) := by
  show (W.heap.push _).setIfInBounds _ _ = _
  apply Array.ext'
  rw [Array.toList_setIfInBounds, Array.toList_push, Array.toList_push, ← Array.length_toList, List.set_append_right _ _ (Nat.le_refl _)]
  simp
 simp [Instr.mapUpdate, run_underlying Tryz.underlying110, MapKept.run_getObj_map hb, hc, MapKept.run_findKey Tryz.underlying3 h, MapKept.run_setObj_map _ hb, Result.andThen]
 rw [e]
 rfl
theorem run_getF (w : World) (b : Nat) (es : Array MapEntry) (cl : Nat) (k : Int) (i : Nat) (v : Value) (hb : w.heap[b]? = some (.map es cl)) (h : Instr.findNow (.int .i64) (.int .i64 k) es.toList 0 = some (some (i, v))) :
  (Instr.lookup 110 (.map (some b)) (.int .i64 k) true).run Tryz.prog w = .ok (.tuple #[v, .bool true]) w := by
 have hc : ∀ e, (Instr.checkKey e 10000 3 (.int .i64 k)).run Tryz.prog w = .ok () w := fun e => MapKept.run_checkKey (k := .int .i64 k) Tryz.underlying3 (by simp [MapKept.IsKey]) e 9999
 simp [Instr.lookup, run_underlying Tryz.underlying110, MapKept.run_getObj_map hb, hc, MapKept.run_findKey Tryz.underlying3 h, Result.andThen]
theorem run_missF (w : World) (b : Nat) (es : Array MapEntry) (cl : Nat) (k : Int) (hb : w.heap[b]? = some (.map es cl)) (h : Instr.findNow (.int .i64) (.int .i64 k) es.toList 0 = some none) :
  (Instr.lookup 110 (.map (some b)) (.int .i64 k) true).run Tryz.prog w = .ok (.tuple #[.nilFunc, .bool false]) w := by
 have hc : ∀ e, (Instr.checkKey e 10000 3 (.int .i64 k)).run Tryz.prog w = .ok () w := fun e => MapKept.run_checkKey (k := .int .i64 k) Tryz.underlying3 (by simp [MapKept.IsKey]) e 9999
 simp [Instr.lookup, run_underlying Tryz.underlying110, MapKept.run_getObj_map hb, hc, MapKept.run_findKey Tryz.underlying3 h, Result.andThen]
end Go.Proofs.YtpehmmdbjakkpaaGreat
namespace Go.Proofs.YtpehmmdbjakkpaaGreat
open Go.RowKit Go.Shelf
set_option linter.unusedSimpArgs false
set_option linter.unusedVariables false
structure OpD where
 k : Int
 a : Int
 b : Int
 p : Int
 v : Int
def OpD.val (o : OpD) : Value := .agg #[.int .i64 o.k, .int .i64 o.a, .int .i64 o.b, .int .i64 o.p, .int .i64 o.v]
def OpD.row (o : OpD) : Array Value := #[.int .i64 o.k, .int .i64 o.a, .int .i64 o.b, .int .i64 o.p, .int .i64 o.v]
/-- The seven entries; B is the first box. -/
def chgMap (B : Nat) : Array MapEntry := #[⟨.int .i64 1, .func (.func 86) #[] #[.pointer (some ⟨B + 4, 0, none⟩), .pointer (some ⟨B, 0, none⟩), .pointer (some ⟨B + 1, 0, none⟩)], 0⟩,
 ⟨.int .i64 2, .func (.func 88) #[] #[.pointer (some ⟨B + 4, 0, none⟩), .pointer (some ⟨B, 0, none⟩), .pointer (some ⟨B + 1, 0, none⟩), .pointer (some ⟨B + 2, 0, none⟩)], 1⟩,
 ⟨.int .i64 3, .func (.func 90) #[] #[.pointer (some ⟨B + 3, 0, none⟩), .pointer (some ⟨B + 1, 0, none⟩), .pointer (some ⟨B + 2, 0, none⟩)], 2⟩,
 ⟨.int .i64 4, .func (.func 92) #[] #[.pointer (some ⟨B + 3, 0, none⟩), .pointer (some ⟨B + 1, 0, none⟩), .pointer (some ⟨B + 2, 0, none⟩)], 3⟩,
 ⟨.int .i64 5, .func (.func 94) #[] #[.pointer (some ⟨B + 3, 0, none⟩), .pointer (some ⟨B + 1, 0, none⟩), .pointer (some ⟨B + 2, 0, none⟩)], 4⟩,
 ⟨.int .i64 8, .func (.func 96) #[] #[.pointer (some ⟨B + 3, 0, none⟩), .pointer (some ⟨B + 1, 0, none⟩), .pointer (some ⟨B + 2, 0, none⟩)], 5⟩,
 ⟨.int .i64 9, .func (.func 98) #[] #[.pointer (some ⟨B + 3, 0, none⟩), .pointer (some ⟨B + 1, 0, none⟩), .pointer (some ⟨B + 2, 0, none⟩)], 6⟩]
set_option maxRecDepth 100000 in
set_option maxHeartbeats 4000000 in
theorem changes_calls (w : World) (c : CfgD) (g : GraphD) (vn ve : Value) (o : OpD) : Calls Tryz.prog 58 #[c.val, .agg #[vn, ve, .int .i64 g.nn, .int .i64 g.ne], o.val] w fun e w' => e = .returned (.map (some (w.heap.size + 5))) ∧
  w' = ((((((w.alloc (.cells #[.int .i64 c.nodes, .int .i64 c.edges, .int .i64 c.props, .int .i64 c.ids, .int .i64 c.eids] 23)).alloc (.cells #[vn, ve, .int .i64 g.nn, .int .i64 g.ne] 31)).alloc (.cells #[.int .i64 o.k, .int .i64 o.a, .int .i64 o.b, .int .i64 o.p, .int .i64 o.v] 46)).alloc (.cells #[.func (.func 84) #[] #[]] 137)).alloc (.cells #[.func (.func 85) #[] #[]] 138)).alloc (.map (chgMap w.heap.size) 7)) := by
 unfold CfgD.val OpD.val
 go_enter Tryz.func58, Tryz.ntmps58
 go_wp2
 obtain ⟨W5, hW⟩ : ∃ W5, W5 = (((((w.alloc (.cells #[.int .i64 c.nodes, .int .i64 c.edges, .int .i64 c.props, .int .i64 c.ids, .int .i64 c.eids] 23)).alloc (.cells #[vn, ve, .int .i64 g.nn, .int .i64 g.ne] 31)).alloc (.cells #[.int .i64 o.k, .int .i64 o.a, .int .i64 o.b, .int .i64 o.p, .int .i64 o.v] 46)).alloc (.cells #[.func (.func 84) #[] #[]] 137)).alloc (.cells #[.func (.func 85) #[] #[]] 138)) := ⟨_, rfl⟩
 have s5 : W5.heap.size = w.heap.size + 5 := by rw [hW]; simp
 rw [← hW]
 have HW := Lib.hid hW
 clear hW
 have hmm : ∀ W : World, (Instr.makeMap 110 none).run Tryz.prog W = .ok (.map (some W.heap.size)) (W.alloc (.map #[] 0)) := fun W => rfl
 have h0 : ∀ v0 : Value, (Instr.mapUpdate 110 (.map (some (w.heap.size + 5))) (.int .i64 1) v0).run Tryz.prog (W5.alloc (.map #[] 0)) = .ok () (W5.alloc (.map #[⟨.int .i64 1, v0, 0⟩] 1)) := fun v0 => by rw [← s5]; exact run_putF W5 #[] 0 1 v0 rfl
 have h1 : ∀ v0 v1 : Value, (Instr.mapUpdate 110 (.map (some (w.heap.size + 5))) (.int .i64 2) v1).run Tryz.prog (W5.alloc (.map #[⟨.int .i64 1, v0, 0⟩] 1)) = .ok () (W5.alloc (.map #[⟨.int .i64 1, v0, 0⟩, ⟨.int .i64 2, v1, 1⟩] 2)) := fun v0 v1 => by rw [← s5]; exact run_putF W5 #[⟨.int .i64 1, v0, 0⟩] 1 2 v1 rfl
 have h2 : ∀ v0 v1 v2 : Value, (Instr.mapUpdate 110 (.map (some (w.heap.size + 5))) (.int .i64 3) v2).run Tryz.prog (W5.alloc (.map #[⟨.int .i64 1, v0, 0⟩, ⟨.int .i64 2, v1, 1⟩] 2)) = .ok () (W5.alloc (.map #[⟨.int .i64 1, v0, 0⟩, ⟨.int .i64 2, v1, 1⟩, ⟨.int .i64 3, v2, 2⟩] 3)) := fun v0 v1 v2 => by rw [← s5]; exact run_putF W5 #[⟨.int .i64 1, v0, 0⟩, ⟨.int .i64 2, v1, 1⟩] 2 3 v2 rfl
 have h3 : ∀ v0 v1 v2 v3 : Value, (Instr.mapUpdate 110 (.map (some (w.heap.size + 5))) (.int .i64 4) v3).run Tryz.prog (W5.alloc (.map #[⟨.int .i64 1, v0, 0⟩, ⟨.int .i64 2, v1, 1⟩, ⟨.int .i64 3, v2, 2⟩] 3)) = .ok () (W5.alloc (.map #[⟨.int .i64 1, v0, 0⟩, ⟨.int .i64 2, v1, 1⟩, ⟨.int .i64 3, v2, 2⟩, ⟨.int .i64 4, v3, 3⟩] 4)) := fun v0 v1 v2 v3 => by rw [← s5]; exact run_putF W5 #[⟨.int .i64 1, v0, 0⟩, ⟨.int .i64 2, v1, 1⟩, ⟨.int .i64 3, v2, 2⟩] 3 4 v3 rfl
 have h4 : ∀ v0 v1 v2 v3 v4 : Value, (Instr.mapUpdate 110 (.map (some (w.heap.size + 5))) (.int .i64 5) v4).run Tryz.prog (W5.alloc (.map #[⟨.int .i64 1, v0, 0⟩, ⟨.int .i64 2, v1, 1⟩, ⟨.int .i64 3, v2, 2⟩, ⟨.int .i64 4, v3, 3⟩] 4)) = .ok () (W5.alloc (.map #[⟨.int .i64 1, v0, 0⟩, ⟨.int .i64 2, v1, 1⟩, ⟨.int .i64 3, v2, 2⟩, ⟨.int .i64 4, v3, 3⟩, ⟨.int .i64 5, v4, 4⟩] 5)) := fun v0 v1 v2 v3 v4 => by rw [← s5]; exact run_putF W5 #[⟨.int .i64 1, v0, 0⟩, ⟨.int .i64 2, v1, 1⟩, ⟨.int .i64 3, v2, 2⟩, ⟨.int .i64 4, v3, 3⟩] 4 5 v4 rfl
 have h5 : ∀ v0 v1 v2 v3 v4 v5 : Value, (Instr.mapUpdate 110 (.map (some (w.heap.size + 5))) (.int .i64 8) v5).run Tryz.prog (W5.alloc (.map #[⟨.int .i64 1, v0, 0⟩, ⟨.int .i64 2, v1, 1⟩, ⟨.int .i64 3, v2, 2⟩, ⟨.int .i64 4, v3, 3⟩, ⟨.int .i64 5, v4, 4⟩] 5)) = .ok () (W5.alloc (.map #[⟨.int .i64 1, v0, 0⟩, ⟨.int .i64 2, v1, 1⟩, ⟨.int .i64 3, v2, 2⟩, ⟨.int .i64 4, v3, 3⟩, ⟨.int .i64 5, v4, 4⟩, ⟨.int .i64 8, v5, 5⟩] 6)) := fun v0 v1 v2 v3 v4 v5 => by rw [← s5]; exact run_putF W5 #[⟨.int .i64 1, v0, 0⟩, ⟨.int .i64 2, v1, 1⟩, ⟨.int .i64 3, v2, 2⟩, ⟨.int .i64 4, v3, 3⟩, ⟨.int .i64 5, v4, 4⟩] 5 8 v5 rfl
 have h6 : ∀ v0 v1 v2 v3 v4 v5 v6 : Value, (Instr.mapUpdate 110 (.map (some (w.heap.size + 5))) (.int .i64 9) v6).run Tryz.prog (W5.alloc (.map #[⟨.int .i64 1, v0, 0⟩, ⟨.int .i64 2, v1, 1⟩, ⟨.int .i64 3, v2, 2⟩, ⟨.int .i64 4, v3, 3⟩, ⟨.int .i64 5, v4, 4⟩, ⟨.int .i64 8, v5, 5⟩] 6)) = .ok () (W5.alloc (.map #[⟨.int .i64 1, v0, 0⟩, ⟨.int .i64 2, v1, 1⟩, ⟨.int .i64 3, v2, 2⟩, ⟨.int .i64 4, v3, 3⟩, ⟨.int .i64 5, v4, 4⟩, ⟨.int .i64 8, v5, 5⟩, ⟨.int .i64 9, v6, 6⟩] 7)) := fun v0 v1 v2 v3 v4 v5 v6 => by rw [← s5]; exact run_putF W5 #[⟨.int .i64 1, v0, 0⟩, ⟨.int .i64 2, v1, 1⟩, ⟨.int .i64 3, v2, 2⟩, ⟨.int .i64 4, v3, 3⟩, ⟨.int .i64 5, v4, 4⟩, ⟨.int .i64 8, v5, 5⟩] 6 9 v6 rfl
 rw [hmm]
 go_wp2
 rw [HW.out]
 refine bodyPost_ret (v := .map (some (w.heap.size + 5))) (by simp [results, Tryz.results58, go_sem]; try rfl) rfl ⟨rfl, rfl⟩
end Go.Proofs.YtpehmmdbjakkpaaGreat
namespace Go.Proofs.YtpehmmdbjakkpaaGreat
open Go.RowKit Go.Shelf
set_option linter.unusedSimpArgs false
set_option linter.unusedVariables false
structure Cap (B : Nat) (S : Nat → Prop) (c : CfgD) (g : GraphD) (vn ve : Value) (o : OpD) (w : World) : Prop where
 cf : w.heap[B]? = some (.cells #[.int .i64 c.nodes, .int .i64 c.edges, .int .i64 c.props, .int .i64 c.ids, .int .i64 c.eids] 23 (0, 0))
 bg : Box4 w (B + 1) vn ve (.int .i64 g.nn) (.int .i64 g.ne)
 op : w.heap[B + 2]? = some (.cells #[.int .i64 o.k, .int .i64 o.a, .int .i64 o.b, .int .i64 o.p, .int .i64 o.v] 46 (0, 0))
 f1 : w.heap[B + 3]? = some (.cells #[.func (.func 84) #[] #[]] 137 (0, 0))
 f2 : w.heap[B + 4]? = some (.cells #[.func (.func 85) #[] #[]] 138 (0, 0))
 hl : B + 5 ≤ w.heap.size
 hg : Gr w S g vn ve
section
variable {B : Nat} {S : Nat → Prop} {c : CfgD} {g : GraphD} {vn ve : Value} {o : OpD} {w w' : World}
theorem Cap.below (h : Cap B S c g vn ve o w) (hb : Below w.heap.size w w') : Cap B S c g vn ve o w' := by
 have h1 := h.hl
 exact ⟨(hb.block _ (by omega)).trans h.cf, h.bg.keep (hb.block _ (by omega)), (hb.block _ (by omega)).trans h.op, (hb.block _ (by omega)).trans h.f1, (hb.block _ (by omega)).trans h.f2, Nat.le_trans h1 hb.size, h.hg.below hb⟩
theorem Cap.cells (h : Cap B S c g vn ve o w) : (w.cell? ⟨B, 0, none⟩ = some (.int .i64 c.nodes) ∧ w.cell? ⟨B, 1, none⟩ = some (.int .i64 c.edges) ∧ w.cell? ⟨B, 2, none⟩ = some (.int .i64 c.props) ∧ w.cell? ⟨B, 3, none⟩ = some (.int .i64 c.ids) ∧ w.cell? ⟨B, 4, none⟩ = some (.int .i64 c.eids)) ∧
  (w.cell? ⟨B + 2, 0, none⟩ = some (.int .i64 o.k) ∧ w.cell? ⟨B + 2, 1, none⟩ = some (.int .i64 o.a) ∧ w.cell? ⟨B + 2, 2, none⟩ = some (.int .i64 o.b) ∧ w.cell? ⟨B + 2, 3, none⟩ = some (.int .i64 o.p) ∧ w.cell? ⟨B + 2, 4, none⟩ = some (.int .i64 o.v)) ∧
  w.cell? ⟨B + 3, 0, none⟩ = some (.func (.func 84) #[] #[]) ∧ w.cell? ⟨B + 4, 0, none⟩ = some (.func (.func 85) #[] #[]) := by
 have h1 := h.cf
 have h2 := h.op
 have h3 := h.f1
 have h4 := h.f2
 simp [World.cell?, h1, h2, h3, h4]
end
theorem Gr.sl3 {W : World} {S : Nat → Prop} {z : GraphD} {zn ze : Value} (h : Gr W S z zn ze) : (∃ A L c, zn = .slice A L c) ∧ ∃ A L c, ze = .slice A L c := by
 obtain ⟨⟨A, c, h1⟩, ⟨B, d, h2⟩⟩ := h.slices
 exact ⟨⟨A, _, c, h1⟩, ⟨B, _, d, h2⟩⟩
/-- What is done: the graph, how it ended, and the number. -/
def DonePost (w : World) (z : GraphD) (st id : Int) (e : Ending) (w' : World) : Prop := ∃ vn ve, e = .returned (.agg #[vn, ve, .int .i64 z.nn, .int .i64 z.ne, .int .i64 st, .int .i64 id, .slice none 0 0, .slice none 0 0, .slice none 0 0]) ∧ Gr w' (fun k => w.heap.size ≤ k) z vn ve ∧ Below w.heap.size w w'
set_option maxRecDepth 100000 in
set_option maxHeartbeats 4000000 in
theorem done1_calls (w : World) (A1 : Option Addr) (n1 c1 : Nat) (A2 : Option Addr) (n2 c2 : Nat) (a b st : Int) : Calls Tryz.prog 84 #[.agg #[.slice A1 n1 c1, .slice A2 n2 c2, .int .i64 a, .int .i64 b], .int .i64 st] w fun e w' => e = .returned (.agg #[.slice A1 n1 c1, .slice A2 n2 c2, .int .i64 a, .int .i64 b, .int .i64 st, .int .i64 0, .slice none 0 0, .slice none 0 0, .slice none 0 0]) ∧ Below w.heap.size w w' := by
 go_enter Tryz.func84, Tryz.ntmps84
 go_wp2
 refine bodyPost_ret (v := .agg #[.slice A1 n1 c1, .slice A2 n2 c2, .int .i64 a, .int .i64 b, .int .i64 st, .int .i64 0, .slice none 0 0, .slice none 0 0, .slice none 0 0]) (by simp [results, Tryz.results84, go_sem]; try rfl) rfl ⟨rfl, (by repeat (first | (with_reducible exact Below.refl _ _) | (with_reducible exact Below.refl _ _) | (with_reducible refine Below.drew ?_) | (with_reducible refine Below.alloc ?_ (by simp; try omega) _) | (with_reducible refine Below.setCell ?_ (by simp; try omega) _)))⟩
set_option maxRecDepth 100000 in
set_option maxHeartbeats 4000000 in
theorem done2_calls (w : World) (A1 : Option Addr) (n1 c1 : Nat) (A2 : Option Addr) (n2 c2 : Nat) (a b id st : Int) : Calls Tryz.prog 85 #[.agg #[.slice A1 n1 c1, .slice A2 n2 c2, .int .i64 a, .int .i64 b], .int .i64 id, .int .i64 st] w fun e w' => e = .returned (.agg #[.slice A1 n1 c1, .slice A2 n2 c2, .int .i64 a, .int .i64 b, .int .i64 st, .int .i64 id, .slice none 0 0, .slice none 0 0, .slice none 0 0]) ∧ Below w.heap.size w w' := by
 go_enter Tryz.func85, Tryz.ntmps85
 go_wp2
 refine bodyPost_ret (v := .agg #[.slice A1 n1 c1, .slice A2 n2 c2, .int .i64 a, .int .i64 b, .int .i64 st, .int .i64 id, .slice none 0 0, .slice none 0 0, .slice none 0 0]) (by simp [results, Tryz.results85, go_sem]; try rfl) rfl ⟨rfl, (by repeat (first | (with_reducible exact Below.refl _ _) | (with_reducible exact Below.refl _ _) | (with_reducible refine Below.drew ?_) | (with_reducible refine Below.alloc ?_ (by simp; try omega) _) | (with_reducible refine Below.setCell ?_ (by simp; try omega) _)))⟩
end Go.Proofs.YtpehmmdbjakkpaaGreat


