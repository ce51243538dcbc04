/- apply.look. -/
import Derived.Test.YtpehmmdbjakkpaaGreatChgM
import Derived.Test.YtpehmmdbjakkpaaGreatAddM
import Derived.Test.YtpehmmdbjakkpaaGreatGetM
namespace Go.Proofs.YtpehmmdbjakkpaaGreat
open Go.RowKit Go.Shelf
set_option linter.unusedSimpArgs false
set_option linter.unusedVariables false
structure ResD where
 st : Int
 id : Int
 ps : List P2
 os : List P2
 is : List P2
def lookOf (g : GraphD) (o : OpD) : ResD := if o.k = 6 then ⟨(getOf g o.a).2, 0, (getOf g o.a).1, [], []⟩ else if o.k = 7 then ⟨(nearOf g o.a).2.2, 0, [], (nearOf g o.a).1, (nearOf g o.a).2.1⟩ else ⟨1, 0, [], [], []⟩
/-- A result as it lies. -/
def Res (w : World) (S : Nat → Prop) (r : ResD) (v : Value) : Prop := ∃ vp vo vi, v = .agg #[.int .i64 r.st, .int .i64 r.id, vp, vo, vi] ∧ Row tP w S vp r.ps ∧ Row tP w S vo r.os ∧ Row tP w S vi r.is
def LookPost (w : World) (r : ResD) (e : Ending) (w' : World) : Prop := ∃ v, e = .returned v ∧ Res w' (fun k => w.heap.size ≤ k) r v ∧ Below w.heap.size w w'
set_option maxRecDepth 100000 in
set_option maxHeartbeats 4000000 in
theorem look_calls (w : World) (S : Nat → Prop) (g : GraphD) (vn ve : Value) (o : OpD) (h : Gr w S g vn ve) (hs : g.small) : Calls Tryz.prog 60 #[.agg #[vn, ve, .int .i64 g.nn, .int .i64 g.ne], o.val] w (LookPost w (lookOf g o)) := by
 obtain ⟨⟨A1, c1, rfl⟩, ⟨A2, c2, rfl⟩⟩ := h.slices
 obtain ⟨k, a, b, p, v⟩ := o
 have HG := Lib.hid h
 have HS := Lib.hid hs
 clear h hs
 unfold OpD.val
 obtain ⟨W0, hW⟩ : ∃ W0, W0 = (((w.alloc (.cells #[.slice A1 g.nodes.length c1, .slice A2 g.edges.length c2, .int .i64 g.nn, .int .i64 g.ne] 31)).alloc (.cells #[.int .i64 k, .int .i64 a, .int .i64 b, .int .i64 p, .int .i64 v] 46)).alloc (.cells #[.int .i64 0, .int .i64 0, .slice none 0 0, .slice none 0 0, .slice none 0 0] 50)).alloc (.cells #[.int .i64 0, .int .i64 0, .slice none 0 0, .slice none 0 0, .slice none 0 0] 50) := ⟨_, rfl⟩
 have K0 := Lib.hid (show Below w.heap.size w W0 by rw [hW]; exact (by repeat (first | (with_reducible exact Below.refl _ _) | (with_reducible exact Below.refl _ _) | (with_reducible refine Below.drew ?_) | (with_reducible refine Below.alloc ?_ (by simp; try omega) _) | (with_reducible refine Below.setCell ?_ (by simp; try omega) _))))
 have s0 : W0.heap.size = w.heap.size + 4 := by rw [hW]; simp
 have D2 := Lib.hid (show W0.heap[w.heap.size + 1 + 1]? = some (.cells #[.int .i64 0, .int .i64 0, .slice none 0 0, .slice none 0 0, .slice none 0 0] 50 (0, 0)) by
  rw [hW]
  have := heap_alloc_new ((w.alloc (.cells #[.slice A1 g.nodes.length c1, .slice A2 g.edges.length c2, .int .i64 g.nn, .int .i64 g.ne] 31)).alloc (.cells #[.int .i64 k, .int .i64 a, .int .i64 b, .int .i64 p, .int .i64 v] 46)) (.cells #[.int .i64 0, .int .i64 0, .slice none 0 0, .slice none 0 0, .slice none 0 0] 50)
  simp only [World.size_alloc] at this
  exact (Below.heap_alloc _ _ _ (by simp)).trans this)
 have D3 := Lib.hid (show W0.heap[w.heap.size + 1 + 1 + 1]? = some (.cells #[.int .i64 0, .int .i64 0, .slice none 0 0, .slice none 0 0, .slice none 0 0] 50 (0, 0)) by
  rw [hW]
  have := heap_alloc_new (((w.alloc (.cells #[.slice A1 g.nodes.length c1, .slice A2 g.edges.length c2, .int .i64 g.nn, .int .i64 g.ne] 31)).alloc (.cells #[.int .i64 k, .int .i64 a, .int .i64 b, .int .i64 p, .int .i64 v] 46)).alloc (.cells #[.int .i64 0, .int .i64 0, .slice none 0 0, .slice none 0 0, .slice none 0 0] 50)) (.cells #[.int .i64 0, .int .i64 0, .slice none 0 0, .slice none 0 0, .slice none 0 0] 50)
  simpa only [World.size_alloc] using this)
 have H0 := Lib.hid (HG.out.below K0.out)
 go_enter Tryz.func60, Tryz.ntmps60
 by_cases h6 : k = 6
 ·
  subst h6
  have HL := Lib.hid (show lookOf g ⟨6, a, b, p, v⟩ = ⟨(getOf g a).2, 0, (getOf g a).1, [], []⟩ from rfl)
  go_wp2_with fail
  rw [← hW]
  refine (get_calls W0 _ g _ _ a H0.out HS.out).mono ?_
  rintro e w1 ⟨vp, rfl, ho, hb⟩
  have HO := Lib.hid ho.row
  obtain ⟨B1, d1, rfl⟩ := ho.row.slice
  clear ho hW
  have s1 := hb.size
  have K1 := Lib.hid (K0.out.trans (hb.mono K0.out.size))
  have e2 := (hb.block (w.heap.size + 1 + 1) (by omega)).trans D2.out
  have e3 := (hb.block (w.heap.size + 1 + 1 + 1) (by omega)).trans D3.out
  have q : ∀ i v, (#[.int .i64 0, .int .i64 0, .slice none 0 0, .slice none 0 0, .slice none 0 0] : Array Value)[i]? = some v → w1.cell? ⟨w.heap.size + 1 + 1, i, none⟩ = some v ∧ w1.cell? ⟨w.heap.size + 1 + 1 + 1, i, none⟩ = some v := fun i v h => by simp only [World.cell?, e2, e3]; exact ⟨h, h⟩
  obtain ⟨p0, q0⟩ := q 0 _ rfl
  obtain ⟨p1, q1⟩ := q 1 _ rfl
  obtain ⟨p2, q2⟩ := q 2 _ rfl
  obtain ⟨p3, q3⟩ := q 3 _ rfl
  obtain ⟨p4, q4⟩ := q 4 _ rfl
  have pf : ∀ i, w1.frozen? ⟨w.heap.size + 1 + 1, i, none⟩ = false := fun i => by simp [World.frozen?, e2]
  have qf : ∀ i, w1.frozen? ⟨w.heap.size + 1 + 1 + 1, i, none⟩ = false := fun i => by simp [World.frozen?, e3]
  clear q e2 e3 hb
  have S0 := Lib.hid s0
  clear s0
  go_wp2_with fail
  refine bodyPost_ret (v := .agg #[.int .i64 (getOf g a).2, .int .i64 0, .slice B1 (getOf g a).1.length d1, .slice none 0 0, .slice none 0 0]) (by simp [results, Tryz.results60, go_sem, p0, p1, p2, p3, p4, q0, q1, q2, q3, q4]; try rfl) rfl ?_
  rw [HL.out]
  refine ⟨_, rfl, ⟨_, _, _, rfl, (HO.out.move (w' := _) ?_).mono (fun k hk _ => by have := S0.out; omega), Row.nil _ _ _, Row.nil _ _ _⟩, ?_⟩
  ·
   intro k hk hl
   have n1 : k ≠ w.heap.size + 1 + 1 := by have := S0.out; omega
   have n2 : k ≠ w.heap.size + 1 + 1 + 1 := by have := S0.out; omega
   repeat (first | rw [Below.heap_setCell _ _ _ k n1] | rw [Below.heap_setCell _ _ _ k n2])
  ·
   have := K1.out
   repeat (first | with_reducible exact this | refine Below.setCell ?_ (by simp <;> omega) _)
 ·
  by_cases h7 : k = 7
  ·
   subst h7
   have HL := Lib.hid (show lookOf g ⟨7, a, b, p, v⟩ = ⟨(nearOf g a).2.2, 0, [], (nearOf g a).1, (nearOf g a).2.1⟩ from rfl)
   go_wp2_with fail
   rw [← hW]
   refine (near_calls W0 _ g _ _ a H0.out HS.out.1 HS.out.2.1).mono ?_
   rintro e w1 ⟨vo, vi, rfl, ho, hi, hb⟩
   have HO := Lib.hid ho
   have HI := Lib.hid hi
   obtain ⟨B1, d1, rfl⟩ := ho.slice
   obtain ⟨B2, d2, rfl⟩ := hi.slice
   clear ho hi hW
   have s1 := hb.size
   have K1 := Lib.hid (K0.out.trans (hb.mono K0.out.size))
   have e2 := (hb.block (w.heap.size + 1 + 1) (by omega)).trans D2.out
   have e3 := (hb.block (w.heap.size + 1 + 1 + 1) (by omega)).trans D3.out
   have q : ∀ i v, (#[.int .i64 0, .int .i64 0, .slice none 0 0, .slice none 0 0, .slice none 0 0] : Array Value)[i]? = some v → w1.cell? ⟨w.heap.size + 1 + 1, i, none⟩ = some v ∧ w1.cell? ⟨w.heap.size + 1 + 1 + 1, i, none⟩ = some v := fun i v h => by simp only [World.cell?, e2, e3]; exact ⟨h, h⟩
   obtain ⟨p0, q0⟩ := q 0 _ rfl
   obtain ⟨p1, q1⟩ := q 1 _ rfl
   obtain ⟨p2, q2⟩ := q 2 _ rfl
   obtain ⟨p3, q3⟩ := q 3 _ rfl
   obtain ⟨p4, q4⟩ := q 4 _ rfl
   have pf : ∀ i, w1.frozen? ⟨w.heap.size + 1 + 1, i, none⟩ = false := fun i => by simp [World.frozen?, e2]
   have qf : ∀ i, w1.frozen? ⟨w.heap.size + 1 + 1 + 1, i, none⟩ = false := fun i => by simp [World.frozen?, e3]
   clear q e2 e3 hb
   have S0 := Lib.hid s0
   clear s0
   go_wp2_with fail
   refine bodyPost_ret (v := .agg #[.int .i64 (nearOf g a).2.2, .int .i64 0, .slice none 0 0, .slice B1 (nearOf g a).1.length d1, .slice B2 (nearOf g a).2.1.length d2]) (by simp [results, Tryz.results60, go_sem, p0, p1, p2, p3, p4, q0, q1, q2, q3, q4]; try rfl) rfl ?_
   rw [HL.out]
   refine ⟨_, rfl, ⟨_, _, _, rfl, Row.nil _ _ _, (HO.out.move (w' := _) ?_).mono (fun k hk _ => by have := S0.out; omega), (HI.out.move (w' := _) ?_).mono (fun k hk _ => by have := S0.out; omega)⟩, ?_⟩
   ·
    intro k hk hl
    have n1 : k ≠ w.heap.size + 1 + 1 := by have := S0.out; omega
    have n2 : k ≠ w.heap.size + 1 + 1 + 1 := by have := S0.out; omega
    repeat (first | rw [Below.heap_setCell _ _ _ k n1] | rw [Below.heap_setCell _ _ _ k n2])
   ·
    intro k hk hl
    have n1 : k ≠ w.heap.size + 1 + 1 := by have := S0.out; omega
    have n2 : k ≠ w.heap.size + 1 + 1 + 1 := by have := S0.out; omega
    repeat (first | rw [Below.heap_setCell _ _ _ k n1] | rw [Below.heap_setCell _ _ _ k n2])
   ·
    have := K1.out
    repeat (first | with_reducible exact this | refine Below.setCell ?_ (by simp <;> omega) _)
  ·
   have HL := Lib.hid (show lookOf g ⟨k, a, b, p, v⟩ = ⟨1, 0, [], [], []⟩ by simp [lookOf, h6, h7])
   clear hW K0 D2 D3 H0
   go_wp2
   refine bodyPost_ret (v := .agg #[.int .i64 1, .int .i64 0, .slice none 0 0, .slice none 0 0, .slice none 0 0]) (by simp [results, Tryz.results60, go_sem]; try rfl) rfl ?_
   rw [HL.out]
   exact ⟨_, rfl, ⟨_, _, _, rfl, Row.nil _ _ _, Row.nil _ _ _, Row.nil _ _ _⟩, (by repeat (first | (with_reducible exact Below.refl _ _) | (with_reducible exact Below.refl _ _) | (with_reducible refine Below.drew ?_) | (with_reducible refine Below.alloc ?_ (by simp; try omega) _) | (with_reducible refine Below.setCell ?_ (by simp; try omega) _)))⟩

end Go.Proofs.YtpehmmdbjakkpaaGreat
