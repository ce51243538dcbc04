/- line.Op and the reference's Op: five numbers read as an operation. -/
import Derived.Test.YtaaekhmklkidmaaOpA
import Derived.Test.YtaaekhmklkidmaaSched
namespace Go.Proofs.Ytaaekhmklkidmaa
open Go.RowKit
set_option linter.unusedSimpArgs false
set_option linter.unusedVariables false
def opOf : List Int → OpD × Bool
  | [a, b, c, d, e] => plain ⟨a, b, c, d, e⟩
  | _ => (OpD.zero, false)
def opV (l : List Int) : Value := .tuple #[(opOf l).1.val, .bool (opOf l).2]
theorem opOf_ne {l : List Int} (h : l.length ≠ 5) : opOf l = (OpD.zero, false) := by
  unfold opOf
  split
  · simp at h
  · rfl
theorem Row.cells5 {w : World} {S : Nat → Prop} {v : Value} {a b c d e : Int} (h : Row tInt w S v [a, b, c, d, e]) : ∃ g off cap, v = .slice (some ⟨g, off, none⟩) 5 cap ∧ g < w.heap.size ∧ w.cell? ⟨g, off, none⟩ = some (.int .i64 a) ∧ w.cell? ⟨g, off + 1, none⟩ = some (.int .i64 b) ∧ w.cell? ⟨g, off + 2, none⟩ = some (.int .i64 c) ∧ w.cell? ⟨g, off + 3, none⟩ = some (.int .i64 d) ∧ w.cell? ⟨g, off + 4, none⟩ = some (.int .i64 e) := by
  obtain ⟨g, off, cap, hv, _, _, hl, he⟩ := h.get (by simp)
  have f : ∀ j x, [a, b, c, d, e][j]? = some x → w.cell? ⟨g, off + j, none⟩ = some (.int .i64 x) := fun j x hj => by
    obtain ⟨cs, hk, hr⟩ := he j x hj
    have hk' : cs = [.int .i64 x] := hk
    subst hk'
    have := hr 0 _ rfl
    simpa [tInt, Ty.flat] using this
  exact ⟨g, off, cap, hv, hl, f 0 a rfl, f 1 b rfl, f 2 c rfl, f 3 d rfl, f 4 e rfl⟩
set_option maxHeartbeats 2000000 in
theorem op_calls (w : World) (S : Nat → Prop) (v : Value) (l : List Int) (h : Row tInt w S v l) : Calls Try.prog 12 #[v] w fun e w' => e = .returned (opV l) ∧ Below w.heap.size w w' := by
  by_cases hl : l.length = 5
  · match l, hl with
    | [a, b, c, d, e], _ =>
      obtain ⟨g, off, cap, rfl, hg, c0, c1, c2, c3, c4⟩ := h.cells5
      have hg1 : g < w.heap.size + 1 := by omega
      go_enter Try.func12, Try.ntmps12
      go_wp2
      refine wp_region_sched [(0, true), (1, true), (2, true), (3, true), (4, true), (5, true), (6, true), (7, true), (8, true), (9, true), (10, true), (11, true), (12, true), (13, true), (14, true), (15, true), (16, false), (17, true), (18, true), (19, false), (20, true)] (Kept w (fun _ => True)) (by kernel_rfl) (by kernel_rfl) ?_
      have HS := Lib.hid ((Kept.refl w (fun _ => True)).alloc (.cells #[.int .i64 0, .int .i64 0, .int .i64 0, .int .i64 0, .int .i64 0] 23)).drew
      repeat (refine sched_take (v := ?_) (by simp only [List.getElem?_toArray, List.getElem?_cons_succ, List.getElem?_cons_zero]; rfl) (Or.inl ⟨by rfl, fun W hW => ?_⟩) HS.out ?_; rotate_left; (have hc := fun b o hb => hW.cell b o trivial hb; clear hW; go_simp; with_reducible rfl); simp only [Act.put, List.setIfInBounds_toArray, List.set_cons_zero, List.set_cons_succ])
      refine sched_step (by simp only [List.getElem?_toArray, List.getElem?_cons_succ, List.getElem?_cons_zero]; rfl) ?_
      go_wp2_with fail
      refine (plain_calls ⟨a, b, c, d, e⟩ _).mono ?_
      rintro e1 w1 ⟨rfl, hb⟩
      have hb' := Lib.hid hb
      clear hb
      simp only [plainV, OpD.val]
      go_wp2_with fail
      refine sched_on (HS.out.below hb'.out) ?_
      have HS2 := Lib.hid (HS.out.below hb'.out)
      repeat (refine sched_take (v := ?_) (by simp only [List.getElem?_toArray, List.getElem?_cons_succ, List.getElem?_cons_zero]; rfl) (Or.inl ⟨by rfl, fun W hW => ?_⟩) HS2.out ?_; rotate_left; (skip; clear hW; go_simp; with_reducible rfl); simp only [Act.put, List.setIfInBounds_toArray, List.set_cons_zero, List.set_cons_succ])
      refine sched_step (by simp only [List.getElem?_toArray, List.getElem?_cons_succ, List.getElem?_cons_zero]; rfl) ?_
      have hc0 := fun o ho => hb'.out.cell (p := ⟨w.heap.size, o, none⟩) ho
      have hf0 := fun o ho => hb'.out.frozen (p := ⟨w.heap.size, o, none⟩) ho
      go_wp2_with fail
      refine sched_on (by repeat (first | (with_reducible exact HS2.out) | (with_reducible refine Kept.drew ?_) | (with_reducible refine Kept.drewN ?_ _) | (with_reducible refine Kept.alloc ?_ _) | (with_reducible refine Kept.setCell ?_ (.inl (by simp; try omega)) _))) ?_
      repeat (refine sched_take (v := ?_) (by simp only [List.getElem?_toArray, List.getElem?_cons_succ, List.getElem?_cons_zero]; rfl) (Or.inl ⟨by rfl, fun W hW => ?_⟩) (by repeat (first | (with_reducible exact HS2.out) | (with_reducible refine Kept.drew ?_) | (with_reducible refine Kept.drewN ?_ _) | (with_reducible refine Kept.alloc ?_ _) | (with_reducible refine Kept.setCell ?_ (.inl (by simp; try omega)) _))) ?_; rotate_left; (skip; clear hW; go_simp; with_reducible rfl); simp only [Act.put, List.setIfInBounds_toArray, List.set_cons_zero, List.set_cons_succ])
      refine sched_done ?_
      go_wp2
      refine bodyPost_ret (v := opV [a, b, c, d, e]) (by simp [results, Try.results12, go_sem, hc0, hf0]; rfl) rfl ⟨rfl, ?_⟩
      have hb0 := ((((Below.refl w.heap.size w).alloc (Nat.le_refl _) (.cells #[.int .i64 0, .int .i64 0, .int .i64 0, .int .i64 0, .int .i64 0] 23)).drew).trans (hb'.out.mono (by simp)))
      exact (by repeat (first | (with_reducible exact Below.refl _ _) | (with_reducible exact hb0) | (with_reducible refine Below.drew ?_) | (with_reducible refine Below.alloc ?_ (by simp; try omega) _) | (with_reducible refine Below.setCell ?_ (by simp; try omega) _)))
  · obtain ⟨A, c, rfl⟩ := h.slice
    have hl1 : ((l.length : Int) == 5) = false := beq_eq_false_iff_ne.mpr (by omega)
    have hl2 : ((l.length : Int) != 5) = true := by rw [bne_iff_ne]; omega
    have e : opV l = .tuple #[.agg #[.int .i64 0, .int .i64 0, .int .i64 0, .int .i64 0, .int .i64 0], .bool false] := by rw [opV, opOf_ne hl]; rfl
    rw [e]
    clear e h hl
    go_enter Try.func12, Try.ntmps12
    go_wp2
    refine bodyPost_ret (v := .tuple #[.agg #[.int .i64 0, .int .i64 0, .int .i64 0, .int .i64 0, .int .i64 0], .bool false]) (by simp [results, Try.results12, go_sem]) rfl ⟨rfl, ?_⟩
    repeat (first | exact Below.refl _ _ | refine Below.drew ?_ | refine Below.alloc ?_ (by simp; try omega) _)
set_option maxHeartbeats 2000000 in
theorem refOp_calls (w : World) (S : Nat → Prop) (v : Value) (l : List Int) (h : Row tInt w S v l) : Calls Try.prog 13 #[v] w fun e w' => e = .returned (opV l) ∧ Below w.heap.size w w' := by
  by_cases hl : l.length = 5
  · match l, hl with
    | [a, b, c, d, e], _ =>
      obtain ⟨g, off, cap, rfl, hg, c0, c1, c2, c3, c4⟩ := h.cells5
      have hg1 : g < w.heap.size + 1 := by omega
      go_enter Try.func13, Try.ntmps13
      go_wp2
      refine wp_region_sched [(0, true), (1, true), (2, true), (3, true), (4, true), (5, true), (6, true), (7, true), (8, true), (9, true), (10, true), (11, true), (12, true), (13, true), (14, true), (15, true), (16, false), (17, true), (18, true), (19, false), (20, true)] (Kept w (fun _ => True)) (by kernel_rfl) (by kernel_rfl) ?_
      have HS := Lib.hid ((Kept.refl w (fun _ => True)).alloc (.cells #[.int .i64 0, .int .i64 0, .int .i64 0, .int .i64 0, .int .i64 0] 23)).drew
      repeat (refine sched_take (v := ?_) (by simp only [List.getElem?_toArray, List.getElem?_cons_succ, List.getElem?_cons_zero]; rfl) (Or.inl ⟨by rfl, fun W hW => ?_⟩) HS.out ?_; rotate_left; (have hc := fun b o hb => hW.cell b o trivial hb; clear hW; go_simp; with_reducible rfl); simp only [Act.put, List.setIfInBounds_toArray, List.set_cons_zero, List.set_cons_succ])
      refine sched_step (by simp only [List.getElem?_toArray, List.getElem?_cons_succ, List.getElem?_cons_zero]; rfl) ?_
      go_wp2_with fail
      refine (refPlain_calls ⟨a, b, c, d, e⟩ _).mono ?_
      rintro e1 w1 ⟨rfl, hb⟩
      have hb' := Lib.hid hb
      clear hb
      simp only [plainV, OpD.val]
      go_wp2_with fail
      refine sched_on (HS.out.below hb'.out) ?_
      have HS2 := Lib.hid (HS.out.below hb'.out)
      repeat (refine sched_take (v := ?_) (by simp only [List.getElem?_toArray, List.getElem?_cons_succ, List.getElem?_cons_zero]; rfl) (Or.inl ⟨by rfl, fun W hW => ?_⟩) HS2.out ?_; rotate_left; (skip; clear hW; go_simp; with_reducible rfl); simp only [Act.put, List.setIfInBounds_toArray, List.set_cons_zero, List.set_cons_succ])
      refine sched_step (by simp only [List.getElem?_toArray, List.getElem?_cons_succ, List.getElem?_cons_zero]; rfl) ?_
      have hc0 := fun o ho => hb'.out.cell (p := ⟨w.heap.size, o, none⟩) ho
      have hf0 := fun o ho => hb'.out.frozen (p := ⟨w.heap.size, o, none⟩) ho
      go_wp2_with fail
      refine sched_on (by repeat (first | (with_reducible exact HS2.out) | (with_reducible refine Kept.drew ?_) | (with_reducible refine Kept.drewN ?_ _) | (with_reducible refine Kept.alloc ?_ _) | (with_reducible refine Kept.setCell ?_ (.inl (by simp; try omega)) _))) ?_
      repeat (refine sched_take (v := ?_) (by simp only [List.getElem?_toArray, List.getElem?_cons_succ, List.getElem?_cons_zero]; rfl) (Or.inl ⟨by rfl, fun W hW => ?_⟩) (by repeat (first | (with_reducible exact HS2.out) | (with_reducible refine Kept.drew ?_) | (with_reducible refine Kept.drewN ?_ _) | (with_reducible refine Kept.alloc ?_ _) | (with_reducible refine Kept.setCell ?_ (.inl (by simp; try omega)) _))) ?_; rotate_left; (skip; clear hW; go_simp; with_reducible rfl); simp only [Act.put, List.setIfInBounds_toArray, List.set_cons_zero, List.set_cons_succ])
      refine sched_done ?_
      go_wp2
      refine bodyPost_ret (v := opV [a, b, c, d, e]) (by simp [results, Try.results13, go_sem, hc0, hf0]; rfl) rfl ⟨rfl, ?_⟩
      have hb0 := ((((Below.refl w.heap.size w).alloc (Nat.le_refl _) (.cells #[.int .i64 0, .int .i64 0, .int .i64 0, .int .i64 0, .int .i64 0] 23)).drew).trans (hb'.out.mono (by simp)))
      exact (by repeat (first | (with_reducible exact Below.refl _ _) | (with_reducible exact hb0) | (with_reducible refine Below.drew ?_) | (with_reducible refine Below.alloc ?_ (by simp; try omega) _) | (with_reducible refine Below.setCell ?_ (by simp; try omega) _)))
  · obtain ⟨A, c, rfl⟩ := h.slice
    have hl1 : ((l.length : Int) == 5) = false := beq_eq_false_iff_ne.mpr (by omega)
    have hl2 : ((l.length : Int) != 5) = true := by rw [bne_iff_ne]; omega
    have e : opV l = .tuple #[.agg #[.int .i64 0, .int .i64 0, .int .i64 0, .int .i64 0, .int .i64 0], .bool false] := by rw [opV, opOf_ne hl]; rfl
    rw [e]
    clear e h hl
    go_enter Try.func13, Try.ntmps13
    go_wp2
    refine bodyPost_ret (v := .tuple #[.agg #[.int .i64 0, .int .i64 0, .int .i64 0, .int .i64 0, .int .i64 0], .bool false]) (by simp [results, Try.results13, go_sem]) rfl ⟨rfl, ?_⟩
    repeat (first | exact Below.refl _ _ | refine Below.drew ?_ | refine Below.alloc ?_ (by simp; try omega) _)
end Go.Proofs.Ytaaekhmklkidmaa
