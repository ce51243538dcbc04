/- slices.Clone, at the graph's types. -/
import Derived.Test.YtpehmmdbjakkpaaGTy
import Derived.Test.YtpehmmdbjakkpaaSched
import Derived.Lib.LazyBuf
namespace Go.Proofs.Ytpehmmdbjakkpaa
open Go.RowKit
set_option linter.unusedSimpArgs false
set_option linter.unusedVariables false
theorem Below.heap1 (w : World) (o : Obj) : Below w.heap.size w (w.alloc o) := (Below.refl _ _).alloc (Nat.le_refl _) o
theorem elemPairs : ElemOf Try.prog 30 47 tP.sz 16 (.agg #[.int .i64 0, .int .i64 0]) := ⟨Try.underlying30, by kernel_rfl, rfl⟩
set_option maxHeartbeats 2000000 in
theorem clonePairs_calls (w : World) (S : Nat → Prop) (v : Value) (l : List P2) (h : Row tP w S v l) (hlen : l.length ≤ 1000000) : Calls Try.prog 82 #[v] w (RetOwn tP 47 w l) := by
  have hb := h.bound
  obtain ⟨A, c, rfl⟩ := h.slice
  obtain ⟨h1, h2, h3, h4⟩ := h.n_eq
  cases A with
  | none =>
    obtain rfl := h4 rfl
    have hl : l = [] := List.eq_nil_of_length_eq_zero (by omega)
    subst hl
    clear h hb
    have hq := fun W : World => run_eql_slice_nil (P := Try.prog) W 30 _ none 0 0 Try.underlying30
    go_enter Try.func82, Try.ntmps82
    go_wp2
    go_ret
    exact RetOwn.mk (Own.nil _ _ _ _) (Below.refl _ _)
  | some ad =>
    have H := Lib.hid hb
    clear h hb h1 h2 h3 h4
    have ho : Own tP 47 (w.alloc (.cells #[] 47)) (fun k => True) (.slice (some ⟨w.heap.size, 0, none⟩) 0 0) [] := ⟨fun _ _ => trivial, [], ⟨rfl, .inr ⟨w.heap.size, 0, #[], rfl, Nat.zero_le _, heap_alloc_new w _, Nat.le_refl _, by unfold maxLen; omega, rfl, rfl⟩⟩, fun j x hj => by simp at hj⟩
    have HO := Lib.hid ho
    have hr := H.out.below (Below.heap1 w (.cells #[] 47))
    have HRR := Lib.hid hr
    clear ho hr
    have hq := fun W : World => run_eql_slice_nil (P := Try.prog) W 30 _ (some ad) l.length c Try.underlying30
    go_enter Try.func82, Try.ntmps82
    go_wp2_with (at_builtin; refine wpList_own_append (ty := tP) (W := w.alloc (.cells #[] 47)) (S := fun k => True) (Sy := fun k => S k ∧ k < w.heap.size) (v := .slice (some ⟨w.heap.size, 0, none⟩) 0 0) (xs := []) (ys := l) rfl _ _ 30 47 16 _ rfl elemPairs rfl HO.out (some ad) l.length c rfl HRR.out rfl ?b1 ?b2 trivial (fun k h _ => ⟨trivial, fun e => Nat.ne_of_lt h.2 (Option.some.inj e).symm⟩) ?_)
    case b1 => simp; omega
    case b2 => unfold maxLen; simp; omega
    intro v2 w2 ho2 hg2 hor2
    have hb2 : Below w.heap.size w w2 := below_of_grown (Below.heap1 w (.cells #[] 47)) hg2 (fun k hk => Nat.le_of_eq (Option.some.inj hk))
    have hlt2 := ho2.lt
    have ho3 : Own tP 47 w2 (fun k => w.heap.size ≤ k) v2 l := by
      obtain ⟨_, inner, r1, r2⟩ := ho2
      refine ⟨fun k hk => ?_, inner, r1, fun j x hj => r2 j x hj⟩
      rcases hor2 with h | h
      · exact Nat.le_of_eq (Option.some.inj (h.symm.trans hk))
      · have e := Option.some.inj (h.symm.trans hk); omega
    have HO3 := Lib.hid ho3
    have HB2 := Lib.hid hb2
    clear ho2 hg2 hb2 hor2
    go_wp2
    go_ret
    exact RetOwn.mk HO3.out HB2.out
theorem elemEdges : ElemOf Try.prog 25 40 tEdge.sz 24 (.agg #[.int .i64 0, .int .i64 0, .int .i64 0]) := ⟨Try.underlying25, by kernel_rfl, rfl⟩
set_option maxHeartbeats 2000000 in
theorem cloneEdges_calls (w : World) (S : Nat → Prop) (v : Value) (l : List EdgeD) (h : Row tEdge w S v l) (hlen : l.length ≤ 1000000) : Calls Try.prog 121 #[v] w (RetOwn tEdge 40 w l) := by
  have hb := h.bound
  obtain ⟨A, c, rfl⟩ := h.slice
  obtain ⟨h1, h2, h3, h4⟩ := h.n_eq
  cases A with
  | none =>
    obtain rfl := h4 rfl
    have hl : l = [] := List.eq_nil_of_length_eq_zero (by omega)
    subst hl
    clear h hb
    have hq := fun W : World => run_eql_slice_nil (P := Try.prog) W 25 _ none 0 0 Try.underlying25
    go_enter Try.func121, Try.ntmps121
    go_wp2
    go_ret
    exact RetOwn.mk (Own.nil _ _ _ _) (Below.refl _ _)
  | some ad =>
    have H := Lib.hid hb
    clear h hb h1 h2 h3 h4
    have ho : Own tEdge 40 (w.alloc (.cells #[] 40)) (fun k => True) (.slice (some ⟨w.heap.size, 0, none⟩) 0 0) [] := ⟨fun _ _ => trivial, [], ⟨rfl, .inr ⟨w.heap.size, 0, #[], rfl, Nat.zero_le _, heap_alloc_new w _, Nat.le_refl _, by unfold maxLen; omega, rfl, rfl⟩⟩, fun j x hj => by simp at hj⟩
    have HO := Lib.hid ho
    have hr := H.out.below (Below.heap1 w (.cells #[] 40))
    have HRR := Lib.hid hr
    clear ho hr
    have hq := fun W : World => run_eql_slice_nil (P := Try.prog) W 25 _ (some ad) l.length c Try.underlying25
    go_enter Try.func121, Try.ntmps121
    go_wp2_with (at_builtin; refine wpList_own_append (ty := tEdge) (W := w.alloc (.cells #[] 40)) (S := fun k => True) (Sy := fun k => S k ∧ k < w.heap.size) (v := .slice (some ⟨w.heap.size, 0, none⟩) 0 0) (xs := []) (ys := l) rfl _ _ 25 40 24 _ rfl elemEdges rfl HO.out (some ad) l.length c rfl HRR.out rfl ?b1 ?b2 trivial (fun k h _ => ⟨trivial, fun e => Nat.ne_of_lt h.2 (Option.some.inj e).symm⟩) ?_)
    case b1 => simp; omega
    case b2 => unfold maxLen; simp; omega
    intro v2 w2 ho2 hg2 hor2
    have hb2 : Below w.heap.size w w2 := below_of_grown (Below.heap1 w (.cells #[] 40)) hg2 (fun k hk => Nat.le_of_eq (Option.some.inj hk))
    have hlt2 := ho2.lt
    have ho3 : Own tEdge 40 w2 (fun k => w.heap.size ≤ k) v2 l := by
      obtain ⟨_, inner, r1, r2⟩ := ho2
      refine ⟨fun k hk => ?_, inner, r1, fun j x hj => r2 j x hj⟩
      rcases hor2 with h | h
      · exact Nat.le_of_eq (Option.some.inj (h.symm.trans hk))
      · have e := Option.some.inj (h.symm.trans hk); omega
    have HO3 := Lib.hid ho3
    have HB2 := Lib.hid hb2
    clear ho2 hg2 hb2 hor2
    go_wp2
    go_ret
    exact RetOwn.mk HO3.out HB2.out
theorem elemNodes : ElemOf Try.prog 24 32 tNV.sz 32 (.agg #[.int .i64 0, .slice none 0 0]) := ⟨Try.underlying24, by kernel_rfl, rfl⟩
set_option maxHeartbeats 2000000 in
theorem cloneNodes_calls (w : World) (S : Nat → Prop) (v : Value) (l : List NV) (h : Row tNV w S v l) (hlen : l.length ≤ 1000000) : Calls Try.prog 120 #[v] w (RetOwn tNV 32 w l) := by
  have hb := h.bound
  obtain ⟨A, c, rfl⟩ := h.slice
  obtain ⟨h1, h2, h3, h4⟩ := h.n_eq
  cases A with
  | none =>
    obtain rfl := h4 rfl
    have hl : l = [] := List.eq_nil_of_length_eq_zero (by omega)
    subst hl
    clear h hb
    have hq := fun W : World => run_eql_slice_nil (P := Try.prog) W 24 _ none 0 0 Try.underlying24
    go_enter Try.func120, Try.ntmps120
    go_wp2
    go_ret
    exact RetOwn.mk (Own.nil _ _ _ _) (Below.refl _ _)
  | some ad =>
    have H := Lib.hid hb
    clear h hb h1 h2 h3 h4
    have ho : Own tNV 32 (w.alloc (.cells #[] 32)) (fun k => True) (.slice (some ⟨w.heap.size, 0, none⟩) 0 0) [] := ⟨fun _ _ => trivial, [], ⟨rfl, .inr ⟨w.heap.size, 0, #[], rfl, Nat.zero_le _, heap_alloc_new w _, Nat.le_refl _, by unfold maxLen; omega, rfl, rfl⟩⟩, fun j x hj => by simp at hj⟩
    have HO := Lib.hid ho
    have hr := H.out.below (Below.heap1 w (.cells #[] 32))
    have HRR := Lib.hid hr
    clear ho hr
    have hq := fun W : World => run_eql_slice_nil (P := Try.prog) W 24 _ (some ad) l.length c Try.underlying24
    go_enter Try.func120, Try.ntmps120
    go_wp2_with (at_builtin; refine wpList_own_append (ty := tNV) (W := w.alloc (.cells #[] 32)) (S := fun k => True) (Sy := fun k => S k ∧ k < w.heap.size) (v := .slice (some ⟨w.heap.size, 0, none⟩) 0 0) (xs := []) (ys := l) rfl _ _ 24 32 32 _ rfl elemNodes rfl HO.out (some ad) l.length c rfl HRR.out rfl ?b1 ?b2 trivial (fun k h _ => ⟨trivial, fun e => Nat.ne_of_lt h.2 (Option.some.inj e).symm⟩) ?_)
    case b1 => simp; omega
    case b2 => unfold maxLen; simp; omega
    intro v2 w2 ho2 hg2 hor2
    have hb2 : Below w.heap.size w w2 := below_of_grown (Below.heap1 w (.cells #[] 32)) hg2 (fun k hk => Nat.le_of_eq (Option.some.inj hk))
    have hlt2 := ho2.lt
    have ho3 : Own tNV 32 w2 (fun k => w.heap.size ≤ k) v2 l := by
      obtain ⟨_, inner, r1, r2⟩ := ho2
      refine ⟨fun k hk => ?_, inner, r1, fun j x hj => r2 j x hj⟩
      rcases hor2 with h | h
      · exact Nat.le_of_eq (Option.some.inj (h.symm.trans hk))
      · have e := Option.some.inj (h.symm.trans hk); omega
    have HO3 := Lib.hid ho3
    have HB2 := Lib.hid hb2
    clear ho2 hg2 hb2 hor2
    go_wp2
    go_ret
    exact RetOwn.mk HO3.out HB2.out
theorem elemEnds : ElemOf Try.prog 33 38 tP.sz 16 (.agg #[.int .i64 0, .int .i64 0]) := ⟨Try.underlying33, by kernel_rfl, rfl⟩
set_option maxHeartbeats 2000000 in
theorem cloneEnds_calls (w : World) (S : Nat → Prop) (v : Value) (l : List P2) (h : Row tP w S v l) (hlen : l.length ≤ 1000000) : Calls Try.prog 153 #[v] w (RetOwn tP 38 w l) := by
  have hb := h.bound
  obtain ⟨A, c, rfl⟩ := h.slice
  obtain ⟨h1, h2, h3, h4⟩ := h.n_eq
  cases A with
  | none =>
    obtain rfl := h4 rfl
    have hl : l = [] := List.eq_nil_of_length_eq_zero (by omega)
    subst hl
    clear h hb
    have hq := fun W : World => run_eql_slice_nil (P := Try.prog) W 33 _ none 0 0 Try.underlying33
    go_enter Try.func153, Try.ntmps153
    go_wp2
    go_ret
    exact RetOwn.mk (Own.nil _ _ _ _) (Below.refl _ _)
  | some ad =>
    have H := Lib.hid hb
    clear h hb h1 h2 h3 h4
    have ho : Own tP 38 (w.alloc (.cells #[] 38)) (fun k => True) (.slice (some ⟨w.heap.size, 0, none⟩) 0 0) [] := ⟨fun _ _ => trivial, [], ⟨rfl, .inr ⟨w.heap.size, 0, #[], rfl, Nat.zero_le _, heap_alloc_new w _, Nat.le_refl _, by unfold maxLen; omega, rfl, rfl⟩⟩, fun j x hj => by simp at hj⟩
    have HO := Lib.hid ho
    have hr := H.out.below (Below.heap1 w (.cells #[] 38))
    have HRR := Lib.hid hr
    clear ho hr
    have hq := fun W : World => run_eql_slice_nil (P := Try.prog) W 33 _ (some ad) l.length c Try.underlying33
    go_enter Try.func153, Try.ntmps153
    go_wp2_with (at_builtin; refine wpList_own_append (ty := tP) (W := w.alloc (.cells #[] 38)) (S := fun k => True) (Sy := fun k => S k ∧ k < w.heap.size) (v := .slice (some ⟨w.heap.size, 0, none⟩) 0 0) (xs := []) (ys := l) rfl _ _ 33 38 16 _ rfl elemEnds rfl HO.out (some ad) l.length c rfl HRR.out rfl ?b1 ?b2 trivial (fun k h _ => ⟨trivial, fun e => Nat.ne_of_lt h.2 (Option.some.inj e).symm⟩) ?_)
    case b1 => simp; omega
    case b2 => unfold maxLen; simp; omega
    intro v2 w2 ho2 hg2 hor2
    have hb2 : Below w.heap.size w w2 := below_of_grown (Below.heap1 w (.cells #[] 38)) hg2 (fun k hk => Nat.le_of_eq (Option.some.inj hk))
    have hlt2 := ho2.lt
    have ho3 : Own tP 38 w2 (fun k => w.heap.size ≤ k) v2 l := by
      obtain ⟨_, inner, r1, r2⟩ := ho2
      refine ⟨fun k hk => ?_, inner, r1, fun j x hj => r2 j x hj⟩
      rcases hor2 with h | h
      · exact Nat.le_of_eq (Option.some.inj (h.symm.trans hk))
      · have e := Option.some.inj (h.symm.trans hk); omega
    have HO3 := Lib.hid ho3
    have HB2 := Lib.hid hb2
    clear ho2 hg2 hb2 hor2
    go_wp2
    go_ret
    exact RetOwn.mk HO3.out HB2.out
end Go.Proofs.Ytpehmmdbjakkpaa
