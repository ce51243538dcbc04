/- slices.Clone. -/
import Derived.Test.YtgpmkcipogljbaaDTy
import Derived.Test.YtgpmkcipogljbaaSched
import Derived.Lib.LazyBuf
namespace Go.Proofs.Ytgpmkcipogljbaa
open Go.RowKit
set_option linter.unusedSimpArgs false
set_option linter.unusedVariables false
theorem Below.heap1 (w : World) (o : Obj) : Below w.heap.size w (w.alloc o) := (Below.refl _ _).alloc (Nat.le_refl _) o
theorem elemPclonePairs_calls : ElemOf Try.prog 31 53 tP.sz 16 (.agg #[.int .i64 0, .int .i64 0]) := ⟨Try.underlying31, by kernel_rfl, rfl⟩
set_option maxHeartbeats 2000000 in
theorem clonePairs_calls (w : World) (S : Nat → Prop) (v : Value) (l : List P2) (h : Row tP w S v l) (hlen : l.length ≤ 1000000) : Calls Try.prog 30 #[v] w (RetOwn tP 53 w l) := by
  have hb := h.bound
  obtain ⟨A, c, rfl⟩ := h.slice
  obtain ⟨h1, h2, h3, h4⟩ := h.n_eq
  cases A with
  | none =>
    obtain rfl := h4 rfl
    have hl : l = [] := List.eq_nil_of_length_eq_zero (by omega)
    subst hl
    clear h hb
    have hq := fun W : World => run_eql_slice_nil (P := Try.prog) W 31 _ none 0 0 Try.underlying31
    go_enter Try.func30, Try.ntmps30
    go_wp2
    go_ret
    exact RetOwn.mk (Own.nil _ _ _ _) (Below.refl _ _)
  | some ad =>
    have H := Lib.hid hb
    clear h hb h1 h2 h3 h4
    have ho : Own tP 53 (w.alloc (.cells #[] 53)) (fun k => True) (.slice (some ⟨w.heap.size, 0, none⟩) 0 0) [] := ⟨fun _ _ => trivial, [], ⟨rfl, .inr ⟨w.heap.size, 0, #[], rfl, Nat.zero_le _, heap_alloc_new w _, Nat.le_refl _, by unfold maxLen; omega, rfl, rfl⟩⟩, fun j x hj => by simp at hj⟩
    have HO := Lib.hid ho
    have hr := H.out.below (Below.heap1 w (.cells #[] 53))
    have HRR := Lib.hid hr
    clear ho hr
    have hq := fun W : World => run_eql_slice_nil (P := Try.prog) W 31 _ (some ad) l.length c Try.underlying31
    go_enter Try.func30, Try.ntmps30
    go_wp2_with (at_builtin; refine wpList_own_append (ty := tP) (W := w.alloc (.cells #[] 53)) (S := fun k => True) (Sy := fun k => S k ∧ k < w.heap.size) (v := .slice (some ⟨w.heap.size, 0, none⟩) 0 0) (xs := []) (ys := l) rfl _ _ 31 53 16 _ rfl elemPclonePairs_calls rfl HO.out (some ad) l.length c rfl HRR.out rfl ?b1 ?b2 trivial (fun k h _ => ⟨trivial, fun e => Nat.ne_of_lt h.2 (Option.some.inj e).symm⟩) ?_)
    case b1 => simp; omega
    case b2 => unfold maxLen; simp; omega
    intro v2 w2 ho2 hg2 hor2
    have hb2 : Below w.heap.size w w2 := below_of_grown (Below.heap1 w (.cells #[] 53)) hg2 (fun k hk => Nat.le_of_eq (Option.some.inj hk))
    have hlt2 := ho2.lt
    have ho3 : Own tP 53 w2 (fun k => w.heap.size ≤ k) v2 l := by
      obtain ⟨_, inner, r1, r2⟩ := ho2
      refine ⟨fun k hk => ?_, inner, r1, fun j x hj => r2 j x hj⟩
      rcases hor2 with h | h
      · exact Nat.le_of_eq (Option.some.inj (h.symm.trans hk))
      · have e := Option.some.inj (h.symm.trans hk); omega
    have HO3 := Lib.hid ho3
    have HB2 := Lib.hid hb2
    clear ho2 hg2 hb2 hor2
    go_wp2
    go_ret
    exact RetOwn.mk HO3.out HB2.out
theorem elemPcloneEnds_calls : ElemOf Try.prog 32 56 tP.sz 16 (.agg #[.int .i64 0, .int .i64 0]) := ⟨Try.underlying32, by kernel_rfl, rfl⟩
set_option maxHeartbeats 2000000 in
theorem cloneEnds_calls (w : World) (S : Nat → Prop) (v : Value) (l : List P2) (h : Row tP w S v l) (hlen : l.length ≤ 1000000) : Calls Try.prog 31 #[v] w (RetOwn tP 56 w l) := by
  have hb := h.bound
  obtain ⟨A, c, rfl⟩ := h.slice
  obtain ⟨h1, h2, h3, h4⟩ := h.n_eq
  cases A with
  | none =>
    obtain rfl := h4 rfl
    have hl : l = [] := List.eq_nil_of_length_eq_zero (by omega)
    subst hl
    clear h hb
    have hq := fun W : World => run_eql_slice_nil (P := Try.prog) W 32 _ none 0 0 Try.underlying32
    go_enter Try.func31, Try.ntmps31
    go_wp2
    go_ret
    exact RetOwn.mk (Own.nil _ _ _ _) (Below.refl _ _)
  | some ad =>
    have H := Lib.hid hb
    clear h hb h1 h2 h3 h4
    have ho : Own tP 56 (w.alloc (.cells #[] 56)) (fun k => True) (.slice (some ⟨w.heap.size, 0, none⟩) 0 0) [] := ⟨fun _ _ => trivial, [], ⟨rfl, .inr ⟨w.heap.size, 0, #[], rfl, Nat.zero_le _, heap_alloc_new w _, Nat.le_refl _, by unfold maxLen; omega, rfl, rfl⟩⟩, fun j x hj => by simp at hj⟩
    have HO := Lib.hid ho
    have hr := H.out.below (Below.heap1 w (.cells #[] 56))
    have HRR := Lib.hid hr
    clear ho hr
    have hq := fun W : World => run_eql_slice_nil (P := Try.prog) W 32 _ (some ad) l.length c Try.underlying32
    go_enter Try.func31, Try.ntmps31
    go_wp2_with (at_builtin; refine wpList_own_append (ty := tP) (W := w.alloc (.cells #[] 56)) (S := fun k => True) (Sy := fun k => S k ∧ k < w.heap.size) (v := .slice (some ⟨w.heap.size, 0, none⟩) 0 0) (xs := []) (ys := l) rfl _ _ 32 56 16 _ rfl elemPcloneEnds_calls rfl HO.out (some ad) l.length c rfl HRR.out rfl ?b1 ?b2 trivial (fun k h _ => ⟨trivial, fun e => Nat.ne_of_lt h.2 (Option.some.inj e).symm⟩) ?_)
    case b1 => simp; omega
    case b2 => unfold maxLen; simp; omega
    intro v2 w2 ho2 hg2 hor2
    have hb2 : Below w.heap.size w w2 := below_of_grown (Below.heap1 w (.cells #[] 56)) hg2 (fun k hk => Nat.le_of_eq (Option.some.inj hk))
    have hlt2 := ho2.lt
    have ho3 : Own tP 56 w2 (fun k => w.heap.size ≤ k) v2 l := by
      obtain ⟨_, inner, r1, r2⟩ := ho2
      refine ⟨fun k hk => ?_, inner, r1, fun j x hj => r2 j x hj⟩
      rcases hor2 with h | h
      · exact Nat.le_of_eq (Option.some.inj (h.symm.trans hk))
      · have e := Option.some.inj (h.symm.trans hk); omega
    have HO3 := Lib.hid ho3
    have HB2 := Lib.hid hb2
    clear ho2 hg2 hb2 hor2
    go_wp2
    go_ret
    exact RetOwn.mk HO3.out HB2.out
end Go.Proofs.Ytgpmkcipogljbaa
