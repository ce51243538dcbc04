/- line.Write and the reference's: operations as numbers. -/
import Derived.Test.YtaaekhmklkidmaaOpB
import Derived.Test.YtaaekhmklkidmaaLib6
import Derived.Test.YtaaekhmklkidmaaOpC
namespace Go.Proofs.Ytaaekhmklkidmaa
open Go.RowKit
set_option linter.unusedSimpArgs false
set_option linter.unusedVariables false
def wr1 (o : OpD) : List Int := if (plain o).2 = true then [(plain o).1.kind, (plain o).1.a, (plain o).1.b, (plain o).1.k, (plain o).1.v] else []
def writeOf (l : List OpD) : List Int := l.flatMap wr1
theorem wr1_no {o : OpD} (h : (plain o).2 = false) : wr1 o = [] := by simp [wr1, h]
theorem wr1_yes {o : OpD} (h : (plain o).2 = true) : wr1 o = [(plain o).1.kind, (plain o).1.a, (plain o).1.b, (plain o).1.k, (plain o).1.v] := by simp [wr1, h]
theorem wr1_len (o : OpD) : (wr1 o).length ≤ 5 := by unfold wr1; split <;> simp
theorem writeOf_succ {l : List OpD} {k : Nat} {x : OpD} (h : l[k]? = some x) : writeOf (l.take (k + 1)) = writeOf (l.take k) ++ wr1 x := by simp [writeOf, List.take_add_one, h]
theorem writeOf_len (l : List OpD) : (writeOf l).length ≤ 5 * l.length := by
  induction l with
  | nil => simp [writeOf]
  | cons x l ih => have := wr1_len x; simp only [writeOf, List.flatMap_cons, List.length_append, List.length_cons] at ih ⊢; omega
theorem writeOf_take_len (l : List OpD) (k : Nat) : (writeOf (l.take k)).length ≤ 5 * k := by have := writeOf_len (l.take k); rw [List.length_take] at this; omega
theorem elemInt : ElemOf Try.prog 24 3 tInt.sz 8 (.int .i64 0) := ⟨Try.underlying24, by kernel_rfl, rfl⟩
theorem row_five (W : World) (e : TypeId) (x0 x1 x2 x3 x4 : Int) : Row tInt (W.alloc (.cells #[.int .i64 x0, .int .i64 x1, .int .i64 x2, .int .i64 x3, .int .i64 x4] e)) (fun k => k = W.heap.size) (.slice (some ⟨W.heap.size, 0, none⟩) 5 5) [x0, x1, x2, x3, x4] := by
  refine row_ofBox tInt W (fun k => k = W.heap.size) _ e [x0, x1, x2, x3, x4] (by unfold maxLen; simp) rfl ?_
  intro j x hj
  refine ⟨[.int .i64 x], rfl, fun i u hu => ?_⟩
  match j, hj with
  | 0, hj | 1, hj | 2, hj | 3, hj | 4, hj =>
    cases i with
    | zero => simp at hj hu; subst hj hu; rfl
    | succ i => simp at hu
set_option maxHeartbeats 2000000 in
theorem write_calls (w : World) (S : Nat → Prop) (v : Value) (l : List OpD) (h : Row tOp w S v l) (hlen : l.length ≤ 1000000) : Calls Try.prog 17 #[v] w (RetOwn tInt 3 w (writeOf l)) := by
  obtain ⟨A, c, rfl⟩ := h.slice
  have H := Lib.hid h
  clear h
  go_enter Try.func17, Try.ntmps17
  go_wp2
  go_loopw [3, 10] (fun o i wr => ∃ k : Nat, k ≤ l.length ∧ i = .int .i64 (k : Int) ∧ Hid (Own tInt 3 wr (fun k => w.heap.size ≤ k) o (writeOf (l.take k))) ∧ Hid (Below w.heap.size w wr)) (fun _ i _ => l.length - (intOf i).toNat)
  case atStart => exact ⟨0, by omega, rfl, Own.nil _ _ _ _, Below.refl _ _⟩
  case round =>
    obtain ⟨k, hk, rfl, ho, hb⟩ := hrel
    by_cases hlt : k < l.length
    · obtain ⟨x, hx⟩ := getElem?_of_lt hlt
      obtain ⟨b, off, rfl, hbl, x0, x1, x2, x3, x4⟩ := (H.out.below hb.out).atOp hx
      have HX := Lib.hid hx
      clear hx
      have hw1 := writeOf_take_len l k
      go_wp2_with fail
      refine (plain_calls x _).mono ?_
      rintro e w1 ⟨rfl, hb1⟩
      have HB1 := Lib.hid hb1
      clear hb1
      have hsz := HB1.out.size
      have hsz0 := hb.out.size
      have HBw := Lib.hid ((hb.out.alloc hsz0 (.cells #[.int .i64 x.kind, .int .i64 x.a, .int .i64 x.b, .int .i64 x.k, .int .i64 x.v] 23)).trans (HB1.out.mono (by simp; omega)))
      have HOw := Lib.hid ((ho.out.move (Same.of_alloc _ _ (.cells #[.int .i64 x.kind, .int .i64 x.a, .int .i64 x.b, .int .i64 x.k, .int .i64 x.v] 23))).below HB1.out)
      have hszw := HBw.out.size
      simp only [plainV, OpD.val]
      cases h2 : (plain x).2
      · have e1 : writeOf (l.take (k + 1)) = writeOf (l.take k) := by rw [writeOf_succ HX.out, wr1_no h2, List.append_nil]
        have HE := Lib.hid e1
        have H2 := Lib.hid h2
        clear e1 h2
        go_wp2
        go_roundw
        case rel => exact ⟨k + 1, by omega, by first | (go_num; done) | (go_num; omega), by rw [HE.out]; exact Lib.hid (HOw.out.move (Same.of_alloc _ _ _)), Lib.hid (HBw.out.alloc hszw _)⟩
        case measure => simp [intOf]; omega
      · have e1 : writeOf (l.take (k + 1)) = writeOf (l.take k) ++ [(plain x).1.kind, (plain x).1.a, (plain x).1.b, (plain x).1.k, (plain x).1.v] := by rw [writeOf_succ HX.out, wr1_yes h2]
        have HE := Lib.hid e1
        have H2 := Lib.hid h2
        clear e1 h2
        go_wp2_with (at_builtin; refine wpList_own_appendB (ty := tInt) (w := w) (S := fun k => w.heap.size ≤ k) (v := u3) (xs := writeOf (l.take k)) (ys := [(plain x).1.kind, (plain x).1.a, (plain x).1.b, (plain x).1.k, (plain x).1.v]) rfl _ _ 24 3 8 _ rfl elemInt rfl ?hown rfl (by simp) ?hrow rfl ?hB (fun _ h => h) (fun _ h _ => h) ?hbytes ?hlen ?_)
        case hown => exact HOw.out.move (Same.of_alloc _ _ _)
        case hrow => exact row_five _ _ _ _ _ _ _
        case hB => exact HBw.out.alloc hszw _
        case hbytes => simp; omega
        case hlen => unfold maxLen; simp; omega
        intro v2 w2 ho2 hb2 _
        have HO2 := Lib.hid ho2
        have HB2 := Lib.hid hb2
        clear ho2 hb2
        go_wp2
        go_roundw
        case rel => exact ⟨k + 1, by omega, by first | (go_num; done) | (go_num; omega), by rw [HE.out]; exact HO2, HB2⟩
        case measure => simp [intOf]; omega
    · have hk2 : l.take k = l := List.take_of_length_le (by omega)
      have HK := Lib.hid hk2
      clear hk2
      go_wp2
      go_ret
      exact RetOwn.mk (by have := ho.out; rwa [HK.out] at this) hb.out
set_option maxHeartbeats 2000000 in
theorem refWrite_calls (w : World) (S : Nat → Prop) (v : Value) (l : List OpD) (h : Row tOp w S v l) (hlen : l.length ≤ 1000000) : Calls Try.prog 20 #[v] w (RetOwn tInt 3 w (writeOf l)) := by
  obtain ⟨A, c, rfl⟩ := h.slice
  have H := Lib.hid h
  clear h
  go_enter Try.func20, Try.ntmps20
  go_wp2
  go_loopw [3, 10] (fun o i wr => ∃ k : Nat, k ≤ l.length ∧ i = .int .i64 (k : Int) ∧ Hid (Own tInt 3 wr (fun k => w.heap.size ≤ k) o (writeOf (l.take k))) ∧ Hid (Below w.heap.size w wr)) (fun _ i _ => l.length - (intOf i).toNat)
  case atStart => exact ⟨0, by omega, rfl, Own.nil _ _ _ _, Below.refl _ _⟩
  case round =>
    obtain ⟨k, hk, rfl, ho, hb⟩ := hrel
    by_cases hlt : k < l.length
    · obtain ⟨x, hx⟩ := getElem?_of_lt hlt
      obtain ⟨b, off, rfl, hbl, x0, x1, x2, x3, x4⟩ := (H.out.below hb.out).atOp hx
      have HX := Lib.hid hx
      clear hx
      have hw1 := writeOf_take_len l k
      go_wp2_with fail
      refine (refPlain_calls x _).mono ?_
      rintro e w1 ⟨rfl, hb1⟩
      have HB1 := Lib.hid hb1
      clear hb1
      have hsz := HB1.out.size
      have hsz0 := hb.out.size
      have HBw := Lib.hid ((hb.out.alloc hsz0 (.cells #[.int .i64 x.kind, .int .i64 x.a, .int .i64 x.b, .int .i64 x.k, .int .i64 x.v] 23)).trans (HB1.out.mono (by simp; omega)))
      have HOw := Lib.hid ((ho.out.move (Same.of_alloc _ _ (.cells #[.int .i64 x.kind, .int .i64 x.a, .int .i64 x.b, .int .i64 x.k, .int .i64 x.v] 23))).below HB1.out)
      have hszw := HBw.out.size
      simp only [plainV, OpD.val]
      cases h2 : (plain x).2
      · have e1 : writeOf (l.take (k + 1)) = writeOf (l.take k) := by rw [writeOf_succ HX.out, wr1_no h2, List.append_nil]
        have HE := Lib.hid e1
        have H2 := Lib.hid h2
        clear e1 h2
        go_wp2
        go_roundw
        case rel => exact ⟨k + 1, by omega, by first | (go_num; done) | (go_num; omega), by rw [HE.out]; exact Lib.hid (HOw.out.move (Same.of_alloc _ _ _)), Lib.hid (HBw.out.alloc hszw _)⟩
        case measure => simp [intOf]; omega
      · have e1 : writeOf (l.take (k + 1)) = writeOf (l.take k) ++ [(plain x).1.kind, (plain x).1.a, (plain x).1.b, (plain x).1.k, (plain x).1.v] := by rw [writeOf_succ HX.out, wr1_yes h2]
        have HE := Lib.hid e1
        have H2 := Lib.hid h2
        clear e1 h2
        go_wp2_with (at_builtin; refine wpList_own_appendB (ty := tInt) (w := w) (S := fun k => w.heap.size ≤ k) (v := u3) (xs := writeOf (l.take k)) (ys := [(plain x).1.kind, (plain x).1.a, (plain x).1.b, (plain x).1.k, (plain x).1.v]) rfl _ _ 24 3 8 _ rfl elemInt rfl ?hown rfl (by simp) ?hrow rfl ?hB (fun _ h => h) (fun _ h _ => h) ?hbytes ?hlen ?_)
        case hown => exact HOw.out.move (Same.of_alloc _ _ _)
        case hrow => exact row_five _ _ _ _ _ _ _
        case hB => exact HBw.out.alloc hszw _
        case hbytes => simp; omega
        case hlen => unfold maxLen; simp; omega
        intro v2 w2 ho2 hb2 _
        have HO2 := Lib.hid ho2
        have HB2 := Lib.hid hb2
        clear ho2 hb2
        go_wp2
        go_roundw
        case rel => exact ⟨k + 1, by omega, by first | (go_num; done) | (go_num; omega), by rw [HE.out]; exact HO2, HB2⟩
        case measure => simp [intOf]; omega
    · have hk2 : l.take k = l := List.take_of_length_le (by omega)
      have HK := Lib.hid hk2
      clear hk2
      go_wp2
      go_ret
      exact RetOwn.mk (by have := ho.out; rwa [HK.out] at this) hb.out
end Go.Proofs.Ytaaekhmklkidmaa
