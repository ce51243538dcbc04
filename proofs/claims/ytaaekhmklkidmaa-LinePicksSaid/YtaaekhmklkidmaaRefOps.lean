/- The reference's Ops: numbers, cut into fives, as operations. -/
import Derived.Test.YtaaekhmklkidmaaOpB
import Derived.Test.YtaaekhmklkidmaaLib3
import Derived.Test.YtaaekhmklkidmaaOpC
namespace Go.Proofs.Ytaaekhmklkidmaa
open Go.RowKit
set_option linter.unusedSimpArgs false
set_option linter.unusedVariables false
def opl (c : List Int) : List OpD := if (opOf c).2 = true then [(opOf c).1] else []
def chunk (l : List Int) (k : Nat) : List Int := (l.drop (5 * k)).take 5
def opsTo (l : List Int) (k : Nat) : List OpD := (List.range k).flatMap fun j => opl (chunk l j)
def opsOf (l : List Int) : List OpD := opsTo l (l.length / 5)
theorem opsTo_succ (l : List Int) (k : Nat) : opsTo l (k + 1) = opsTo l k ++ opl (chunk l k) := by simp [opsTo, List.range_succ]
theorem opl_le (c : List Int) : (opl c).length ≤ 1 := by unfold opl; split <;> simp
theorem opsTo_le (l : List Int) (k : Nat) : (opsTo l k).length ≤ k := by
  induction k with
  | zero => simp [opsTo]
  | succ k ih => rw [opsTo_succ, List.length_append]; have := opl_le (chunk l k); omega
theorem elemOp : ElemOf Try.prog 30 23 tOp.sz 40 (.agg #[.int .i64 0, .int .i64 0, .int .i64 0, .int .i64 0, .int .i64 0]) := ⟨Try.underlying30, by kernel_rfl, rfl⟩
set_option maxHeartbeats 2000000 in
theorem refOps_calls (w : World) (S : Nat → Prop) (v : Value) (l : List Int) (h : Row tInt w S v l) (hlen : l.length ≤ 1000000) : Calls Try.prog 16 #[v] w (RetOwn tOp 23 w (opsOf l)) := by
  obtain ⟨A, c, rfl⟩ := h.slice
  have H := Lib.hid h
  obtain ⟨_, hc1, hc2, _⟩ := h.n_eq
  unfold maxLen at hc2
  clear h
  go_enter Try.func16, Try.ntmps16
  go_wp2
  go_loopw [3, 4] (fun o i wr => ∃ k : Nat, 5 * k ≤ l.length ∧ i = .int .i64 ((5 * k : Nat) : Int) ∧ Hid (Own tOp 23 wr (fun k => w.heap.size ≤ k) o (opsTo l k)) ∧ Hid (Below w.heap.size w wr)) (fun _ i _ => l.length - (intOf i).toNat)
  case atStart => exact ⟨0, by omega, rfl, Own.nil _ _ _ _, Below.refl _ _⟩
  case round =>
    obtain ⟨k, hk, rfl, ho, hb⟩ := hrel
    by_cases hlt : 5 * k + 5 ≤ l.length
    · obtain ⟨b, off, rfl, hbl, _⟩ := (H.out.below hb.out).atInt (x := l[0]) (j := 0) (List.getElem?_eq_getElem (by omega))
      have hr : Row tInt wr S (.slice (some ⟨b, off + 5 * k, none⟩) 5 (c - 5 * k)) (chunk l k) := by
        have h1 := (H.out.below hb.out).sub (i := 5 * k) (m := 5) (c' := c - 5 * k) hlt (by omega) (by unfold maxLen; omega)
        rwa [show off + 5 * k * tInt.sz = off + 5 * k from by show off + 5 * k * 1 = _; omega] at h1
      have HR := Lib.hid hr
      clear hr
      go_wp2_with fail
      refine (refOp_calls _ _ _ _ HR.out).mono ?_
      rintro e w1 ⟨rfl, hb1⟩
      have HB1 := Lib.hid hb1
      clear hb1
      have hsz := HB1.out.size
      have hsz0 := hb.out.size
      have HBw := Lib.hid (hb.out.trans (HB1.out.mono hsz0))
      have hszw := HBw.out.size
      simp only [opV, OpD.val]
      cases h2 : (opOf (chunk l k)).2
      · have HC := Lib.hid h2
        clear h2
        have e1 : opsTo l (k + 1) = opsTo l k := by rw [opsTo_succ, opl, HC.out]; simp
        have HE := Lib.hid e1
        clear e1
        go_wp2
        go_roundw
        case rel => exact ⟨k + 1, by omega, by first | (go_num; done) | (go_num; omega), by rw [HE.out]; exact Lib.hid (ho.out.below (HB1.out.alloc hsz _)), Lib.hid (HBw.out.alloc hszw _)⟩
        case measure => simp [intOf]; omega
      · have HC := Lib.hid h2
        clear h2
        have e1 : opsTo l (k + 1) = opsTo l k ++ [(opOf (chunk l k)).1] := by rw [opsTo_succ, opl, HC.out]; simp
        have HE := Lib.hid e1
        have hle := opsTo_le l k
        clear e1
        go_wp2_with (at_builtin; refine wpList_own_append1 (ty := tOp) (w := w) (S := fun k => w.heap.size ≤ k) (Sy := fun _ => False) (v := u3) (xs := opsTo l k) (x := (opOf (chunk l k)).1) rfl _ _ 30 23 40 _ rfl elemOp rfl ?hown rfl (by simp) rfl ?hB (fun _ h => h) (fun _ h _ => h) ?hbytes ?hlen (fun _ h => h.elim) ?_)
        case hown => exact ho.out.below (HB1.out.alloc hsz _)
        case hB => exact HBw.out.alloc hszw _
        case hbytes => omega
        case hlen => unfold maxLen; omega
        intro v2 w2 ho2 hb2 _ _
        have HO2 := Lib.hid ho2
        have HB2 := Lib.hid hb2
        clear ho2 hb2
        go_wp2
        go_roundw
        case rel => exact ⟨k + 1, by omega, by first | (go_num; done) | (go_num; omega), by rw [HE.out]; exact HO2, HB2⟩
        case measure => simp [intOf]; omega
    · have hk2 : k = l.length / 5 := by omega
      have HK := Lib.hid hk2
      clear hk2
      go_wp2
      go_ret
      exact RetOwn.mk (by rw [opsOf, ← HK.out]; exact ho.out) hb.out
end Go.Proofs.Ytaaekhmklkidmaa
