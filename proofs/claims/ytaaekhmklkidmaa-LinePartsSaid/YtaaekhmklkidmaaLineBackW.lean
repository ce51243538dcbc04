/- LineBack: what was written is read. -/
import Derived.Test.YtaaekhmklkidmaaLinePlainW
import Derived.Test.YtaaekhmklkidmaaRefOps
import Derived.Test.YtaaekhmklkidmaaWrite
namespace Go.Proofs.Ytaaekhmklkidmaa
open Go.RowKit
set_option linter.unusedSimpArgs false
set_option linter.unusedVariables false
theorem plain_idem (o : OpD) (h : (plain o).2 = true) : plain (plain o).1 = ((plain o).1, true) := by
  unfold plain at h ⊢
  rcases kinds_cases o.kind with h1 | h1 | h1 | h1 | h1 | h1 | h1 | h1 | h1 | h1 <;> simp [h1] at h ⊢
theorem chunk_zero {f r : List Int} (h : f.length = 5) : chunk (f ++ r) 0 = f := by
  unfold chunk
  rw [Nat.mul_zero, List.drop_zero, List.take_append_of_le_length (by omega), List.take_of_length_le (by omega)]
theorem chunk_succ {f r : List Int} (h : f.length = 5) (k : Nat) : chunk (f ++ r) (k + 1) = chunk r k := by
  unfold chunk
  rw [show 5 * (k + 1) = f.length + 5 * k by omega, ← List.drop_drop, List.drop_append_of_le_length (by omega), List.drop_length, List.nil_append]
theorem opsOf_five {f r : List Int} (h : f.length = 5) : opsOf (f ++ r) = opl f ++ opsOf r := by
  unfold opsOf opsTo
  rw [List.length_append, h, show (5 + r.length) / 5 = r.length / 5 + 1 by omega, List.range_succ_eq_map, List.flatMap_cons, chunk_zero h, List.flatMap_map]
  simp only [Nat.succ_eq_add_one, chunk_succ h]
def want1 (o : OpD) : List OpD := if (plain o).2 = true then [(plain o).1] else []
def wantOf (l : List OpD) : List OpD := l.flatMap want1
theorem want1_no {o : OpD} (h : (plain o).2 = false) : want1 o = [] := by simp [want1, h]
theorem want1_yes {o : OpD} (h : (plain o).2 = true) : want1 o = [(plain o).1] := by simp [want1, h]
theorem want1_len (o : OpD) : (want1 o).length ≤ 1 := by unfold want1; split <;> simp
theorem wantOf_succ {l : List OpD} {k : Nat} {x : OpD} (h : l[k]? = some x) : wantOf (l.take (k + 1)) = wantOf (l.take k) ++ want1 x := by simp [wantOf, List.take_add_one, h]
theorem wantOf_len (l : List OpD) : (wantOf l).length ≤ l.length := by
  induction l with
  | nil => simp [wantOf]
  | cons x l ih => have := want1_len x; simp only [wantOf, List.flatMap_cons, List.length_append, List.length_cons] at ih ⊢; omega
theorem wantOf_take_len (l : List OpD) (k : Nat) : (wantOf (l.take k)).length ≤ k := by have := wantOf_len (l.take k); rw [List.length_take] at this; omega
theorem opsOf_nil : opsOf [] = [] := by simp [opsOf, opsTo]
theorem opsOf_write (o : List OpD) : opsOf (writeOf o) = wantOf o := by
  induction o with
  | nil => exact opsOf_nil
  | cons x o ih =>
    show opsOf (wr1 x ++ writeOf o) = want1 x ++ wantOf o
    cases h : (plain x).2
    · rw [wr1_no h, want1_no h]; simpa using ih
    · rw [wr1_yes h, want1_yes h, opsOf_five rfl, ih]
      congr 1
      unfold opl
      have e : opOf [(plain x).1.kind, (plain x).1.a, (plain x).1.b, (plain x).1.k, (plain x).1.v] = plain (plain x).1 := rfl
      rw [e, plain_idem x h]
      simp
theorem want_plain {l : List OpD} (h : ∀ x ∈ l, plain x = (x, true)) : wantOf l = l := by
  induction l with
  | nil => rfl
  | cons x l ih =>
    show want1 x ++ wantOf l = x :: l
    have hx := h x (by simp)
    rw [want1_yes (by rw [hx]), hx, ih (fun y hy => h y (by simp [hy]))]
    rfl
theorem opOf_plain (c : List Int) (h : (opOf c).2 = true) : plain (opOf c).1 = ((opOf c).1, true) := by
  unfold opOf at h ⊢
  split at h
  · exact plain_idem _ h
  · cases h
theorem opsOf_plain (l : List Int) : ∀ x ∈ opsOf l, plain x = (x, true) := by
  intro x hx
  unfold opsOf opsTo at hx
  rw [List.mem_flatMap] at hx
  obtain ⟨j, _, hj⟩ := hx
  unfold opl at hj
  split at hj
  · rw [List.mem_singleton] at hj
    subst hj
    exact opOf_plain _ ‹_›
  · simp at hj
theorem opsOf_back (l : List Int) : opsOf (writeOf (opsOf l)) = opsOf l := by rw [opsOf_write, want_plain (opsOf_plain l)]
set_option maxHeartbeats 8000000 in
theorem lineBack_walk (w : World) (u : Value) (o : List OpD) (hu : Row tOp w (fun _ => True) u o) (oko : ∀ x ∈ o, x.ok) (v : Value) (l : List Int) (hr : Row tInt w (fun _ => True) v l) (okl : ∀ x ∈ l, okI x) : Calls Try.prog 6 #[u, v] w fun e w' => e = .returned (.bool true) ∧ Below w.heap.size w w' := by
  obtain ⟨A, c, rfl⟩ := hr.slice
  obtain ⟨B, d, rfl⟩ := hu.slice
  have HR := Lib.hid hr
  have HU := Lib.hid hu
  clear hr hu okl oko
  by_cases h500 : 500 < (l.length : Int)
  · go_enter Try.func6, Try.ntmps6
    go_wp2_with fail
    refine (live_calls _).mono ?_
    rintro e w1 ⟨rfl, hb1⟩
    have HB1 := Lib.hid hb1
    clear hb1
    go_wp2
    go_ret
    exact ⟨rfl, HB1.out⟩
  by_cases h100 : 100 < (o.length : Int)
  · go_enter Try.func6, Try.ntmps6
    go_wp2_with fail
    refine (live_calls _).mono ?_
    rintro e w1 ⟨rfl, hb1⟩
    have HB1 := Lib.hid hb1
    clear hb1
    go_wp2
    go_ret
    exact ⟨rfl, HB1.out⟩
  have HL := Lib.hid (show l.length ≤ 1000000 by omega)
  have HO := Lib.hid (show o.length ≤ 1000000 by omega)
  have ho100 : o.length ≤ 100 := by omega
  have HW := Lib.hid (show (writeOf o).length ≤ 1000000 by have := writeOf_len o; omega)
  have HV := Lib.hid (show (opsOf l).length ≤ 1000000 by have := opsTo_le l (l.length / 5); show (opsTo l (l.length / 5)).length ≤ _; omega)
  have HX := Lib.hid (show (writeOf (opsOf l)).length ≤ 1000000 by have h1 : (opsOf l).length ≤ l.length / 5 := opsTo_le l _; have h2 := writeOf_len (opsOf l); omega)
  go_enter Try.func6, Try.ntmps6
  go_wp2_with fail
  refine (live_calls _).mono ?_
  rintro e w1 ⟨rfl, hb1⟩
  have K1 := Lib.hid hb1
  clear hb1
  have s1 := K1.out.size
  go_wp2
  go_loopw [5, 23] (fun o' i wr => ∃ k : Nat, k ≤ o.length ∧ i = .int .i64 (k : Int) ∧ Hid (Own tOp 23 wr (fun k => w.heap.size ≤ k) o' (wantOf (o.take k))) ∧ Hid (Below w.heap.size w wr)) (fun _ i _ => o.length - (intOf i).toNat)
  case atStart => exact ⟨0, by omega, rfl, Own.nil _ _ _ _, K1⟩
  case round =>
    obtain ⟨k, hk, rfl, ho, hb⟩ := hrel
    by_cases hlt : k < o.length
    · obtain ⟨x, hx⟩ := getElem?_of_lt hlt
      obtain ⟨b, off, rfl, hbl, x0, x1, x2, x3, x4⟩ := (HU.out.below hb.out).atOp hx
      have HXX := Lib.hid hx
      clear hx
      have hw1 := wantOf_take_len o k
      go_wp2_with fail
      refine (plain_calls x _).mono ?_
      rintro e w2 ⟨rfl, hb1⟩
      have HB1 := Lib.hid hb1
      clear hb1
      have hsz := HB1.out.size
      have hsz0 := hb.out.size
      have HBw := Lib.hid ((hb.out.alloc hsz0 (.cells #[.int .i64 x.kind, .int .i64 x.a, .int .i64 x.b, .int .i64 x.k, .int .i64 x.v] 23)).trans (HB1.out.mono (by simp; omega)))
      have HOw := Lib.hid ((ho.out.move (Same.of_alloc _ _ (.cells #[.int .i64 x.kind, .int .i64 x.a, .int .i64 x.b, .int .i64 x.k, .int .i64 x.v] 23))).below HB1.out)
      have hszw := HBw.out.size
      simp only [plainV, OpD.val]
      cases h2 : (plain x).2
      · have e1 : wantOf (o.take (k + 1)) = wantOf (o.take k) := by rw [wantOf_succ HXX.out, want1_no h2, List.append_nil]
        have HE := Lib.hid e1
        have H2 := Lib.hid h2
        clear e1 h2
        go_wp2
        go_roundw
        case rel => exact ⟨k + 1, by omega, by first | (go_num; done) | (go_num; omega), by rw [HE.out]; exact Lib.hid (HOw.out.move (Same.of_alloc _ _ _)), Lib.hid (HBw.out.alloc hszw _)⟩
        case measure => simp [intOf]; omega
      · have e1 : wantOf (o.take (k + 1)) = wantOf (o.take k) ++ [(plain x).1] := by rw [wantOf_succ HXX.out, want1_yes h2]
        have HE := Lib.hid e1
        have H2 := Lib.hid h2
        clear e1 h2
        go_wp2_with (at_builtin; refine wpList_own_append1 (ty := tOp) (w := w) (S := fun k => w.heap.size ≤ k) (Sy := fun _ => False) (v := u5) (xs := wantOf (o.take k)) (x := (plain x).1) rfl _ _ 30 23 40 _ rfl elemOp rfl ?hown rfl (by simp) rfl ?hB (fun _ h => h) (fun _ h _ => h) ?hbytes ?hlen (fun _ h => h.elim) ?_)
        case hown => exact HOw.out.move (Same.of_alloc _ _ _)
        case hB => exact HBw.out.alloc hszw _
        case hbytes => omega
        case hlen => unfold maxLen; omega
        intro v2 w3 ho2 hb2 _ _
        have HO2 := Lib.hid ho2
        have HB2 := Lib.hid hb2
        clear ho2 hb2
        go_wp2
        go_roundw
        case rel => exact ⟨k + 1, by omega, by first | (go_num; done) | (go_num; omega), by rw [HE.out]; exact HO2, HB2⟩
        case measure => simp [intOf]; omega
    · have hk2 : o.take k = o := List.take_of_length_le (by omega)
      rw [hk2] at ho
      clear hk2
      obtain ⟨A0, c0, rfl⟩ := ho.out.slice
      have s0 := hb.out.size
      have HRr := Lib.hid (HR.out.below hb.out)
      go_wp2_with fail
      refine (ops_calls _ _ _ _ HRr.out HL.out).mono ?_
      rintro e w2 ⟨v2, rfl, ho2, hb2⟩
      obtain ⟨A2, c2, rfl⟩ := ho2.slice
      have P0 := Lib.hid (ho.out.below hb2)
      have P2 := Lib.hid ho2
      have K2 := Lib.hid (hb.out.trans (hb2.mono s0))
      have s2 := K2.out.size
      clear ho2 hb2
      have HU2 := Lib.hid (HU.out.below K2.out)
      go_wp2_with fail
      refine (write_calls _ _ _ _ HU2.out HO.out).mono ?_
      rintro e w3 ⟨v3, rfl, ho3, hb3⟩
      obtain ⟨A3, c3, rfl⟩ := ho3.slice
      have P0 := Lib.hid (P0.out.below hb3)
      have P2 := Lib.hid (P2.out.below hb3)
      have P3 := Lib.hid ho3.row
      have K3 := Lib.hid (K2.out.trans (hb3.mono s2))
      have s3 := K3.out.size
      clear ho3 hb3
      go_wp2_with fail
      refine (ops_calls _ _ _ _ P3.out HW.out).mono ?_
      rintro e w4 ⟨v4, rfl, ho4, hb4⟩
      obtain ⟨A4, c4, rfl⟩ := ho4.slice
      have P0 := Lib.hid (P0.out.below hb4)
      have P2 := Lib.hid (P2.out.below hb4)
      have P4 := Lib.hid ho4.row
      have K4 := Lib.hid (K3.out.trans (hb4.mono s3))
      have s4 := K4.out.size
      clear ho4 hb4
      go_wp2_with fail
      refine (sameOps_calls _ (fun _ => True) _ _ _ _ (P4.out.mono fun _ _ _ => trivial) (P0.out.row.mono fun _ _ _ => trivial)).mono ?_
      rintro e w5 ⟨rfl, hb5⟩
      rw [opsOf_write, decide_eq_true rfl]
      have P2 := Lib.hid (P2.out.below hb5).row
      have K5 := Lib.hid (K4.out.trans (hb5.mono s4))
      have s5 := K5.out.size
      clear hb5
      go_wp2_with fail
      refine (write_calls _ _ _ _ P2.out HV.out).mono ?_
      rintro e w6 ⟨v6, rfl, ho6, hb6⟩
      obtain ⟨A6, c6, rfl⟩ := ho6.slice
      have P2 := Lib.hid (P2.out.below hb6)
      have P6 := Lib.hid ho6.row
      have K6 := Lib.hid (K5.out.trans (hb6.mono s5))
      have s6 := K6.out.size
      clear ho6 hb6
      go_wp2_with fail
      refine (ops_calls _ _ _ _ P6.out HX.out).mono ?_
      rintro e w7 ⟨v7, rfl, ho7, hb7⟩
      obtain ⟨A7, c7, rfl⟩ := ho7.slice
      have P2 := Lib.hid (P2.out.below hb7)
      have P7 := Lib.hid ho7.row
      have K7 := Lib.hid (K6.out.trans (hb7.mono s6))
      have s7 := K7.out.size
      clear ho7 hb7
      go_wp2_with fail
      refine (sameOps_calls _ (fun _ => True) _ _ _ _ (P7.out.mono fun _ _ _ => trivial) (P2.out.mono fun _ _ _ => trivial)).mono ?_
      rintro e w8 ⟨rfl, hb8⟩
      rw [opsOf_back, decide_eq_true rfl]
      have K8 := Lib.hid (K7.out.trans (hb8.mono s7))
      clear hb8
      go_wp2
      go_ret
      exact ⟨rfl, K8.out⟩
end Go.Proofs.Ytaaekhmklkidmaa
