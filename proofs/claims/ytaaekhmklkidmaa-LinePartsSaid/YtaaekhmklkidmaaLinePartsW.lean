/- LineParts: whole fives, and others behind them. -/
import Derived.Test.YtaaekhmklkidmaaLinePlainW
import Derived.Test.YtaaekhmklkidmaaWrite
import Derived.Test.YtaaekhmklkidmaaLineBackW
import Derived.Test.YtaaekhmklkidmaaOpR
import Derived.OpenShut
namespace Go.Proofs.Ytaaekhmklkidmaa
open Go.RowKit Go.ChangeShapes Go.WideShapes Go.Deep
set_option linter.unusedSimpArgs false
set_option linter.unusedVariables false
theorem readsFive : Reads Try.prog tOp 35 OpD.ok := ⟨by kernel_rfl, fun {H enc w base spare held fuel cs y} h => by
  obtain ⟨xs, n, _, _, hlen, hxl, hf⟩ := DataW.trod_array Try.underlying35 h
  have hC : Try.prog.cellsOf 35 = 5 := by kernel_rfl
  have hI : Try.prog.cellsOf 3 = 1 := by kernel_rfl
  rw [hC] at hlen
  match cs, hlen with
  | [c0, c1, c2, c3, c4], _ =>
    match xs, hxl with
    | [y0, y1, y2, y3, y4], _ =>
      have g0 := hf 0 (by omega)
      have g1 := hf 1 (by omega)
      have g2 := hf 2 (by omega)
      have g3 := hf 3 (by omega)
      have g4 := hf 4 (by omega)
      rw [hI] at g0 g1 g2 g3 g4
      have g0' : DataW.trod enc Try.prog w base spare held n 3 [c0] = some y0 := g0
      have g1' : DataW.trod enc Try.prog w base spare held n 3 [c1] = some y1 := g1
      have g2' : DataW.trod enc Try.prog w base spare held n 3 [c2] = some y2 := g2
      have g3' : DataW.trod enc Try.prog w base spare held n 3 [c3] = some y3 := g3
      have g4' : DataW.trod enc Try.prog w base spare held n 3 [c4] = some y4 := g4
      obtain ⟨n0, e0, _, w0⟩ := DataW.trod_int Try.underlying3 g0'
      obtain ⟨n1, e1, _, w1⟩ := DataW.trod_int Try.underlying3 g1'
      obtain ⟨n2, e2, _, w2⟩ := DataW.trod_int Try.underlying3 g2'
      obtain ⟨n3, e3, _, w3⟩ := DataW.trod_int Try.underlying3 g3'
      obtain ⟨n4, e4, _, w4⟩ := DataW.trod_int Try.underlying3 g4'
      simp at e0 e1 e2 e3 e4
      subst e0 e1 e2 e3 e4
      exact ⟨⟨n0, n1, n2, n3, n4⟩, rfl, okI_of_wf w0, okI_of_wf w1, okI_of_wf w2, okI_of_wf w3, okI_of_wf w4⟩⟩
def flat (l : List OpD) : List Int := l.flatMap OpD.nums
theorem flat_succ {l : List OpD} {k : Nat} {x : OpD} (h : l[k]? = some x) : flat (l.take (k + 1)) = flat (l.take k) ++ [x.kind, x.a, x.b, x.k, x.v] := by simp [flat, List.take_add_one, h, OpD.nums]
theorem flat_len (l : List OpD) : (flat l).length = 5 * l.length := by
  induction l with
  | nil => rfl
  | cons x l ih => simp only [flat, List.flatMap_cons, List.length_append, List.length_cons, OpD.nums] at ih ⊢; simp at ih ⊢; omega
theorem flat_take_len (l : List OpD) (k : Nat) : (flat (l.take k)).length ≤ 5 * k := by rw [flat_len, List.length_take]; omega
theorem opsOf_flat (l : List OpD) (b : List Int) : opsOf (flat l ++ b) = opsOf (flat l) ++ opsOf b := by
  induction l with
  | nil => show opsOf ([] ++ b) = opsOf [] ++ opsOf b; rw [opsOf_nil]; rfl
  | cons x l ih =>
    show opsOf ((x.nums ++ flat l) ++ b) = opsOf (x.nums ++ flat l) ++ opsOf b
    rw [List.append_assoc, opsOf_five (f := x.nums) rfl, opsOf_five (f := x.nums) rfl, ih, List.append_assoc]
theorem opsOf_len (l : List Int) : (opsOf l).length ≤ l.length / 5 := opsTo_le l _
set_option maxHeartbeats 8000000 in
theorem lineParts_walk (w : World) (u : Value) (o : List OpD) (hu : Row tOp w (fun _ => True) u o) (oko : ∀ x ∈ o, x.ok) (v : Value) (l : List Int) (hr : Row tInt w (fun _ => True) v l) (okl : ∀ x ∈ l, okI x) : Calls Try.prog 5 #[u, v] w fun e w' => e = .returned (.bool true) ∧ Below w.heap.size w w' := by
  obtain ⟨A, c, rfl⟩ := hr.slice
  obtain ⟨B, d, rfl⟩ := hu.slice
  have HR := Lib.hid hr.bound
  have HU := Lib.hid hu
  clear hr hu okl oko
  by_cases h60 : 60 < (o.length : Int)
  · go_enter Try.func5, Try.ntmps5
    go_wp2_with fail
    refine (live_calls _).mono ?_
    rintro e w1 ⟨rfl, hb1⟩
    have HB1 := Lib.hid hb1
    clear hb1
    go_wp2
    go_ret
    exact ⟨rfl, HB1.out⟩
  by_cases h300 : 300 < (l.length : Int)
  · go_enter Try.func5, Try.ntmps5
    go_wp2_with fail
    refine (live_calls _).mono ?_
    rintro e w1 ⟨rfl, hb1⟩
    have HB1 := Lib.hid hb1
    clear hb1
    go_wp2
    go_ret
    exact ⟨rfl, HB1.out⟩
  have hl : l.length ≤ 300 := by omega
  have ho : o.length ≤ 60 := by omega
  have HF := Lib.hid (flat_len o)
  go_enter Try.func5, Try.ntmps5
  go_wp2_with fail
  refine (live_calls _).mono ?_
  rintro e w1 ⟨rfl, hb1⟩
  have K1 := Lib.hid hb1
  clear hb1
  have s1 := K1.out.size
  go_wp2
  go_loopw [5, 20] (fun o' i wr => ∃ k : Nat, k ≤ o.length ∧ i = .int .i64 (k : Int) ∧ Hid (Own tInt 3 wr (fun k => w.heap.size ≤ k) o' (flat (o.take k))) ∧ Hid (Below w.heap.size w wr)) (fun _ i _ => o.length - (intOf i).toNat)
  case atStart => exact ⟨0, by omega, rfl, Own.nil _ _ _ _, K1⟩
  case round =>
    obtain ⟨k, hk, rfl, ho', hb⟩ := hrel
    have hsz0 := hb.out.size
    by_cases hlt : k < o.length
    · obtain ⟨x, hx⟩ := getElem?_of_lt hlt
      obtain ⟨b, off, rfl, hbl, x0, x1, x2, x3, x4⟩ := (HU.out.below hb.out).atOp hx
      have HXX := Lib.hid hx
      clear hx
      have hw1 := flat_take_len o k
      have e1 := flat_succ HXX.out
      have HE := Lib.hid e1
      clear e1
      go_wp2_with (at_builtin; refine wpList_own_appendB (ty := tInt) (w := w) (S := fun k => w.heap.size ≤ k) (v := u5) (xs := flat (o.take k)) (ys := [x.kind, x.a, x.b, x.k, x.v]) rfl _ _ 24 3 8 _ rfl elemInt rfl ?hown rfl (by simp) ?hrow rfl ?hB (fun _ h => h) (fun _ h _ => h) ?hbytes ?hlen ?_)
      case hown => exact ho'.out
      case hrow => exact row_five _ _ _ _ _ _ _
      case hB => exact hb.out
      case hbytes => simp; omega
      case hlen => unfold maxLen; simp; omega
      intro v2 w2 ho2 hb2 _
      have HO2 := Lib.hid ho2
      have HB2 := Lib.hid hb2
      clear ho2 hb2
      go_wp2
      go_roundw
      case rel => exact ⟨k + 1, by omega, by first | (go_num; done) | (go_num; omega), by rw [HE.out]; exact HO2, HB2⟩
      case measure => simp [intOf]; omega
    · have hk2 : o.take k = o := List.take_of_length_le (by omega)
      rw [hk2] at ho'
      clear hk2
      obtain ⟨A0, c0, rfl⟩ := ho'.out.slice
      go_wp2_with (at_builtin; refine wpList_own_append (ty := tInt) (W := wr) (S := fun k => w.heap.size ≤ k) (Sy := fun k => w.heap.size ≤ k) (v := .slice none 0 0) (xs := []) (ys := flat o) rfl _ _ 24 3 8 _ rfl elemInt rfl (Own.nil _ _ _ _) A0 (flat o).length c0 rfl ho'.out.row rfl ?b1 ?b2 ?b3 (fun k h _ => ⟨h, by simp [Value.ownBlock]⟩) ?_)
      case b1 => have := HF.out; simp; omega
      case b2 => have := HF.out; unfold maxLen; simp; omega
      case b3 => exact hsz0
      intro v2 w2 ho2 hg2 hor2
      obtain ⟨A2, c2, rfl⟩ := ho2.slice
      have hge : ∀ k, (Value.slice A2 (flat o).length c2).ownBlock = some k → w.heap.size ≤ k := ho2.1
      have hb2 : Below w.heap.size w w2 := below_of_grown hb.out hg2 (fun k h => by cases h)
      have hol : Own tInt 3 w2 (fun k => w.heap.size ≤ k ∧ k < wr.heap.size) (Value.slice A0 (flat o).length c0) (flat o) := ho'.out.bound.move (Same.of_grown hg2 fun k _ => by simp [Value.ownBlock])
      have hnl : ∀ k, (w.heap.size ≤ k ∧ k < wr.heap.size) → some k ≠ (Value.slice A2 (flat o).length c2).ownBlock := fun k hk e => by
        rcases hor2 with h | h
        · rw [h] at e; cases e
        · rw [h] at e; injection e with e; omega
      have HGE := Lib.hid hge
      have HOL := Lib.hid hol
      have HNL := Lib.hid hnl
      have HB2 := Lib.hid hb2
      have HO2 := Lib.hid ho2
      clear hge hol hnl hb2 ho2 hg2 hor2
      have HRr := Lib.hid (HR.out.below HB2.out)
      go_wp2_with (at_builtin; refine wpList_own_append (ty := tInt) (W := w2) (S := fun k => True) (Sy := fun k => True ∧ k < w.heap.size) (v := .slice A2 (flat o).length c2) (xs := flat o) (ys := l) rfl _ _ 24 3 8 _ rfl elemInt rfl (HO2.out.mono fun _ _ _ => trivial) A l.length c rfl HRr.out rfl ?b4 ?b5 trivial (fun k h _ => ⟨trivial, fun e => by have := HGE.out k e; have := h.2; omega⟩) ?_)
      case b4 => have := HF.out; omega
      case b5 => have := HF.out; unfold maxLen; omega
      intro v3 w3 ho3 hg3 _
      obtain ⟨A3, c3, rfl⟩ := ho3.slice
      have L1 := Lib.hid (show (flat o ++ l).length ≤ 1000000 by have := HF.out; rw [List.length_append]; omega)
      have EO := Lib.hid (opsOf_flat o l)
      generalize flat o ++ l = fl at ho3 L1 EO ⊢
      have K3 := Lib.hid (below_of_grown HB2.out hg3 HGE.out)
      have OL := Lib.hid (HOL.out.move (Same.of_grown hg3 HNL.out))
      have R3 := Lib.hid ho3.row
      clear ho3 hg3
      have s3 := K3.out.size
      have L2 := Lib.hid (show (flat o).length ≤ 1000000 by have := HF.out; omega)
      have L3 := Lib.hid (show l.length ≤ 1000000 by omega)
      go_wp2_with fail
      refine (ops_calls _ _ _ _ R3.out L1.out).mono ?_
      rintro e w4 ⟨v4, rfl, ho4, hb4⟩
      obtain ⟨A4, c4, rfl⟩ := ho4.slice
      have P4 := Lib.hid (ho4.row.mono fun k _ h => h : Row tOp w4 (fun k => k < w4.heap.size) _ _)
      have OL4 := Lib.hid (OL.out.below hb4).row
      have K4 := Lib.hid (K3.out.trans (hb4.mono s3))
      have s4 := K4.out.size
      clear ho4 hb4
      go_wp2_with fail
      refine (ops_calls _ _ _ _ OL4.out L2.out).mono ?_
      rintro e w5 ⟨v5, rfl, ho5, hb5⟩
      obtain ⟨A5, c5, rfl⟩ := ho5.slice
      have P4 := Lib.hid (P4.out.below hb5)
      have P5 := Lib.hid ho5
      have K5 := Lib.hid (K4.out.trans (hb5.mono s4))
      have s5 := K5.out.size
      have s45 := hb5.size
      clear ho5 hb5
      have HR5 := Lib.hid (HR.out.below K5.out)
      go_wp2_with fail
      refine (ops_calls _ _ _ _ HR5.out L3.out).mono ?_
      rintro e w6 ⟨v6, rfl, ho6, hb6⟩
      obtain ⟨A6, c6, rfl⟩ := ho6.slice
      have P4 := Lib.hid (P4.out.below hb6)
      have hlt5 := P5.out.lt
      have P5 := Lib.hid (P5.out.below hb6)
      have P6 := Lib.hid ho6.row
      have K6 := Lib.hid (K5.out.trans (hb6.mono s5))
      have s6 := K6.out.size
      have s56 := hb6.size
      have LT5 := Lib.hid hlt5
      clear ho6 hb6 hlt5
      have QQ := Lib.hid (show (opsOf (flat o)).length + (opsOf l).length ≤ 1000 by have q1 := opsOf_len (flat o); have q2 := opsOf_len l; have q3 := HF.out; omega)
      go_wp2_with (at_builtin; refine wpList_own_append (ty := tOp) (W := w6) (S := fun k => w4.heap.size ≤ k) (Sy := fun k => w5.heap.size ≤ k) (v := .slice A5 (opsOf (flat o)).length c5) (xs := opsOf (flat o)) (ys := opsOf l) rfl _ _ 30 23 40 _ rfl elemOp rfl P5.out A6 (opsOf l).length c6 rfl P6.out rfl ?b6 ?b7 ?b8 (fun k h _ => ⟨by omega, fun e => by have := LT5.out k e; omega⟩) ?_)
      case b6 => have := QQ.out; omega
      case b7 => have := QQ.out; unfold maxLen; omega
      case b8 => omega
      intro v7 w7 ho7 hg7 hor7
      obtain ⟨A7, c7, rfl⟩ := ho7.slice
      have hge7 : ∀ k, (Value.slice A5 (opsOf (flat o)).length c5).ownBlock = some k → w.heap.size ≤ k := fun k hk => by have : w4.heap.size ≤ k := P5.out.1 k hk; omega
      have K7 := Lib.hid (below_of_grown K6.out hg7 hge7)
      have N7 := Lib.hid (show ∀ k, k < w4.heap.size → some k ≠ (Value.slice A5 (opsOf (flat o)).length c5).ownBlock from fun k hk e => by have : w4.heap.size ≤ k := P5.out.1 k e.symm; omega)
      have P4 := Lib.hid (P4.out.move (Same.of_grown hg7 N7.out))
      have P7 := Lib.hid (ho7.row.mono fun _ _ _ => trivial : Row tOp w7 (fun _ => True) _ _)
      have s7 := K7.out.size
      generalize opsOf (flat o) ++ opsOf l = ol at ho7 P7 EO ⊢
      clear ho7 hg7 hge7 hor7
      go_wp2_with fail
      refine (sameOps_calls _ (fun _ => True) _ _ _ _ (P4.out.mono fun _ _ _ => trivial) P7.out).mono ?_
      rintro e w8 ⟨rfl, hb8⟩
      rw [EO.out, decide_eq_true rfl]
      have K8 := Lib.hid (K7.out.trans (hb8.mono s7))
      clear hb8
      go_wp2
      go_ret
      exact ⟨rfl, K8.out⟩
end Go.Proofs.Ytaaekhmklkidmaa
