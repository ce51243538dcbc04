/- slices.Chunk over numbers: the parts of five, one by one. -/
import Derived.RangeFuncNested
import Derived.RangeFuncBound
import Derived.RangeFuncCalls
import Derived.RangeFuncLeaves
import Derived.RangeFuncBox
import Derived.Shelf.Abstract
import Derived.Shelf.RegionOpen
import Derived.WalkKit
import Derived.OwnWalkIn
import Derived.TacticsInMore
import Derived.LoopNIn
import Derived.LoopIn
import Derived.BigQuiet
import Derived.Sort.QuietIn
import Derived.Test.YtaaekhmklkidmaaRefOps
namespace Go.Proofs.Ytaaekhmklkidmaa
open Go.RowKit Go.Shelf
attribute [local go_sem] Oper.semAt_some
set_option linter.unusedSimpArgs false
set_option linter.unusedVariables false
theorem Grown_drewN (w : World) (n : Nat) : w.grownBy (w.drewN n) none := ⟨rfl, rfl, rfl, Nat.le_refl _, fun _ _ _ => rfl⟩
theorem below_drewN' (B : Nat) (w : World) (n : Nat) : Below B w (w.drewN n) := ⟨rfl, rfl, rfl, Nat.le_refl _, fun _ _ => rfl⟩
/-- The two variables of the closure. -/
def Two (Bs Bn : Nat) (k : Nat) : Prop := k = Bs ∨ k = Bn
/-- The k-th part of a slice of len numbers at block b. -/
def partV (b off len k : Nat) : Value := .slice (some ⟨b, off + 5 * k, none⟩) (min 5 (len - 5 * k)) (min 5 (len - 5 * k))
def parts (len : Nat) : Nat := (len + 4) / 5
set_option maxHeartbeats 1000000 in
theorem chunk_in (n : Nat) (A : Option Addr) (len cap : Nat) (w : World) :
    CallsIn Fence.wide n Try.prog 22 #[.slice A len cap, .int .i64 5] w fun e w' => e = .returned (.func (.func 23) #[] #[.pointer (some ⟨w.heap.size, 0, none⟩), .pointer (some ⟨w.heap.size + 1, 0, none⟩)]) ∧ w' = (w.alloc (.cells #[.slice A len cap] 24)).alloc (.cells #[.int .i64 5] 3) := by
  refine callsIn_of_wp Try.func22 rfl trivial ?_ rfl
  simp only [Try.ntmps22, List.size_toArray, List.length_cons, List.length_nil, Nat.reduceAdd, Nat.reduceSub, Array.replicate_succ, Array.replicate_zero, List.push_toArray, List.append_toArray, List.nil_append, List.cons_append]
  gi_wp2
  go_ret
  exact ⟨rfl, rfl⟩
set_option maxRecDepth 100000 in
set_option maxHeartbeats 2000000 in
theorem chunk1_in (n : Nat) (hn : 1 ≤ n) (l Bs Bn b off len cap : Nat) (hlen : len ≤ 1000000) (hc1 : len ≤ cap) (hc2 : cap ≤ 2 ^ 63 - 1) (J Jx : List Nat → World → Prop) (W : World) (hJ : AbidesFrom W.heap.size J)
    (hY : ∀ pre x W, J pre W → pre.length < parts len → YieldAt Fence.wide (n - 1) Try.prog l #[partV b off len x] W fun e W' =>
      (e = .returned (.bool true) ∧ J (pre ++ [x]) W' ∧ Kept W (Two Bs Bn) W') ∨ (e = .returned (.bool false) ∧ Jx (pre ++ [x]) W'))
    (hBs : W.cell? ⟨Bs, 0, none⟩ = some (.slice (some ⟨b, off, none⟩) len cap)) (hBn : W.cell? ⟨Bn, 0, none⟩ = some (.int .i64 5)) (h0 : J [] W) :
    CallsIn Fence.wide n Try.prog 23 #[.func (.yield l) #[] #[], .pointer (some ⟨Bs, 0, none⟩), .pointer (some ⟨Bn, 0, none⟩)] W fun e W' => (∃ v, e = .returned v) ∧
      ((∃ ys, ys = List.range (parts len) ∧ J ys W') ∨ (∃ pre, (∃ k, k ≤ parts len ∧ pre = List.range k) ∧ Jx pre W')) := by
  refine callsIn_of_wp Try.func23 rfl trivial ?_ rfl
  simp only [Try.ntmps23, List.size_toArray, List.length_cons, List.length_nil, Nat.reduceAdd, Nat.reduceSub, Array.replicate_succ, Array.replicate_zero, List.push_toArray, List.append_toArray, List.nil_append, List.cons_append]
  gi_wp2
  gi_loopw [4] (fun i wr => ∃ k : Nat, k ≤ parts len ∧ i = .int .i64 ((5 * k : Nat) : Int) ∧ J (List.range k) wr ∧ Kept W (Two Bs Bn) wr)
    (fun i _ => len + 5 - (intOf i).toNat)
  case atStart => exact ⟨0, Nat.zero_le _, rfl, h0, Kept.refl _ _⟩
  case round =>
    obtain ⟨k, hk, rfl, hJs, hnx⟩ := hrel
    unfold parts at hk
    have c1 : wr.cell? ⟨Bs, 0, none⟩ = some (.slice (some ⟨b, off, none⟩) len cap) := (hnx.cell Bs 0 (.inl rfl) (block_lt_of_cell hBs)).trans hBs
    have c2 : wr.cell? ⟨Bn, 0, none⟩ = some (.int .i64 5) := (hnx.cell Bn 0 (.inr rfl) (block_lt_of_cell hBn)).trans hBn
    by_cases hlt : 5 * k < len
    · by_cases h5 : 5 * k + 5 ≤ len
      · have hge : ¬ ((len - 5 * k : Nat) : Int) < 5 := by omega
        have hge' : (5 : Int) ≤ ((len - 5 * k : Nat) : Int) := by omega
        gi_wp2
        gi_quiet (fail)
        have hJ2 : J (List.range k) (wr.drewN nq) := hJ _ wr _ none hJs (Grown_drewN wr nq) (fun r e => by cases e)
        have hnx2 : Kept W (Two Bs Bn) (wr.drewN nq) := hnx.drewN nq
        have hYk := hY _ k (wr.drewN nq) hJ2 (by rw [List.length_range]; unfold parts; omega)
        rw [show partV b off len k = .slice (some ⟨b, off + 5 * k, none⟩) 5 5 from by unfold partV; rw [Nat.min_eq_left (by omega)]] at hYk
        obtain ⟨fn, tmps, assign, body, hy, hR⟩ := hYk
        have e1 : (5 * (k : Int) + 5).toNat = 5 * k + 5 := by omega
        have HR := Lib.hid hR
        clear hR
        have HJ := Lib.hid hJ2
        have HX := Lib.hid hnx2
        clear hJ2 hnx2
        gi_wp2
        refine HR.out.mono ?_
        rintro e W3 (⟨rfl, hJ3, hk3⟩ | ⟨rfl, hJx3⟩)
        · have c2' : W3.cell? ⟨Bn, 0, none⟩ = some (.int .i64 5) := (hk3.cell Bn 0 (.inr rfl) (block_lt_of_cell c2)).trans c2
          have HJ3 := Lib.hid hJ3
          have HK3 := Lib.hid (HX.out.trans hk3)
          clear hJ3 hk3
          gi_wp2
          go_roundw
          case rel => exact ⟨k + 1, by unfold parts; omega, by first | (go_num; done) | (go_num; omega), by rw [List.range_succ]; exact HJ3.out, HK3.out⟩
          case measure => simp [intOf]; omega
        · gi_wp2
          refine bodyPost_ret (results_none rfl _ _ _) rfl ?_
          exact ⟨⟨_, rfl⟩, .inr ⟨_, ⟨k + 1, by unfold parts; omega, List.range_succ.symm⟩, hJx3⟩⟩
      · have hge : ((len - 5 * k : Nat) : Int) < 5 := by omega
        gi_wp2
        gi_quiet (fail)
        have hJ2 : J (List.range k) (wr.drewN nq) := hJ _ wr _ none hJs (Grown_drewN wr nq) (fun r e => by cases e)
        have hnx2 : Kept W (Two Bs Bn) (wr.drewN nq) := hnx.drewN nq
        have hYk := hY _ k (wr.drewN nq) hJ2 (by rw [List.length_range]; unfold parts; omega)
        rw [show partV b off len k = .slice (some ⟨b, off + 5 * k, none⟩) (len - 5 * k) (len - 5 * k) from by unfold partV; rw [Nat.min_eq_right (by omega)]] at hYk
        obtain ⟨fn, tmps, assign, body, hy, hR⟩ := hYk
        have e1 : 5 * (k : Int) + ((len - 5 * k : Nat) : Int) = (len : Int) := by omega
        have HR := Lib.hid hR
        clear hR
        have HJ := Lib.hid hJ2
        have HX := Lib.hid hnx2
        clear hJ2 hnx2
        gi_wp2
        refine HR.out.mono ?_
        rintro e W3 (⟨rfl, hJ3, hk3⟩ | ⟨rfl, hJx3⟩)
        · have c2' : W3.cell? ⟨Bn, 0, none⟩ = some (.int .i64 5) := (hk3.cell Bn 0 (.inr rfl) (block_lt_of_cell c2)).trans c2
          have HJ3 := Lib.hid hJ3
          have HK3 := Lib.hid (HX.out.trans hk3)
          clear hJ3 hk3
          gi_wp2
          go_roundw
          case rel => exact ⟨k + 1, by unfold parts; omega, by first | (go_num; done) | (go_num; omega), by rw [List.range_succ]; exact HJ3.out, HK3.out⟩
          case measure => simp [intOf]; omega
        · gi_wp2
          refine bodyPost_ret (results_none rfl _ _ _) rfl ?_
          exact ⟨⟨_, rfl⟩, .inr ⟨_, ⟨k + 1, by unfold parts; omega, List.range_succ.symm⟩, hJx3⟩⟩
    · have hk2 : k = parts len := by unfold parts; omega
      have HK := Lib.hid hk2
      clear hk2
      gi_wp2
      go_end0
      exact ⟨⟨_, rfl⟩, .inl ⟨_, by rw [← HK.out], hJs⟩⟩
set_option maxHeartbeats 1000000 in
theorem chunk1_nil (n : Nat) (l Bs Bn : Nat) (A : Option Addr) (cap : Nat) (J : List Nat → World → Prop) (W : World) (hBs : W.cell? ⟨Bs, 0, none⟩ = some (.slice A 0 cap)) (h0 : J [] W) :
    CallsIn Fence.wide n Try.prog 23 #[.func (.yield l) #[] #[], .pointer (some ⟨Bs, 0, none⟩), .pointer (some ⟨Bn, 0, none⟩)] W fun e W' => (∃ v, e = .returned v) ∧ J [] W' := by
  refine callsIn_of_wp Try.func23 rfl trivial ?_ rfl
  simp only [Try.ntmps23, List.size_toArray, List.length_cons, List.length_nil, Nat.reduceAdd, Nat.reduceSub, Array.replicate_succ, Array.replicate_zero, List.push_toArray, List.append_toArray, List.nil_append, List.cons_append]
  gi_wp2
  gi_loopw [4] (fun i wr => i = .int .i64 0 ∧ J [] wr ∧ wr.cell? ⟨Bs, 0, none⟩ = some (.slice A 0 cap)) (fun _ _ => 0)
  case atStart => exact ⟨rfl, h0, hBs⟩
  case round =>
    obtain ⟨rfl, hJs, hBs2⟩ := hrel
    gi_wp2
    go_end0
    exact ⟨⟨_, rfl⟩, hJs⟩
/-- The part's value for any slice. -/
def partOf (v : Value) (k : Nat) : Value :=
  match v with
  | .slice (some a) n _ => partV a.block a.off n k
  | v => v
theorem chunk_stops (n : Nat) (hn : 1 ≤ n) (Bs Bn : Nat) (sv : Value) (S : Nat → Prop) (l : List Int) (hlen : l.length ≤ 1000000) (w : World)
    (hc : w.cell? ⟨Bs, 0, none⟩ = some sv) (hc5 : w.cell? ⟨Bn, 0, none⟩ = some (.int .i64 5)) (h : Row tInt w S sv l) :
    SeqStopsK Fence.wide n Try.prog 23 #[.pointer (some ⟨Bs, 0, none⟩), .pointer (some ⟨Bn, 0, none⟩)] (fun k : Nat => #[partOf sv k]) (fun W W' => Kept W (Two Bs Bn) W') (fun ys => ys = List.range (parts l.length)) (fun pre => ∃ k, k ≤ parts l.length ∧ pre = List.range k) (parts l.length) w := by
  intro lr J Jx W hW hJ hJx hY h0
  have hc' := (hW.cell (p := ⟨Bs, 0, none⟩) (block_lt_of_cell hc)).trans hc
  have hc5' := (hW.cell (p := ⟨Bn, 0, none⟩) (block_lt_of_cell hc5)).trans hc5
  obtain ⟨A, cap, rfl⟩ := h.slice
  obtain ⟨_, h1, h2, h3⟩ := h.n_eq
  unfold maxLen at h2
  by_cases hl : l.length = 0
  · rw [hl] at hc'
    refine (chunk1_nil n lr Bs Bn A cap J W hc' h0).mono fun e W' ⟨he, hj⟩ => ⟨he, .inl ⟨_, ?_, hj⟩⟩
    rw [hl]; rfl
  · obtain ⟨b, off, rfl, _⟩ := h.atInt (x := l[0]) (j := 0) (List.getElem?_eq_getElem (by omega))
    exact chunk1_in n hn lr Bs Bn b off l.length cap hlen h1 h2 J Jx W hJ hY hc' hc5' h0
theorem partOf_row {w : World} {S : Nat → Prop} {sv : Value} {l : List Int} (h : Row tInt w S sv l) (k : Nat) : Row tInt w S (partOf sv k) (chunk l k) := by
  by_cases hl : l.length = 0
  · obtain rfl : l = [] := List.eq_nil_of_length_eq_zero hl
    obtain ⟨A, c, rfl⟩ := h.slice
    obtain ⟨_, h1, h2, h3⟩ := h.n_eq
    have e : chunk [] k = [] := by simp [chunk]
    rw [e]
    cases A with
    | none => exact h
    | some a => exact ⟨some ⟨a.block, a.off + 5 * k, none⟩, 0, by simp [partOf, partV], by simp, by unfold maxLen; omega, by simp, .inl rfl⟩
  obtain ⟨b, off, c, rfl, h1, _⟩ := h.get (by omega)
  have hm := h.n_eq.2.2.1
  unfold partOf partV chunk
  simp only
  by_cases hk : 5 * k ≤ l.length
  · have h2 := h.sub (i := 5 * k) (m := min 5 (l.length - 5 * k)) (c' := min 5 (l.length - 5 * k)) (by omega) (Nat.le_refl _) (by unfold maxLen; omega)
    rw [show off + 5 * k * tInt.sz = off + 5 * k from by show off + 5 * k * 1 = _; omega] at h2
    have e : (l.drop (5 * k)).take (min 5 (l.length - 5 * k)) = (l.drop (5 * k)).take 5 := by
      rw [← List.length_drop, ← List.take_eq_take_min]
    rwa [e] at h2
  · have e : (l.drop (5 * k)).take 5 = [] := by rw [List.drop_eq_nil_of_le (by omega)]; rfl
    rw [e, show l.length - 5 * k = 0 from by omega]
    exact ⟨_, 0, rfl, by simp, by unfold maxLen; omega, by simp, .inl rfl⟩
end Go.Proofs.Ytaaekhmklkidmaa
