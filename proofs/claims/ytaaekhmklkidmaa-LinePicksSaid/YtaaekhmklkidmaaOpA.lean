/- Operations of layer 4 as plain data, and what line.Plain, line.Op and the reference's answer. -/
import Derived.Test.YtaaekhmklkidmaaProg
import Derived.Test.YtaaekhmklkidmaaLib
import Derived.Deep.RegionHeld3
import Derived.KernelRfl
namespace Go.Proofs.Ytaaekhmklkidmaa
open Go.RowKit

structure OpD where
  kind : Int
  a : Int
  b : Int
  k : Int
  v : Int
theorem OpD.eq_of {x y : OpD} (h1 : x.kind = y.kind) (h2 : x.a = y.a) (h3 : x.b = y.b) (h4 : x.k = y.k) (h5 : x.v = y.v) : x = y := by
  cases x; cases y; simp_all
instance : DecidableEq OpD := fun x y =>
  if h : x.kind = y.kind ∧ x.a = y.a ∧ x.b = y.b ∧ x.k = y.k ∧ x.v = y.v then .isTrue (OpD.eq_of h.1 h.2.1 h.2.2.1 h.2.2.2.1 h.2.2.2.2)
  else .isFalse fun e => h (by rw [e]; exact ⟨rfl, rfl, rfl, rfl, rfl⟩)
def OpD.nums (o : OpD) : List Int := [o.kind, o.a, o.b, o.k, o.v]
def OpD.cells (o : OpD) : List Value := [.int .i64 o.kind, .int .i64 o.a, .int .i64 o.b, .int .i64 o.k, .int .i64 o.v]
def OpD.val (o : OpD) : Value := .agg #[.int .i64 o.kind, .int .i64 o.a, .int .i64 o.b, .int .i64 o.k, .int .i64 o.v]
def OpD.zero : OpD := ⟨0, 0, 0, 0, 0⟩
def tInt : Ty Int := Ty.flat 1 (by decide) (fun x => [.int .i64 x]) (fun _ => rfl) (fun x u hu => by rw [List.mem_singleton.1 hu]; rfl)
def tOp : Ty OpD := Ty.flat 5 (by decide) OpD.cells (fun _ => rfl) (fun x u hu => by
  simp only [OpD.cells, List.mem_cons, List.not_mem_nil, or_false] at hu
  rcases hu with rfl | rfl | rfl | rfl | rfl <;> rfl)

/-- A plain operation: 0 where its kind does not look. -/
def plain (o : OpD) : OpD × Bool :=
  if o.kind = 1 then (⟨1, 0, 0, 0, 0⟩, true)
  else if o.kind = 2 ∨ o.kind = 9 then (⟨o.kind, o.a, o.b, 0, 0⟩, true)
  else if o.kind = 4 then (⟨4, o.a, 0, o.k, o.v⟩, true)
  else if o.kind = 5 then (⟨5, o.a, 0, o.k, 0⟩, true)
  else if o.kind = 3 ∨ o.kind = 6 ∨ o.kind = 7 ∨ o.kind = 8 then (⟨o.kind, o.a, 0, 0, 0⟩, true)
  else (OpD.zero, false)
def plainV (o : OpD) : Value := .tuple #[(plain o).1.val, .bool (plain o).2]

theorem kinds_cases (k : Int) : k = 1 ∨ k = 2 ∨ k = 9 ∨ k = 4 ∨ k = 5 ∨ k = 3 ∨ k = 6 ∨ k = 7 ∨ k = 8 ∨ (k ≠ 1 ∧ k ≠ 2 ∧ k ≠ 3 ∧ k ≠ 4 ∧ k ≠ 5 ∧ k ≠ 6 ∧ k ≠ 7 ∧ k ≠ 8 ∧ k ≠ 9) := by omega
theorem plain_none {o : OpD} (h : o.kind ≠ 1 ∧ o.kind ≠ 2 ∧ o.kind ≠ 3 ∧ o.kind ≠ 4 ∧ o.kind ≠ 5 ∧ o.kind ≠ 6 ∧ o.kind ≠ 7 ∧ o.kind ≠ 8 ∧ o.kind ≠ 9) : plain o = (OpD.zero, false) := by
  obtain ⟨h1, h2, h3, h4, h5, h6, h7, h8, h9⟩ := h
  simp [plain, *]

set_option maxHeartbeats 4000000 in
theorem plain_calls (o : OpD) (w : World) : Calls Try.prog 10 #[o.val] w fun e w' => e = .returned (plainV o) ∧ Below w.heap.size w w' := by
  obtain ⟨kd, a, b, k, v⟩ := o
  unfold OpD.val
  rcases kinds_cases kd with rfl | rfl | rfl | rfl | rfl | rfl | rfl | rfl | rfl | h
  case inr.inr.inr.inr.inr.inr.inr.inr.inr =>
    have e : plainV ⟨kd, a, b, k, v⟩ = .tuple #[.agg #[.int .i64 0, .int .i64 0, .int .i64 0, .int .i64 0, .int .i64 0], .bool false] := by rw [plainV, plain_none h]; rfl
    rw [e]
    clear e
    obtain ⟨h1, h2, h3, h4, h5, h6, h7, h8, h9⟩ := h
    replace h1 : (kd == 1) = false := beq_eq_false_iff_ne.mpr h1
    replace h2 : (kd == 2) = false := beq_eq_false_iff_ne.mpr h2
    replace h3 : (kd == 3) = false := beq_eq_false_iff_ne.mpr h3
    replace h4 : (kd == 4) = false := beq_eq_false_iff_ne.mpr h4
    replace h5 : (kd == 5) = false := beq_eq_false_iff_ne.mpr h5
    replace h6 : (kd == 6) = false := beq_eq_false_iff_ne.mpr h6
    replace h7 : (kd == 7) = false := beq_eq_false_iff_ne.mpr h7
    replace h8 : (kd == 8) = false := beq_eq_false_iff_ne.mpr h8
    replace h9 : (kd == 9) = false := beq_eq_false_iff_ne.mpr h9
    go_enter Try.func10, Try.ntmps10
    go_wp2
    refine bodyPost_ret (v := .tuple #[.agg #[.int .i64 0, .int .i64 0, .int .i64 0, .int .i64 0, .int .i64 0], .bool false]) (by simp [results, Try.results10, go_sem]) rfl ⟨rfl, ?_⟩
    repeat (first | exact Below.refl _ _ | refine Below.drew ?_ | refine Below.alloc ?_ (by simp; try omega) _)
  all_goals
    go_enter Try.func10, Try.ntmps10
    go_wp2
    try (go_region; all_goals go_wp2)
    refine bodyPost_ret (v := plainV _) (by simp [results, Try.results10, go_sem]; rfl) rfl ⟨rfl, ?_⟩
    repeat (first | exact Below.refl _ _ | refine Below.drew ?_ | refine Below.alloc ?_ (by simp; try omega) _)
set_option maxHeartbeats 4000000 in
theorem refPlain_calls (o : OpD) (w : World) : Calls Try.prog 11 #[o.val] w fun e w' => e = .returned (plainV o) ∧ Below w.heap.size w w' := by
  obtain ⟨kd, a, b, k, v⟩ := o
  unfold OpD.val
  rcases kinds_cases kd with rfl | rfl | rfl | rfl | rfl | rfl | rfl | rfl | rfl | h
  case inr.inr.inr.inr.inr.inr.inr.inr.inr =>
    have e : plainV ⟨kd, a, b, k, v⟩ = .tuple #[.agg #[.int .i64 0, .int .i64 0, .int .i64 0, .int .i64 0, .int .i64 0], .bool false] := by rw [plainV, plain_none h]; rfl
    rw [e]
    clear e
    obtain ⟨h1, h2, h3, h4, h5, h6, h7, h8, h9⟩ := h
    replace h1 : (kd == 1) = false := beq_eq_false_iff_ne.mpr h1
    replace h2 : (kd == 2) = false := beq_eq_false_iff_ne.mpr h2
    replace h3 : (kd == 3) = false := beq_eq_false_iff_ne.mpr h3
    replace h4 : (kd == 4) = false := beq_eq_false_iff_ne.mpr h4
    replace h5 : (kd == 5) = false := beq_eq_false_iff_ne.mpr h5
    replace h6 : (kd == 6) = false := beq_eq_false_iff_ne.mpr h6
    replace h7 : (kd == 7) = false := beq_eq_false_iff_ne.mpr h7
    replace h8 : (kd == 8) = false := beq_eq_false_iff_ne.mpr h8
    replace h9 : (kd == 9) = false := beq_eq_false_iff_ne.mpr h9
    go_enter Try.func11, Try.ntmps11
    go_wp2
    refine bodyPost_ret (v := .tuple #[.agg #[.int .i64 0, .int .i64 0, .int .i64 0, .int .i64 0, .int .i64 0], .bool false]) (by simp [results, Try.results11, go_sem]) rfl ⟨rfl, ?_⟩
    repeat (first | exact Below.refl _ _ | refine Below.drew ?_ | refine Below.alloc ?_ (by simp; try omega) _)
  all_goals
    go_enter Try.func11, Try.ntmps11
    go_wp2
    try (go_region; all_goals go_wp2)
    refine bodyPost_ret (v := plainV _) (by simp [results, Try.results11, go_sem]; rfl) rfl ⟨rfl, ?_⟩
    repeat (first | exact Below.refl _ _ | refine Below.drew ?_ | refine Below.alloc ?_ (by simp; try omega) _)
end Go.Proofs.Ytaaekhmklkidmaa
