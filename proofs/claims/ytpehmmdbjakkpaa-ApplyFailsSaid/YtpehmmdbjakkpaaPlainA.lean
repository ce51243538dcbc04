/- line.Plain, and what a plain operation comes to. -/
import Derived.Test.YtpehmmdbjakkpaaApplyLaw
namespace Go.Proofs.Ytpehmmdbjakkpaa
open Go.RowKit Go.Shelf
set_option linter.unusedSimpArgs false
set_option linter.unusedVariables false
/-- A plain operation: 0 where its kind does not look. -/
def plainOf (o : OpD) : OpD × Bool :=
  if o.k = 1 then (⟨1, 0, 0, 0, 0⟩, true)
  else if o.k = 2 ∨ o.k = 9 then (⟨o.k, o.a, o.b, 0, 0⟩, true)
  else if o.k = 4 then (⟨4, o.a, 0, o.p, o.v⟩, true)
  else if o.k = 5 then (⟨5, o.a, 0, o.p, 0⟩, true)
  else if o.k = 3 ∨ o.k = 6 ∨ o.k = 7 ∨ o.k = 8 then (⟨o.k, o.a, 0, 0, 0⟩, true)
  else (⟨0, 0, 0, 0, 0⟩, false)
def plainV (o : OpD) : Value := .tuple #[(plainOf o).1.val, .bool (plainOf o).2]
theorem kinds_cases (k : Int) : k = 1 ∨ k = 2 ∨ k = 9 ∨ k = 4 ∨ k = 5 ∨ k = 3 ∨ k = 6 ∨ k = 7 ∨ k = 8 ∨ (k ≠ 1 ∧ k ≠ 2 ∧ k ≠ 3 ∧ k ≠ 4 ∧ k ≠ 5 ∧ k ≠ 6 ∧ k ≠ 7 ∧ k ≠ 8 ∧ k ≠ 9) := by omega
theorem plain_none {o : OpD} (h : o.k ≠ 1 ∧ o.k ≠ 2 ∧ o.k ≠ 3 ∧ o.k ≠ 4 ∧ o.k ≠ 5 ∧ o.k ≠ 6 ∧ o.k ≠ 7 ∧ o.k ≠ 8 ∧ o.k ≠ 9) : plainOf o = (⟨0, 0, 0, 0, 0⟩, false) := by
  obtain ⟨h1, h2, h3, h4, h5, h6, h7, h8, h9⟩ := h
  simp [plainOf, *]

set_option maxHeartbeats 4000000 in
theorem linePlain_calls (o : OpD) (w : World) : Calls Try.prog 66 #[o.val] w fun e w' => e = .returned (plainV o) ∧ Below w.heap.size w w' := by
  obtain ⟨kd, a, b, k, v⟩ := o
  unfold OpD.val
  rcases kinds_cases kd with rfl | rfl | rfl | rfl | rfl | rfl | rfl | rfl | rfl | h
  case inr.inr.inr.inr.inr.inr.inr.inr.inr =>
    have e : plainV ⟨kd, a, b, k, v⟩ = .tuple #[.agg #[.int .i64 0, .int .i64 0, .int .i64 0, .int .i64 0, .int .i64 0], .bool false] := by rw [plainV, plain_none h]; rfl
    rw [e]
    clear e
    obtain ⟨h1, h2, h3, h4, h5, h6, h7, h8, h9⟩ := h
    replace h1 : (kd == 1) = false := beq_eq_false_iff_ne.mpr h1
    replace h2 : (kd == 2) = false := beq_eq_false_iff_ne.mpr h2
    replace h3 : (kd == 3) = false := beq_eq_false_iff_ne.mpr h3
    replace h4 : (kd == 4) = false := beq_eq_false_iff_ne.mpr h4
    replace h5 : (kd == 5) = false := beq_eq_false_iff_ne.mpr h5
    replace h6 : (kd == 6) = false := beq_eq_false_iff_ne.mpr h6
    replace h7 : (kd == 7) = false := beq_eq_false_iff_ne.mpr h7
    replace h8 : (kd == 8) = false := beq_eq_false_iff_ne.mpr h8
    replace h9 : (kd == 9) = false := beq_eq_false_iff_ne.mpr h9
    go_enter Try.func66, Try.ntmps66
    go_wp2
    refine bodyPost_ret (v := .tuple #[.agg #[.int .i64 0, .int .i64 0, .int .i64 0, .int .i64 0, .int .i64 0], .bool false]) (by simp [results, Try.results66, go_sem]) rfl ⟨rfl, ?_⟩
    repeat (first | exact Below.refl _ _ | refine Below.drew ?_ | refine Below.alloc ?_ (by simp; try omega) _)
  all_goals
    go_enter Try.func66, Try.ntmps66
    go_wp2
    try (go_region; all_goals go_wp2)
    refine bodyPost_ret (v := plainV _) (by simp [results, Try.results66, go_sem]; rfl) rfl ⟨rfl, ?_⟩
    repeat (first | exact Below.refl _ _ | refine Below.drew ?_ | refine Below.alloc ?_ (by simp; try omega) _)
theorem plain_do {c : CfgD} {g : GraphD} {o : OpD} (h : (plainOf o).2 = true) : doOf c g (plainOf o).1 = doOf c g o ∧ takesOf c g (plainOf o).1 = takesOf c g o := by
  obtain ⟨k, a, b, p, v⟩ := o
  rcases kinds_cases k with rfl | rfl | rfl | rfl | rfl | rfl | rfl | rfl | rfl | h9
  case inr.inr.inr.inr.inr.inr.inr.inr.inr =>
    rw [plain_none h9] at h
    cases h
  all_goals exact ⟨rfl, rfl⟩
theorem plain_no {c : CfgD} {g : GraphD} {o : OpD} (h : (plainOf o).2 = false) : doOf c g o = (g, ⟨1, 0, [], [], []⟩) ∧ takesOf c g o = 0 := by
  obtain ⟨k, a, b, p, v⟩ := o
  rcases kinds_cases k with rfl | rfl | rfl | rfl | rfl | rfl | rfl | rfl | rfl | ⟨h1, h2, h3, h4, h5, h6, h7, h8, h9⟩
  case inr.inr.inr.inr.inr.inr.inr.inr.inr =>
    have e : doOf c g ⟨k, a, b, p, v⟩ = (g, ⟨1, 0, [], [], []⟩) := by simp [doOf, chg, lookOf, h1, h2, h3, h4, h5, h6, h7, h8, h9]
    refine ⟨e, ?_⟩
    unfold takesOf
    rw [e]
    rfl
  all_goals exact absurd h (by show ¬ (true = false); decide)
theorem do_fails {c : CfgD} {g : GraphD} {o : OpD} (h : ¬ (doOf c g o).2.st = 0 ∨ o.k = 6 ∨ o.k = 7) : (doOf c g o).1 = g := by
  unfold doOf at h ⊢
  cases hc : chg c g o with
  | none => rfl
  | some r =>
    obtain ⟨z, st, id⟩ := r
    rw [hc] at h
    simp only at h ⊢
    rcases h with h | h | h
    · rw [if_neg h]
    · exfalso; unfold chg at hc; rw [h] at hc; simp at hc
    · exfalso; unfold chg at hc; rw [h] at hc; simp at hc
/-- What is full is never told by Do. -/
theorem do_notfull (c : CfgD) (g : GraphD) (o : OpD) : ¬ (doOf c g o).2.st = 3 := by
  unfold doOf
  cases hc : chg c g o with
  | none =>
    simp only
    unfold lookOf getOf nearOf
    repeat' split
    all_goals first | exact (by decide : ¬ ((0 : Int) = 3)) | exact (by decide : ¬ ((1 : Int) = 3)) | exact (by decide : ¬ ((2 : Int) = 3)) | exact (by decide : ¬ ((4 : Int) = 3)) | exact (by decide : ¬ ((5 : Int) = 3))
  | some r =>
    simp only
    rcases chg_cases hc with ⟨_, e⟩ | ⟨_, e⟩ | ⟨_, e⟩ | ⟨_, e⟩ | ⟨_, e⟩ | ⟨_, e⟩ | ⟨_, e⟩ <;> rw [e]
    · unfold addOf; (repeat' split) <;> first | exact (by decide : ¬ ((0 : Int) = 3)) | exact (by decide : ¬ ((1 : Int) = 3)) | exact (by decide : ¬ ((2 : Int) = 3)) | exact (by decide : ¬ ((4 : Int) = 3)) | exact (by decide : ¬ ((5 : Int) = 3))
    · unfold linkOf; (repeat' split) <;> first | exact (by decide : ¬ ((0 : Int) = 3)) | exact (by decide : ¬ ((1 : Int) = 3)) | exact (by decide : ¬ ((2 : Int) = 3)) | exact (by decide : ¬ ((4 : Int) = 3)) | exact (by decide : ¬ ((5 : Int) = 3))
    · unfold cutOf; (repeat' split) <;> first | exact (by decide : ¬ ((0 : Int) = 3)) | exact (by decide : ¬ ((1 : Int) = 3)) | exact (by decide : ¬ ((2 : Int) = 3)) | exact (by decide : ¬ ((4 : Int) = 3)) | exact (by decide : ¬ ((5 : Int) = 3))
    · unfold setOf; (repeat' split) <;> first | exact (by decide : ¬ ((0 : Int) = 3)) | exact (by decide : ¬ ((1 : Int) = 3)) | exact (by decide : ¬ ((2 : Int) = 3)) | exact (by decide : ¬ ((4 : Int) = 3)) | exact (by decide : ¬ ((5 : Int) = 3))
    · unfold delOf; (repeat' split) <;> first | exact (by decide : ¬ ((0 : Int) = 3)) | exact (by decide : ¬ ((1 : Int) = 3)) | exact (by decide : ¬ ((2 : Int) = 3)) | exact (by decide : ¬ ((4 : Int) = 3)) | exact (by decide : ¬ ((5 : Int) = 3))
    · unfold dropOf; (repeat' split) <;> first | exact (by decide : ¬ ((0 : Int) = 3)) | exact (by decide : ¬ ((1 : Int) = 3)) | exact (by decide : ¬ ((2 : Int) = 3)) | exact (by decide : ¬ ((4 : Int) = 3)) | exact (by decide : ¬ ((5 : Int) = 3))
    · unfold fuseOf; (repeat' split) <;> first | exact (by decide : ¬ ((0 : Int) = 3)) | exact (by decide : ¬ ((1 : Int) = 3)) | exact (by decide : ¬ ((2 : Int) = 3)) | exact (by decide : ¬ ((4 : Int) = 3)) | exact (by decide : ¬ ((5 : Int) = 3))
end Go.Proofs.Ytpehmmdbjakkpaa
