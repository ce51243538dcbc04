/- The chapter's example stands. -/
import Derived.Test.YtgpmkcipogljbaaCalls
import Derived.Test.YtgpmkcipogljbaaFew
import Derived.Test.YtgpmkcipogljbaaLib6
namespace Go.Proofs.Ytgpmkcipogljbaa
open Go.RowKit
set_option linter.unusedSimpArgs false
set_option linter.unusedVariables false
def exE (t : Int) (d : Bool) : EvD := ⟨t, d, ⟨0, 0, 0, 0, 0⟩, ResD.zero⟩
def exC (t f o : Int) : CallD := ⟨t, ⟨0, 0, 0, 0, 0⟩, f, o, ResD.zero⟩
set_option maxRecDepth 100000 in
set_option maxHeartbeats 4000000 in
theorem live_calls (w : World) : Calls Try.prog 9 #[] w fun e w' => e = .returned (.bool true) ∧ Below w.heap.size w w' := by
  have hr1 := Lib.hid (row_ofBox tEv w (fun _ => True) #[.int .i64 1, .bool false, .int .i64 0, .int .i64 0, .int .i64 0, .int .i64 0, .int .i64 0, .int .i64 0, .int .i64 0, .slice none 0 0, .slice none 0 0, .slice none 0 0, .int .i64 2, .bool false, .int .i64 0, .int .i64 0, .int .i64 0, .int .i64 0, .int .i64 0, .int .i64 0, .int .i64 0, .slice none 0 0, .slice none 0 0, .slice none 0 0, .int .i64 1, .bool true, .int .i64 0, .int .i64 0, .int .i64 0, .int .i64 0, .int .i64 0, .int .i64 0, .int .i64 0, .slice none 0 0, .slice none 0 0, .slice none 0 0] 43 [exE 1 false, exE 2 false, exE 1 true] (by unfold maxLen; simp) trivial (by
    intro j x hj
    match j, hj with
    | 0, hj | 1, hj | 2, hj =>
      simp at hj
      subst hj
      refine ⟨_, ⟨_, _, _, Sl.nil _ _, rfl⟩, fun i u hu => ?_⟩
      have hi : i < 12 := by
        rcases Nat.lt_or_ge i 12 with h | h
        · exact h
        · rw [List.getElem?_eq_none (by simpa using h)] at hu; cases hu
      rcases (by omega : i = 0 ∨ i = 1 ∨ i = 2 ∨ i = 3 ∨ i = 4 ∨ i = 5 ∨ i = 6 ∨ i = 7 ∨ i = 8 ∨ i = 9 ∨ i = 10 ∨ i = 11) with rfl | rfl | rfl | rfl | rfl | rfl | rfl | rfl | rfl | rfl | rfl | rfl <;> exact hu))
  have hE : errOf (runL [exE 1 false, exE 2 false, exE 1 true]) = 0 := by rfl
  have hO : outOf (runL [exE 1 false, exE 2 false, exE 1 true]) = [exC 1 0 2, exC 2 1 (-1)] := by rfl
  have HE := Lib.hid hE
  have HO := Lib.hid hO
  clear hE hO
  have hfew : ∀ x ∈ [exE 1 false, exE 2 false, exE 1 true], x.res.few ∧ okI x.th := by
    intro x hx
    simp at hx
    rcases hx with rfl | rfl | rfl <;> simp [exE, ResD.few, ResD.zero, okI]
  have HF := Lib.hid hfew
  clear hfew
  go_enter Try.func9, Try.ntmps9
  go_wp2_with fail
  refine (calls_calls _ _ _ _ hr1.out (by decide) (fun x hx => (HF.out x hx).1) (fun x hx => (HF.out x hx).2)).mono ?_
  rintro e w1 ⟨v, rfl, ho, hb⟩
  rw [HO.out] at ho
  rw [HE.out]
  obtain ⟨A, c, rfl⟩ := ho.slice
  obtain ⟨b, off, _, _, _, _, _, _, rfl, hbl, _, _, _, _, _, _, _, f0, t0, _⟩ := ho.atCallF (j := 0) (x := exC 1 0 2) rfl
  obtain ⟨b', off', _, _, _, _, _, _, hA, _, _, _, _, _, _, _, _, f1, t1, _⟩ := ho.atCallF (j := 1) (x := exC 2 1 (-1)) rfl
  injection hA with hA
  injection hA with h1 h2
  subst h1 h2
  have e2 : [exC 1 0 2, exC 2 1 (-1)].length = 2 := rfl
  rw [e2]
  simp only [exC, Nat.zero_mul, Nat.add_zero, Nat.one_mul] at f0 t0 f1 t1
  have HB := Lib.hid hb
  clear hb ho e2
  go_wp2
  go_ret
  refine ⟨rfl, ?_⟩
  exact ((Below.refl w.heap.size w).alloc (Nat.le_refl _) _).trans (HB.out.mono (by simp))
end Go.Proofs.Ytgpmkcipogljbaa
