/- The chapter's example stands. -/
import Derived.Test.YtaaekhmklkidmaaOps
import Derived.Test.YtaaekhmklkidmaaSameA
namespace Go.Proofs.Ytaaekhmklkidmaa
open Go.RowKit
set_option linter.unusedSimpArgs false
set_option linter.unusedVariables false
theorem row_lit {α : Type} (t : Ty α) (w : World) (S : Nat → Prop) (cs : Array Value) (e : TypeId) (xs : List α) (hl : xs.length ≤ maxLen) (hS : S w.heap.size) (hcs : ∀ j x, xs[j]? = some x → ∃ c, t.K (w.alloc (.cells cs e)) S x c ∧ ∀ i u, c[i]? = some u → cs[j * t.sz + i]? = some u) :
    Row t (w.alloc (.cells cs e)) S (.slice (some ⟨w.heap.size, 0, none⟩) xs.length xs.length) xs := by
  refine ⟨_, _, rfl, Nat.le_refl _, hl, by simp, .inr ⟨_, _, rfl, hS, by simp, fun j x hj => ?_⟩⟩
  obtain ⟨c, hk, hc⟩ := hcs j x hj
  refine ⟨c, hk, fun i u hu => ?_⟩
  rw [cell_of_row _ _ _ _ _ _ (heap_alloc_new w (.cells cs e)), Nat.zero_add]
  exact hc i u hu
set_option maxHeartbeats 1000000 in
theorem live_calls (w : World) : Calls Try.prog 9 #[] w fun e w' => e = .returned (.bool true) ∧ Below w.heap.size w w' := by
  have hr1 := Lib.hid (row_lit tInt w (fun _ => True) #[.int .i64 2, .int .i64 1, .int .i64 3, .int .i64 9, .int .i64 9, .int .i64 7] 3 [2, 1, 3, 9, 9, 7] (by unfold maxLen; decide) trivial (by
    intro j x hj
    refine ⟨[.int .i64 x], rfl, fun i u hu => ?_⟩
    match j, hj with
    | 0, hj | 1, hj | 2, hj | 3, hj | 4, hj | 5, hj => 
      cases i with
      | zero => simp at hj hu; subst hj hu; rfl
      | succ i => simp at hu))
  go_enter Try.func9, Try.ntmps9
  go_wp2_with fail
  refine (ops_calls _ _ _ _ hr1.out (by decide)).mono ?_
  rintro e w1 ⟨v, rfl, ho, hb⟩
  obtain ⟨A, c, rfl⟩ := ho.slice
  have HO := Lib.hid ho
  have HB := Lib.hid hb
  clear ho hb
  go_wp2_with fail
  have hr2 := row_lit tOp w1 (fun _ => True) #[.int .i64 2, .int .i64 1, .int .i64 3, .int .i64 0, .int .i64 0] 23 [⟨2, 1, 3, 0, 0⟩] (by unfold maxLen; decide) trivial (by
    intro j x hj
    match j, hj with
    | 0, hj =>
      simp at hj
      subst hj
      exact ⟨_, rfl, fun i u hu => by simpa [OpD.cells] using hu⟩)
  have hr3 := (HO.out.move (Same.of_alloc _ _ (.cells #[.int .i64 2, .int .i64 1, .int .i64 3, .int .i64 0, .int .i64 0] 23))).row
  refine (sameOps_calls _ (fun _ => True) _ _ _ _ (hr3.mono fun _ _ _ => trivial) hr2).mono ?_
  rintro e w2 ⟨rfl, hb2⟩
  have HB2 := Lib.hid hb2
  clear hb2 hr2 hr3
  have hd : decide (opsOf [2, 1, 3, 9, 9, 7] = [⟨2, 1, 3, 0, 0⟩]) = true := by decide
  rw [hd]
  clear hd
  go_wp2
  go_ret
  refine ⟨rfl, ?_⟩
  have h1 := ((Below.refl w.heap.size w).alloc (Nat.le_refl _) (.cells #[.int .i64 2, .int .i64 1, .int .i64 3, .int .i64 9, .int .i64 9, .int .i64 7] 3)).trans (HB.out.mono (by simp))
  exact (h1.alloc h1.size _).trans (HB2.out.mono (by have := h1.size; simp; omega))
end Go.Proofs.Ytaaekhmklkidmaa
