/- The closures that compare with one captured number. -/
import Derived.Test.YtpehmmdbjakkpaaOwnGr
import Derived.Shelf.Abstract
namespace Go.Proofs.Ytpehmmdbjakkpaa
open Go.RowKit Go.Shelf
set_option linter.unusedSimpArgs false
set_option linter.unusedVariables false
set_option maxRecDepth 20000 in
theorem atC_calls (w : World) (x : NV) (n : Int) (cb : Nat) (hcb : cb < w.heap.size) (hc : w.cell? ⟨cb, 0, none⟩ = some (.int .i64 n)) : Calls Try.prog 119 #[.agg #[.int .i64 x.id, .slice x.A x.n x.c], .pointer (some ⟨cb, 0, none⟩)] w fun e w' => e = .returned (.bool (x.id == n)) ∧ Below w.heap.size w w' := by
  have g1 : cb < w.heap.size + 1 := by omega
  go_enter Try.func119, Try.ntmps119
  go_wp2
  go_ret
  exact ⟨rfl, (Below.refl _ _).alloc (Nat.le_refl _) _⟩
set_option maxRecDepth 20000 in
theorem fuseC_calls (w : World) (x : NV) (n : Int) (cb : Nat) (hcb : cb < w.heap.size) (hc : w.cell? ⟨cb, 0, none⟩ = some (.int .i64 n)) : Calls Try.prog 80 #[.agg #[.int .i64 x.id, .slice x.A x.n x.c], .pointer (some ⟨cb, 0, none⟩)] w fun e w' => e = .returned (.bool (x.id == n)) ∧ Below w.heap.size w w' := by
  have g1 : cb < w.heap.size + 1 := by omega
  go_enter Try.func80, Try.ntmps80
  go_wp2
  go_ret
  exact ⟨rfl, (Below.refl _ _).alloc (Nat.le_refl _) _⟩
set_option maxRecDepth 20000 in
theorem dropNC_calls (w : World) (x : NV) (n : Int) (cb : Nat) (hcb : cb < w.heap.size) (hc : w.cell? ⟨cb, 0, none⟩ = some (.int .i64 n)) : Calls Try.prog 85 #[.agg #[.int .i64 x.id, .slice x.A x.n x.c], .pointer (some ⟨cb, 0, none⟩)] w fun e w' => e = .returned (.bool (x.id == n)) ∧ Below w.heap.size w w' := by
  have g1 : cb < w.heap.size + 1 := by omega
  go_enter Try.func85, Try.ntmps85
  go_wp2
  go_ret
  exact ⟨rfl, (Below.refl _ _).alloc (Nat.le_refl _) _⟩
set_option maxRecDepth 20000 in
theorem cutC_calls (w : World) (x : EdgeD) (n : Int) (cb : Nat) (hcb : cb < w.heap.size) (hc : w.cell? ⟨cb, 0, none⟩ = some (.int .i64 n)) : Calls Try.prog 84 #[.agg #[.int .i64 x.id, .int .i64 x.frm, .int .i64 x.to], .pointer (some ⟨cb, 0, none⟩)] w fun e w' => e = .returned (.bool (x.id == n)) ∧ Below w.heap.size w w' := by
  have g1 : cb < w.heap.size + 1 := by omega
  go_enter Try.func84, Try.ntmps84
  go_wp2
  go_ret
  exact ⟨rfl, (Below.refl _ _).alloc (Nat.le_refl _) _⟩
set_option maxRecDepth 20000 in
theorem dropEC_calls (w : World) (x : EdgeD) (n : Int) (cb : Nat) (hcb : cb < w.heap.size) (hc : w.cell? ⟨cb, 0, none⟩ = some (.int .i64 n)) : Calls Try.prog 86 #[.agg #[.int .i64 x.id, .int .i64 x.frm, .int .i64 x.to], .pointer (some ⟨cb, 0, none⟩)] w fun e w' => e = .returned (.bool (x.frm == n || x.to == n)) ∧ Below w.heap.size w w' := by
  have g1 : cb < w.heap.size + 1 := by omega
  by_cases h1 : x.frm = n
  · have e1 : (x.frm == n || x.to == n) = true := by simp [h1]
    have HE := Lib.hid e1
    clear e1
    replace h1 : (x.frm == n) = true := beq_iff_eq.mpr h1
    go_enter Try.func86, Try.ntmps86
    go_wp2
    go_ret
    exact ⟨by rw [HE.out]; rfl, (Below.refl _ _).alloc (Nat.le_refl _) _⟩
  · have e1 : (x.frm == n || x.to == n) = (x.to == n) := by simp [h1]
    have HE := Lib.hid e1
    clear e1
    replace h1 : (x.frm == n) = false := beq_eq_false_iff_ne.mpr h1
    go_enter Try.func86, Try.ntmps86
    go_wp2
    go_ret
    exact ⟨by rw [HE.out]; rfl, (Below.refl _ _).alloc (Nat.le_refl _) _⟩
theorem atC_enters : Enters Try.prog 119 := enters_of Try.func119 (by kernel_rfl) rfl
theorem fuseC_enters : Enters Try.prog 80 := enters_of Try.func80 (by kernel_rfl) rfl
theorem dropNC_enters : Enters Try.prog 85 := enters_of Try.func85 (by kernel_rfl) rfl
theorem cutC_enters : Enters Try.prog 84 := enters_of Try.func84 (by kernel_rfl) rfl
theorem dropEC_enters : Enters Try.prog 86 := enters_of Try.func86 (by kernel_rfl) rfl
end Go.Proofs.Ytpehmmdbjakkpaa
