/- A map[int]int of places, as a function. -/
import Derived.Test.YtgpmkcipogljbaaDTy
import Derived.Maps.OwnSet
import Derived.Maps.Views
import Derived.Maps.OwnOps
namespace Go.Proofs.Ytgpmkcipogljbaa
open Go.RowKit Go.Maps
set_option linter.unusedSimpArgs false
set_option linter.unusedVariables false
def okI (x : Int) : Prop := -9223372036854775808 ≤ x ∧ x ≤ 9223372036854775807
theorem wf_of_okI {x : Int} (h : okI x) : (Lit.int .i64 x).wf = true := WalkArith.wf_i64 (by unfold okI at h; omega)
theorem keyLaw : Keyed Try.prog 3 := int_keyed Try.underlying3
theorem zeroI (w : World) : (zeroValue 3).run Try.prog w = .ok (.int .i64 0) w := by kernel_rfl
def upd (f : Int → Option Nat) (q : Int) (v : Option Nat) : Int → Option Nat := fun x => if x = q then v else f x
def MapI (w : World) (b N : Nat) (f : Int → Option Nat) : Prop := ∃ n D, w.ownsMap (H := Unit) Try.prog 3 (plainElem Try.prog 3) b n D ∧ n ≤ N ∧ ∀ x, okI x → Maps.has D (.int .i64 x) = (f x).isSome ∧ ∀ a, f x = some a → D.atKey (.int .i64 x) (.lit (.int .i64 0)) = .lit (.int .i64 (a : Int))
theorem MapI.kept {w w' : World} {b N : Nat} {f : Int → Option Nat} (h : MapI w b N f) (hs : w'.heap[b]? = w.heap[b]?) : MapI w' b N f := by
  obtain ⟨n, D, ⟨es, clock, hb, r⟩, hn, hf⟩ := h
  exact ⟨n, D, ⟨es, clock, hs.trans hb, r⟩, hn, hf⟩
theorem MapI.lt {w : World} {b N : Nat} {f : Int → Option Nat} (h : MapI w b N f) : b < w.heap.size := by
  obtain ⟨n, D, h1, _⟩ := h
  exact h1.lt
theorem MapI.made (w : World) : MapI (w.alloc (.map #[] 0)) w.heap.size 0 (fun _ => none) :=
  ⟨0, .map [], World.ownsMap_made _ _ _ _, Nat.le_refl _, fun x _ => ⟨rfl, fun a h => by cases h⟩⟩
theorem MapI.mono {w : World} {b N N' : Nat} {f : Int → Option Nat} (h : MapI w b N f) (hN : N ≤ N') : MapI w b N' f := by
  obtain ⟨n, D, h1, h2, h3⟩ := h
  exact ⟨n, D, h1, by omega, h3⟩
theorem isKey (x : Int) (h : okI x) : WideAt.IsKeyLit (.int .i64 x) := by
  first
    | trivial
    | exact wf_of_okI h
    | simp [WideAt.IsKeyLit]
theorem int_ne {x q : Int} (h : x ≠ q) : (Lit.int .i64 x) ≠ (Lit.int .i64 q) := fun e => h (by injection e)
section
variable {ops : Array Oper} {rest : List Oper} {o : Oper} {a : Act} {Q : Exit → Act → World → Prop} {w : World} {b N : Nat} {f : Int → Option Nat} {q : Int}
theorem wpList_lookupI (hg : o.guard = none) (m x : Operand) (hop : o.op = Op.lookup 47 m x true) (h : MapI w b N f) (okq : okI q) (hm : a.eval m = .map (some b)) (hx : a.eval x = .int .i64 q)
    (hK : ∀ c : Int, (∀ p, f q = some p → c = (p : Int)) → wpList Try.prog ops Q rest (a.put o.dst (.tuple #[.int .i64 c, .bool (f q).isSome])) w) : wpList Try.prog ops Q (o :: rest) a w := by
  obtain ⟨n, D, h1, h2, h3⟩ := h
  refine wpList_lookup_own_ok_int w hg m x 47 hop 3 3 .i64 keyLaw Try.underlying47 Try.underlying3 (zeroI _) b n D hm h1 (.int .i64 q) (.int .i64 q) hx (keyOf_int_mk Try.underlying3 (wf_of_okI okq)) (fun c hc _ => ?_)
  rw [(h3 q okq).1]
  refine hK c (fun p hp => ?_)
  have := (h3 q okq).2 p hp
  rw [this] at hc
  injection hc with hc
  injection hc with _ hc
  exact hc.symm
theorem wpList_updateI (hg : o.guard = none) (m x v : Operand) (hop : o.op = Op.mapUpdate 47 m x v) (h : MapI w b N f) (okq : okI q) {p : Nat} (okp : p ≤ 9223372036854775807) (hN : N < maxLen) (hm : a.eval m = .map (some b)) (hx : a.eval x = .int .i64 q) (hv : a.eval v = .int .i64 (p : Int))
    (hK : ∀ w', MapI w' b (N + 1) (upd f q (some p)) → w.grownBy w' (some b) → wpList Try.prog ops Q rest (a.put o.dst undef) w') : wpList Try.prog ops Q (o :: rest) a w := by
  obtain ⟨n, D, h1, h2, h3⟩ := h
  refine wpList_mapUpdate_own w hg m x v 47 hop 3 3 keyLaw Try.underlying47 _ b n D hm h1 (by omega) (.int .i64 q) (.int .i64 (p : Int)) (.int .i64 q) hx hv (keyOf_int_mk Try.underlying3 (wf_of_okI okq)) (.lit (.int .i64 (p : Int))) [] (plainElem_int Try.underlying3 (WalkArith.wf_i64 (by omega))) (fun w' r1 r2 => hK w' ⟨n + 1, _, r1, by omega, fun x okx => ?_⟩ r2)
  by_cases hxq : x = q
  · subst hxq
    refine ⟨by rw [has_put_same h1.isMap (isKey x okx)]; simp [upd], fun a ha => ?_⟩
    rw [atKey_put_same h1.isMap (isKey x okx)]
    simp [upd] at ha
    rw [ha]
  · rw [has_put_other (int_ne hxq), atKey_put_other (int_ne hxq)]
    simp only [upd, if_neg hxq]
    exact h3 x okx
theorem wpList_deleteI (hg : o.guard = none) (m x : Operand) (hop : o.op = Op.call { callee := Callee.builtin Builtin.delete, args := #[m, x], argTypes := #[47, 3] }) (h : MapI w b N f) (okq : okI q) (hm : a.eval m = .map (some b)) (hx : a.eval x = .int .i64 q)
    (hK : ∀ w', MapI w' b N (upd f q none) → w.grownBy w' (some b) → wpList Try.prog ops Q rest (a.put o.dst (.tuple #[])) w') : wpList Try.prog ops Q (o :: rest) a w := by
  obtain ⟨n, D, h1, h2, h3⟩ := h
  refine wpList_delete_own w hg m x 47 3 hop 3 keyLaw Try.underlying47 _ b n D hm h1 (.int .i64 q) (.int .i64 q) hx (keyOf_int_mk Try.underlying3 (wf_of_okI okq)) (fun w' r1 r2 => hK w' ⟨n, _, r1, h2, fun x okx => ?_⟩ r2.grown)
  by_cases hxq : x = q
  · subst hxq
    exact ⟨by rw [has_del_same]; simp [upd], fun a ha => by simp [upd] at ha⟩
  · rw [has_del_other (int_ne hxq), atKey_del_other (int_ne hxq)]
    simp only [upd, if_neg hxq]
    exact h3 x okx
end
end Go.Proofs.Ytgpmkcipogljbaa
