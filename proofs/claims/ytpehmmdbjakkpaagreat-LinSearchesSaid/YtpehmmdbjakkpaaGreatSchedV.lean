/- A drawn region in which three steps stand open at once: each of them is walked first. -/
import Derived.Test.YtpehmmdbjakkpaaGreatLibM
namespace Go.Proofs.YtpehmmdbjakkpaaGreat
open Go.RowKit
inductive Tr3 where
 | take (i : Nat) (t : Tr3)
 | three (i : Nat) (t : Tr) (j : Nat) (u : Tr) (k : Nat) (v : Tr)
def Tr3.len : Tr3 → Nat
 | .take _ t => t.len + 1
 | .three _ t _ _ _ _ => t.len + 1
def trOk3 (ops : Array Oper) : Tr3 → Array Bool → Bool
 | .take i t, l => Region.free .any ops l i && (Region.ready .any ops l).contains i && trOk3 ops t (l.setIfInBounds i true)
 | .three i t j u k v, l => Region.ready .any ops l == [i, j, k] && (t.len == u.len && t.len == v.len) && (trOk ops t (l.setIfInBounds i true) && trOk ops u (l.setIfInBounds j true) && trOk ops v (l.setIfInBounds k true))
def trB3 (ops : Array Oper) (s : Tr3) : Bool := Region.noSelect ops && s.len == ops.size && trOk3 ops s (Array.replicate ops.size false)
def wpTr3 (P : Program) (ops : Array Oper) (Q : Act → World → Prop) : Tr3 → (World → Prop) → Act → World → Prop
 | .take i t, S, a, w => ∃ o v, ops[i]? = some o ∧ YieldsIf P ops S o v a ∧ S w ∧ wpTr3 P ops Q t S (a.put o.dst v) w
 | .three i t j u k v, S, a, w => (∃ o, ops[i]? = some o ∧ wpList P ops (SchedPost (wpTr P ops Q t) S) [o] a w) ∧ (∃ o, ops[j]? = some o ∧ wpList P ops (SchedPost (wpTr P ops Q u) S) [o] a w) ∧ (∃ o, ops[k]? = some o ∧ wpList P ops (SchedPost (wpTr P ops Q v) S) [o] a w)
section
variable {P : Program} {ops : Array Oper} {Q : Act → World → Prop} {S S' : World → Prop} {a : Act} {w : World} {i j k : Nat} {r : Tr3} {t u x : Tr} {o o' o'' : Oper}
theorem tr3_take {v : Value} (ho : ops[i]? = some o) (hy : YieldsIf P ops S o v a) (hS : S w) (h : wpTr3 P ops Q r S (a.put o.dst v) w) : wpTr3 P ops Q (.take i r) S a w := ⟨o, v, ho, hy, hS, h⟩
theorem tr3_three (ho : ops[i]? = some o) (h : wpList P ops (SchedPost (wpTr P ops Q t) S) [o] a w) (ho' : ops[j]? = some o') (h' : wpList P ops (SchedPost (wpTr P ops Q u) S) [o'] a w) (ho'' : ops[k]? = some o'') (h'' : wpList P ops (SchedPost (wpTr P ops Q x) S) [o''] a w) : wpTr3 P ops Q (.three i t j u k x) S a w := ⟨⟨o, ho, h⟩, ⟨o', ho', h'⟩, ⟨o'', ho'', h''⟩⟩
theorem wpAnyH_of_tr3 {Q' : Exit → Act → World → Prop} (hsel : Region.noSelect ops = true) (hp : ∀ c a w, ¬ Q' (.panic c) a w) (hQ : ∀ a w, Q a w → Q' .normal a w) :
  ∀ (s : Tr3) (S : World → Prop) (l : Array Bool) (a : Act) (w : World), trOk3 ops s l = true → wpTr3 P ops Q s S a w → wpAnyH P .any ops Q' S s.len l a w := by
 intro s
 induction s with
 | take i t ih =>
  intro S l a w hk h
  obtain ⟨o, v, ho, hy, hS, hr⟩ := h
  simp only [trOk3, Bool.and_eq_true] at hk
  exact wpAnyH_take ho hsel hk.1.1 hk.1.2 (fun c a w h => (hp _ _ _ h).elim) hy hS (ih S _ _ _ hk.2 hr)
 | three i t j u k x =>
  intro S l a w hk h
  obtain ⟨⟨o, ho, hr⟩, ⟨o', ho', hr'⟩, ⟨o'', ho'', hr''⟩⟩ := h
  simp only [trOk3, Bool.and_eq_true, beq_iff_eq] at hk
  refine wpAnyH_all hk.1.1 (by simp) (fun m hj => ?_)
  have hj' : m = i ∨ m = j ∨ m = k := by simpa using hj
  rcases hj' with rfl | rfl | rfl
  ·
   exact wpOp_of_step ho (fun S' a' w' h2 => wpAnyH_of_tr hsel hp hQ t S' _ _ _ hk.2.1.1 h2) hr
  ·
   have e := hk.1.2.1
   refine wpOp_of_step ho' (fun S' a' w' h2 => ?_) hr'
   have := wpAnyH_of_tr hsel hp hQ u S' _ _ _ hk.2.1.2 h2
   rw [← e] at this
   exact this
  ·
   have e := hk.1.2.2
   refine wpOp_of_step ho'' (fun S' a' w' h2 => ?_) hr''
   have := wpAnyH_of_tr hsel hp hQ x S' _ _ _ hk.2.2 h2
   rw [← e] at this
   exact this
theorem wp_region_tr3 {id : Nat} {Q' : Exit → Act → World → Prop} (T : Nat → Prop) (s : Tr3) (hm : P.follows .mixedOrders = true) (hB : trB3 ops s = true) (h : Kept w T w.drew → wpTr3 P ops (fun a w => Q' .normal a w) s (Kept w T) a w.drew) : (Code.region id ops true).wp P Q' a w := by
 simp only [trB3, Bool.and_eq_true, beq_iff_eq] at hB
 refine Code.wp_mono (Q := fun e a w => e = .normal ∧ Q' e a w) (fun e a w h => h.2) ?_
 refine wp_region_held (S := Kept w T) hm ?_
 have h2 := wpAnyH_of_tr3 (Q' := fun e a w => e = .normal ∧ Q' e a w) hB.1.1 (fun c a w h => by cases h.1) (fun a w h => ⟨rfl, h⟩) s (Kept w T) _ a _ hB.2 (h (Kept.refl w T).drew)
 rwa [hB.1.2] at h2
end

end Go.Proofs.YtpehmmdbjakkpaaGreat
