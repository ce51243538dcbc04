/- A drawn region in which two steps stand open at once: both orders are walked. -/
import Derived.Test.YtpehmmdbjakkpaaSched
namespace Go.Proofs.Ytpehmmdbjakkpaa
open Go.RowKit
inductive Tr where
  | nil
  | take (i : Nat) (t : Tr)
  | step (i : Nat) (t : Tr)
  | two (i : Nat) (t : Tr) (j : Nat) (u : Tr)
def Tr.len : Tr → Nat
  | .nil => 0
  | .take _ t => t.len + 1
  | .step _ t => t.len + 1
  | .two _ t _ _ => t.len + 1
def trOk (ops : Array Oper) : Tr → Array Bool → Bool
  | .nil, l => (Region.ready .any ops l).isEmpty
  | .take i t, l => Region.free .any ops l i && (Region.ready .any ops l).contains i && trOk ops t (l.setIfInBounds i true)
  | .step i t, l => Region.ready .any ops l == [i] && trOk ops t (l.setIfInBounds i true)
  | .two i t j u, l => Region.ready .any ops l == [i, j] && t.len == u.len && trOk ops t (l.setIfInBounds i true) && trOk ops u (l.setIfInBounds j true)
def trB (ops : Array Oper) (s : Tr) : Bool := Region.noSelect ops && s.len == ops.size && trOk ops s (Array.replicate ops.size false)
def wpTr (P : Program) (ops : Array Oper) (Q : Act → World → Prop) : Tr → (World → Prop) → Act → World → Prop
  | .nil, _, a, w => Q a w
  | .take i t, S, a, w => ∃ o v, ops[i]? = some o ∧ YieldsIf P ops S o v a ∧ S w ∧ wpTr P ops Q t S (a.put o.dst v) w
  | .step i t, S, a, w => ∃ o, ops[i]? = some o ∧ wpList P ops (SchedPost (wpTr P ops Q t) S) [o] a w
  | .two i t j u, S, a, w => (∃ o, ops[i]? = some o ∧ wpList P ops (SchedPost (wpTr P ops Q t) S) [o] a w) ∧ (∃ o, ops[j]? = some o ∧ wpList P ops (SchedPost (wpTr P ops Q u) S) [o] a w)
section
variable {P : Program} {ops : Array Oper} {Q : Act → World → Prop} {S S' : World → Prop} {a : Act} {w : World} {i j : Nat} {r u : Tr} {o o' : Oper}
theorem tr_take {v : Value} (ho : ops[i]? = some o) (hy : YieldsIf P ops S o v a) (hS : S w) (h : wpTr P ops Q r S (a.put o.dst v) w) : wpTr P ops Q (.take i r) S a w := ⟨o, v, ho, hy, hS, h⟩
theorem tr_step (ho : ops[i]? = some o) (h : wpList P ops (SchedPost (wpTr P ops Q r) S) [o] a w) : wpTr P ops Q (.step i r) S a w := ⟨o, ho, h⟩
theorem tr_two (ho : ops[i]? = some o) (h : wpList P ops (SchedPost (wpTr P ops Q r) S) [o] a w) (ho' : ops[j]? = some o') (h' : wpList P ops (SchedPost (wpTr P ops Q u) S) [o'] a w) : wpTr P ops Q (.two i r j u) S a w := ⟨⟨o, ho, h⟩, ⟨o', ho', h'⟩⟩
theorem tr_done (h : Q a w) : wpTr P ops Q .nil S a w := h
theorem tr_on (hS : S w) (h : wpTr P ops Q r S a w) : SchedPost (wpTr P ops Q r) S .normal a w := ⟨rfl, S, fun _ h => h, hS, h⟩
theorem tr_more (S' : World → Prop) (hs : ∀ W, S' W → S W) (hS : S' w) (h : wpTr P ops Q r S' a w) : SchedPost (wpTr P ops Q r) S .normal a w := ⟨rfl, S', hs, hS, h⟩
theorem wpOp_of_step {Q' : Exit → Act → World → Prop} {fuel : Nat} {l : Array Bool} (ho : ops[i]? = some o)
    (ih : ∀ (S' : World → Prop) (a' : Act) (w' : World), wpTr P ops Q r S' a' w' → wpAnyH P .any ops Q' S' fuel l a' w')
    (hr : wpList P ops (SchedPost (wpTr P ops Q r) S) [o] a w) : wpOp P ops Q' i (fun a' w' => S w' ∧ wpAnyH P .any ops Q' S fuel l a' w') a w := by
  unfold wpOp
  rw [ho]
  simp only
  unfold wpList at hr
  split
  · rename_i hw
    rw [if_pos hw] at hr
    rcases hr with hr | ⟨_, a', w', hr, _⟩
    · refine .inl (Oper.wp_mono ?_ (oper_wp_q ?_ ?_ hr))
      · rintro a' w' ⟨_, S', hs, hS', h2⟩
        exact ⟨hs _ hS', wpAnyH_mono hs _ _ _ _ (ih S' _ _ h2)⟩
      · rintro c a' w' ⟨he, _⟩
        cases he
      · rintro ⟨a', w', he, _⟩
        cases he
    · cases hr
  · rename_i hw
    rw [if_neg hw] at hr
    obtain ⟨_, S', hs, hS', h2⟩ := hr
    exact ⟨hs _ hS', wpAnyH_mono hs _ _ _ _ (ih S' _ _ h2)⟩
theorem wpAnyH_of_tr {Q' : Exit → Act → World → Prop} (hsel : Region.noSelect ops = true) (hp : ∀ c a w, ¬ Q' (.panic c) a w) (hQ : ∀ a w, Q a w → Q' .normal a w) :
    ∀ (s : Tr) (S : World → Prop) (l : Array Bool) (a : Act) (w : World), trOk ops s l = true → wpTr P ops Q s S a w → wpAnyH P .any ops Q' S s.len l a w := by
  intro s
  induction s with
  | nil =>
    intro S l a w hk h
    exact ⟨by simpa [trOk] using hk, hQ _ _ h⟩
  | take i t ih =>
    intro S l a w hk h
    obtain ⟨o, v, ho, hy, hS, hr⟩ := h
    simp only [trOk, Bool.and_eq_true] at hk
    exact wpAnyH_take ho hsel hk.1.1 hk.1.2 (fun c a w h => (hp _ _ _ h).elim) hy hS (ih S _ _ _ hk.2 hr)
  | step i t ih =>
    intro S l a w hk h
    obtain ⟨o, ho, hr⟩ := h
    simp only [trOk, Bool.and_eq_true, beq_iff_eq] at hk
    refine wpAnyH_all hk.1 (by simp) (fun j hj => ?_)
    obtain rfl : j = i := by simpa using hj
    exact wpOp_of_step ho (fun S' a' w' h2 => ih S' _ _ _ hk.2 h2) hr
  | two i t j u ih ih' =>
    intro S l a w hk h
    obtain ⟨⟨o, ho, hr⟩, ⟨o', ho', hr'⟩⟩ := h
    simp only [trOk, Bool.and_eq_true, beq_iff_eq] at hk
    refine wpAnyH_all hk.1.1.1 (by simp) (fun k hj => ?_)
    have hj' : k = i ∨ k = j := by simpa using hj
    rcases hj' with rfl | rfl
    · exact wpOp_of_step ho (fun S' a' w' h2 => ih S' _ _ _ hk.1.2 h2) hr
    · have e := hk.1.1.2
      refine wpOp_of_step ho' (fun S' a' w' h2 => ?_) hr'
      have := ih' S' _ _ _ hk.2 h2
      rw [← e] at this
      exact this
theorem wp_region_tr {id : Nat} {Q' : Exit → Act → World → Prop} (T : Nat → Prop) (s : Tr) (hm : P.follows .mixedOrders = true) (hB : trB ops s = true) (h : Kept w T w.drew → wpTr P ops (fun a w => Q' .normal a w) s (Kept w T) a w.drew) : (Code.region id ops true).wp P Q' a w := by
  simp only [trB, Bool.and_eq_true, beq_iff_eq] at hB
  refine Code.wp_mono (Q := fun e a w => e = .normal ∧ Q' e a w) (fun e a w h => h.2) ?_
  refine wp_region_held (S := Kept w T) hm ?_
  have h2 := wpAnyH_of_tr (Q' := fun e a w => e = .normal ∧ Q' e a w) hB.1.1 (fun c a w h => by cases h.1) (fun a w h => ⟨rfl, h⟩) s (Kept w T) _ a _ hB.2 (h (Kept.refl w T).drew)
  rwa [hB.1.2] at h2
end
end Go.Proofs.Ytpehmmdbjakkpaa
