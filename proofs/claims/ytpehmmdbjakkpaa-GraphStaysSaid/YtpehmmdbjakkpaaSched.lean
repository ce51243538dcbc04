/- A region whose order is open, walked in one order: what only looks (and yields the same wherever S holds) is taken as soon as it may come; what writes or calls comes alone. -/
import Derived.WalkKit
import Derived.RowKit
import Derived.Deep.RegionHeld3
import Derived.Deep.Draws
namespace Go.Proofs.Ytpehmmdbjakkpaa
open Go.RowKit

def schedOk (ops : Array Oper) : List (Nat × Bool) → Array Bool → Bool
  | [], l => (Region.ready .any ops l).isEmpty
  | (i, true) :: r, l => Region.free .any ops l i && (Region.ready .any ops l).contains i && schedOk ops r (l.setIfInBounds i true)
  | (i, false) :: r, l => Region.ready .any ops l == [i] && schedOk ops r (l.setIfInBounds i true)
def schedB (ops : Array Oper) (s : List (Nat × Bool)) : Bool := Region.noSelect ops && s.length == ops.size && schedOk ops s (Array.replicate ops.size false)

/-- What stands behind a step: no way out but on. -/
def SchedPost (K : (World → Prop) → Act → World → Prop) (S : World → Prop) (e : Exit) (a' : Act) (w' : World) : Prop := e = .normal ∧ ∃ S' : World → Prop, (∀ W, S' W → S W) ∧ S' w' ∧ K S' a' w'
/-- The walk of a region in the order s. -/
def wpSched (P : Program) (ops : Array Oper) (Q : Act → World → Prop) : List (Nat × Bool) → (World → Prop) → Act → World → Prop
  | [], _, a, w => Q a w
  | (i, true) :: r, S, a, w => ∃ o v, ops[i]? = some o ∧ YieldsIf P ops S o v a ∧ S w ∧ wpSched P ops Q r S (a.put o.dst v) w
  | (i, false) :: r, S, a, w => ∃ o, ops[i]? = some o ∧ wpList P ops (SchedPost (wpSched P ops Q r) S) [o] a w

section
variable {P : Program} {ops : Array Oper} {Q : Act → World → Prop} {S S' : World → Prop} {a : Act} {w : World} {i : Nat} {r : List (Nat × Bool)} {o : Oper}
theorem sched_take {v : Value} (ho : ops[i]? = some o) (hy : YieldsIf P ops S o v a) (hS : S w) (h : wpSched P ops Q r S (a.put o.dst v) w) : wpSched P ops Q ((i, true) :: r) S a w := ⟨o, v, ho, hy, hS, h⟩
theorem sched_step (ho : ops[i]? = some o) (h : wpList P ops (SchedPost (wpSched P ops Q r) S) [o] a w) : wpSched P ops Q ((i, false) :: r) S a w := ⟨o, ho, h⟩
theorem sched_done (h : Q a w) : wpSched P ops Q [] S a w := h
/-- What follows a step: S goes on to hold. -/
theorem sched_on (hS : S w) (h : wpSched P ops Q r S a w) : SchedPost (wpSched P ops Q r) S .normal a w := ⟨rfl, S, fun _ h => h, hS, h⟩
theorem sched_more (S' : World → Prop) (hs : ∀ W, S' W → S W) (hS : S' w) (h : wpSched P ops Q r S' a w) : SchedPost (wpSched P ops Q r) S .normal a w := ⟨rfl, S', hs, hS, h⟩

theorem oper_wp_q {K : Act → World → Prop} {Q1 Q2 : Exit → Act → World → Prop} (h1 : ∀ c a w, Q1 (.panic c) a w → Q2 (.panic c) a w) (h2 : LetsOut Q1 → LetsOut Q2) (h : o.wp P a w K Q1) : o.wp P a w K Q2 := by
  unfold Oper.wp Oper.upon at h ⊢
  split at h
  · exact h
  · exact h
  · exact h
  · rename_i f args w' hr
    intro cs
    obtain ⟨e, w2, fr, hR, hc⟩ := h cs
    refine ⟨e, w2, fr, ?_, hc⟩
    cases e with
    | returned v => exact hR
    | panicked c => exact h1 _ _ _ hR
    | outgrown => exact h2 hR
  · exact h
  · exact h1 _ _ _ h
  · exact h.elim
theorem wpAnyH_mono {Q' : Exit → Act → World → Prop} (hs : ∀ W, S' W → S W) : ∀ (fuel : Nat) (l : Array Bool) (a : Act) (w : World), wpAnyH P .any ops Q' S' fuel l a w → wpAnyH P .any ops Q' S fuel l a w := by
  intro fuel
  induction fuel with
  | zero => intro l a w h; exact h
  | succ n ih =>
    intro l a w h
    refine ⟨h.1, fun i hi => ?_⟩
    have h1 := h.2 i hi
    unfold wpOp at h1 ⊢
    split
    · rename_i hn
      rw [hn] at h1
      exact ⟨hs _ h1.1, ih _ _ _ h1.2⟩
    · rename_i o ho
      rw [ho] at h1
      simp only at h1
      split
      · rename_i hw
        rw [if_pos hw] at h1
        rcases h1 with h1 | h1
        · exact .inl (Oper.wp_mono (fun a w h => ⟨hs _ h.1, ih _ _ _ h.2⟩) h1)
        · exact .inr h1
      · rename_i hw
        rw [if_neg hw] at h1
        exact ⟨hs _ h1.1, ih _ _ _ h1.2⟩
theorem wpAnyH_of_sched {Q' : Exit → Act → World → Prop} (hsel : Region.noSelect ops = true) (hp : ∀ c a w, ¬ Q' (.panic c) a w) (hQ : ∀ a w, Q a w → Q' .normal a w) :
    ∀ (s : List (Nat × Bool)) (S : World → Prop) (l : Array Bool) (a : Act) (w : World), schedOk ops s l = true → wpSched P ops Q s S a w → wpAnyH P .any ops Q' S s.length l a w := by
  intro s
  induction s with
  | nil =>
    intro S l a w hk h
    exact ⟨by simpa [schedOk] using hk, hQ _ _ h⟩
  | cons e r ih =>
    intro S l a w hk h
    obtain ⟨i, b⟩ := e
    cases b with
    | true =>
      obtain ⟨o, v, ho, hy, hS, hr⟩ := h
      simp only [schedOk, Bool.and_eq_true] at hk
      exact wpAnyH_take ho hsel hk.1.1 hk.1.2 (fun c a w h => (hp _ _ _ h).elim) hy hS (ih S _ _ _ hk.2 hr)
    | false =>
      obtain ⟨o, ho, hr⟩ := h
      simp only [schedOk, Bool.and_eq_true, beq_iff_eq] at hk
      refine wpAnyH_all hk.1 (by simp) (fun j hj => ?_)
      obtain rfl : j = i := by simpa using hj
      unfold wpOp
      rw [ho]
      simp only
      unfold wpList at hr
      split
      · rename_i hw
        rw [if_pos hw] at hr
        rcases hr with hr | ⟨_, a', w', hr, _⟩
        · refine .inl (Oper.wp_mono ?_ (oper_wp_q ?_ ?_ hr))
          · rintro a' w' ⟨_, S', hs, hS', h2⟩
            exact ⟨hs _ hS', wpAnyH_mono hs _ _ _ _ (ih S' _ _ _ hk.2 h2)⟩
          · rintro c a' w' ⟨he, _⟩
            cases he
          · rintro ⟨a', w', he, _⟩
            cases he
        · cases hr
      · rename_i hw
        rw [if_neg hw] at hr
        obtain ⟨_, S', hs, hS', h2⟩ := hr
        exact ⟨hs _ hS', wpAnyH_mono hs _ _ _ _ (ih S' _ _ _ hk.2 h2)⟩
/-- THE RULE. -/
theorem wp_region_sched {id : Nat} {Q' : Exit → Act → World → Prop} (s : List (Nat × Bool)) (S : World → Prop) (hm : P.follows .mixedOrders = true) (hB : schedB ops s = true) (h : wpSched P ops (fun a w => Q' .normal a w) s S a w.drew) : (Code.region id ops true).wp P Q' a w := by
  simp only [schedB, Bool.and_eq_true, beq_iff_eq] at hB
  refine Code.wp_mono (Q := fun e a w => e = .normal ∧ Q' e a w) (fun e a w h => h.2) ?_
  refine wp_region_held (S := S) hm ?_
  have h2 := wpAnyH_of_sched (Q' := fun e a w => e = .normal ∧ Q' e a w) hB.1.1 (fun c a w h => by cases h.1) (fun a w h => ⟨rfl, h⟩) s S _ a _ hB.2 h
  rwa [hB.1.2] at h2
end

/-- Blocks of T are as they were at w. -/
def Kept (w : World) (T : Nat → Prop) (W : World) : Prop := w.heap.size ≤ W.heap.size ∧ ∀ k, T k → k < w.heap.size → W.heap[k]? = w.heap[k]?
section
variable {w W W' : World} {T : Nat → Prop}
theorem Kept.refl (w : World) (T : Nat → Prop) : Kept w T w := ⟨Nat.le_refl _, fun _ _ _ => rfl⟩
theorem Kept.cell (h : Kept w T W) (b o : Nat) (hT : T b) (hl : b < w.heap.size) : W.cell? ⟨b, o, none⟩ = w.cell? ⟨b, o, none⟩ := World.cell?_of_block (w := w) (h.2 b hT hl)
theorem Kept.trans {W1 : World} (h : Kept w T W) (k : Kept W T W1) : Kept w T W1 := ⟨Nat.le_trans h.1 k.1, fun i hT hl => (k.2 i hT (Nat.lt_of_lt_of_le hl h.1)).trans (h.2 i hT hl)⟩
theorem Kept.below (h : Kept w T W) (hb : Below W.heap.size W W') : Kept w T W' := ⟨Nat.le_trans h.1 hb.size, fun k hT hl => (hb.block k (Nat.lt_of_lt_of_le hl h.1)).trans (h.2 k hT hl)⟩
theorem Kept.alloc (h : Kept w T W) (o : Obj) : Kept w T (W.alloc o) := ⟨Nat.le_trans h.1 (by simp), fun k hT hl => (Below.heap_alloc W o k (Nat.lt_of_lt_of_le hl h.1)).trans (h.2 k hT hl)⟩
theorem Kept.setCell (h : Kept w T W) {p : Addr} (hp : w.heap.size ≤ p.block ∨ ¬ T p.block) (u : Value) : Kept w T (W.setCell p u) := ⟨by simpa [World.setCell] using h.1, fun k hT hl => (Below.heap_setCell W p u k (fun e => by
  rcases hp with h1 | h1
  · omega
  · exact h1 (e ▸ hT))).trans (h.2 k hT hl)⟩
theorem Kept.drew (h : Kept w T W) : Kept w T W.drew := h
theorem Kept.drewN (h : Kept w T W) (n : Nat) : Kept w T (W.drewN n) := h
theorem Kept.grown {row : Option Nat} (h : Kept w T W) (hg : W.grownBy W' row) (hr : ∀ k, row = some k → w.heap.size ≤ k ∨ ¬ T k) : Kept w T W' := ⟨Nat.le_trans h.1 hg.size, fun k hT hl => (hg.block k (Nat.lt_of_lt_of_le hl h.1) (fun e => by
  rcases hr k e.symm with h1 | h1
  · omega
  · exact h1 hT)).trans (h.2 k hT hl)⟩
end
end Go.Proofs.Ytpehmmdbjakkpaa
