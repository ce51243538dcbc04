/- A region whose order is open, walked in one order, where the class of worlds changes at the first store g: all that looks at the world comes ahead of it. -/
import Derived.Test.YtpehmmdbjakkpaaSched
namespace Go.Proofs.Ytpehmmdbjakkpaa
open Go.RowKit
section
variable {P : Program} {ops : Array Oper} {Q : Exit → Act → World → Prop} {S0 S1 : World → Prop} {md : Region.Mode}
def wpAnyG (P : Program) (md : Region.Mode) (ops : Array Oper) (Q : Exit → Act → World → Prop) (g : Nat) (S0 S1 : World → Prop) : Nat → Array Bool → Act → World → Prop
  | 0, listed, a, w => Region.ready md ops listed = [] ∧ Q .normal a w
  | fuel + 1, listed, a, w =>
    (Region.ready md ops listed = [] → Q .normal a w) ∧
    ∀ i ∈ Region.ready md ops listed, wpOp P ops Q i (fun a' w' => (if (listed.setIfInBounds i true).getD g true = true then S1 w' else S0 w') ∧ wpAnyG P md ops Q g S0 S1 fuel (listed.setIfInBounds i true) a' w') a w
theorem wpAny_of_G {g : Nat} : ∀ (fuel : Nat) (listed : Array Bool) (a : Act) (w : World), wpAnyG P md ops Q g S0 S1 fuel listed a w → wpAny P md ops Q fuel listed a w
  | 0, _, _, _, h => h
  | fuel + 1, _, _, _, h => ⟨h.1, fun i hi => wpOp_mono (fun a' w' h' => wpAny_of_G fuel _ a' w' h'.2) (h.2 i hi)⟩
theorem getD_set_true {l : Array Bool} {g i : Nat} (h : l.getD g true = true) : (l.setIfInBounds i true).getD g true = true := by
  by_cases hgi : i = g
  · subst hgi
    rw [Array.getD_eq_getD_getElem?, Array.getElem?_setIfInBounds]
    split
    · split <;> simp
    · simp_all
  · rw [getD_set_ne true hgi]; exact h
theorem G_of_H {g : Nat} : ∀ (fuel : Nat) (listed : Array Bool) (a : Act) (w : World), listed.getD g true = true → wpAnyH P md ops Q S1 fuel listed a w → wpAnyG P md ops Q g S0 S1 fuel listed a w
  | 0, _, _, _, _, h => h
  | fuel + 1, _, _, _, hl, h => ⟨h.1, fun i hi => wpOp_mono (fun a' w' h' => ⟨by rw [if_pos (getD_set_true hl)]; exact h'.1, G_of_H fuel _ a' w' (getD_set_true hl) h'.2⟩) (h.2 i hi)⟩
theorem wpAnyG_first {i g : Nat} {oi og : Oper} {v : Value} (hi : ops[i]? = some oi) (hog : ops[g]? = some og) (hw : ∃ e ∈ og.after, Region.binds md e = true ∧ e.on = i)
    (hsel : ∀ (j : Nat) (o : Oper) cs b, ops[j]? = some o → o.op ≠ .select cs b)
    (hQ : ∀ c a w, Q (.panic c) (a.put oi.dst v) w → Q (.panic c) a w) :
    ∀ (fuel : Nat) (listed : Array Bool) (a : Act) (w : World),
      (∀ j oj, ops[j]? = some oj → j ≠ i → listed.getD j true = false → (∀ e ∈ oj.after, Region.binds md e = true → e.on ≠ i) → oi.apart ops oj = true) →
      i ∈ Region.ready md ops listed → listed.getD g true = false → g ≠ i → YieldsIf P ops S0 oi v a → S0 w →
      wpAnyG P md ops Q g S0 S1 fuel (listed.setIfInBounds i true) (a.put oi.dst v) w → wpAnyG P md ops Q g S0 S1 (fuel + 1) listed a w := by
  intro fuel
  induction fuel with
  | zero =>
    intro listed a w _ hr hl hgi hy hS H
    refine ⟨fun h => (by rw [h] at hr; cases hr), fun j hj => ?_⟩
    by_cases hji : j = i
    · subst hji; exact hy.wpOp hi hS ⟨by rw [if_neg (by rw [getD_set_ne true (Ne.symm hgi)]; simp [hl])]; exact hS, H⟩
    · have := ready_mono hj hji
      rw [H.1] at this
      cases this
  | succ fuel ih =>
    intro listed a w hfree hr hl hgi hy hS H
    refine ⟨fun h => (by rw [h] at hr; cases hr), fun j hj => ?_⟩
    by_cases hji : j = i
    · subst hji; exact hy.wpOp hi hS ⟨by rw [if_neg (by rw [getD_set_ne true (Ne.symm hgi)]; simp [hl])]; exact hS, H⟩
    · have h1 := H.2 j (ready_mono hj hji)
      obtain ⟨hjun, oj, hoj, hall⟩ := mem_ready.1 hj
      have hnot : ∀ e ∈ oj.after, Region.binds md e = true → e.on ≠ i := fun e he hb heq => by
        have h1 := hall e he hb
        have h0 := (mem_ready.1 hr).1
        rw [heq] at h1
        rcases Nat.lt_or_ge i listed.size with h' | h'
        · simp [h'] at h0 h1; rw [h0] at h1; cases h1
        · simp [Array.getElem?_eq_none h'] at h1
      have hjg : j ≠ g := by
        rintro rfl
        rw [hog] at hoj
        injection hoj with hoj
        subst hoj
        obtain ⟨e, he, hb, heq⟩ := hw
        exact hnot e he hb heq
      have h2 := wpOp_putIf hoj (hfree j oj hoj hji hjun hnot) (fun cs b => hsel i oi cs b hi) (fun cs b => hsel j oj cs b hoj) hQ hy h1
      have hfree' : ∀ k ok, ops[k]? = some ok → k ≠ i → (listed.setIfInBounds j true).getD k true = false →
          (∀ e ∈ ok.after, Region.binds md e = true → e.on ≠ i) → oi.apart ops ok = true := fun k ok hk hki hun hno => by
        refine hfree k ok hk hki ?_ hno
        by_cases hjk : j = k
        · subst hjk; exact hjun
        · rw [getD_set_ne true hjk] at hun; exact hun
      have hlj : (listed.setIfInBounds j true).getD g true = false := by rw [getD_set_ne true hjg]; exact hl
      have hlij : ((listed.setIfInBounds i true).setIfInBounds j true).getD g true = false := by rw [getD_set_ne true hjg, getD_set_ne true (Ne.symm hgi)]; exact hl
      refine wpOp_mono (fun a' w' h3 => ?_) h2
      obtain ⟨h4, h5, h6⟩ := h3
      rw [if_neg (by simp [hlij])] at h5
      refine ⟨by rw [if_neg (by simp [hlj])]; exact h5, ih (listed.setIfInBounds j true) a' w' hfree' (ready_mono hr (Ne.symm hji)) hlj hgi h4 h5 ?_⟩
      rw [Array.setIfInBounds_comm _ _ hji]
      exact h6
theorem wpAnyG_all {g : Nat} {rs : List Nat} {fuel : Nat} {listed : Array Bool} {a : Act} {w : World} (hr : Region.ready md ops listed = rs) (hne : rs ≠ [])
    (h : ∀ i ∈ rs, wpOp P ops Q i (fun a' w' => (if (listed.setIfInBounds i true).getD g true = true then S1 w' else S0 w') ∧ wpAnyG P md ops Q g S0 S1 fuel (listed.setIfInBounds i true) a' w') a w) : wpAnyG P md ops Q g S0 S1 (fuel + 1) listed a w :=
  ⟨fun h0 => absurd (hr ▸ h0) hne, hr ▸ h⟩
end
def waitsB (ops : Array Oper) (g i : Nat) : Bool := match ops[g]? with
  | some o => o.after.any fun e => Region.binds .any e && e.on == i
  | none => false
def schedOk2 (ops : Array Oper) (g : Nat) (s2 : List (Nat × Bool)) : List (Nat × Bool) → Array Bool → Bool
  | [], l => Region.ready .any ops l == [g] && decide (g < l.size) && schedOk ops s2 (l.setIfInBounds g true)
  | (i, true) :: r, l => Region.free .any ops l i && (Region.ready .any ops l).contains i && waitsB ops g i && decide (g ≠ i) && schedOk2 ops g s2 r (l.setIfInBounds i true)
  | (i, false) :: r, l => Region.ready .any ops l == [i] && decide (g ≠ i) && schedOk2 ops g s2 r (l.setIfInBounds i true)
def schedB2 (ops : Array Oper) (s1 : List (Nat × Bool)) (g : Nat) (s2 : List (Nat × Bool)) : Bool := Region.noSelect ops && s1.length + (s2.length + 1) == ops.size && schedOk2 ops g s2 s1 (Array.replicate ops.size false)
def Sched2Post (K : Act → World → Prop) (S0 : World → Prop) (e : Exit) (a' : Act) (w' : World) : Prop := e = .normal ∧ S0 w' ∧ K a' w'
/-- The walk of a region in the order s1, g, s2: S0 ahead of g, S1 behind it. -/
def wpSched2 (P : Program) (ops : Array Oper) (Q : Act → World → Prop) (g : Nat) (s2 : List (Nat × Bool)) (S0 S1 : World → Prop) : List (Nat × Bool) → Act → World → Prop
  | [], a, w => ∃ o, ops[g]? = some o ∧ wpList P ops (SchedPost (wpSched P ops Q s2) S1) [o] a w
  | (i, true) :: r, a, w => ∃ o v, ops[i]? = some o ∧ YieldsIf P ops S0 o v a ∧ S0 w ∧ wpSched2 P ops Q g s2 S0 S1 r (a.put o.dst v) w
  | (i, false) :: r, a, w => ∃ o, ops[i]? = some o ∧ wpList P ops (Sched2Post (wpSched2 P ops Q g s2 S0 S1 r) S0) [o] a w
section
variable {P : Program} {ops : Array Oper} {Q : Act → World → Prop} {S0 S1 : World → Prop} {a : Act} {w : World} {i g : Nat} {r s2 : List (Nat × Bool)} {o : Oper}
theorem sched2_take {v : Value} (ho : ops[i]? = some o) (hy : YieldsIf P ops S0 o v a) (hS : S0 w) (h : wpSched2 P ops Q g s2 S0 S1 r (a.put o.dst v) w) : wpSched2 P ops Q g s2 S0 S1 ((i, true) :: r) a w := ⟨o, v, ho, hy, hS, h⟩
theorem sched2_step (ho : ops[i]? = some o) (h : wpList P ops (Sched2Post (wpSched2 P ops Q g s2 S0 S1 r) S0) [o] a w) : wpSched2 P ops Q g s2 S0 S1 ((i, false) :: r) a w := ⟨o, ho, h⟩
theorem sched2_on (hS : S0 w) (h : wpSched2 P ops Q g s2 S0 S1 r a w) : Sched2Post (wpSched2 P ops Q g s2 S0 S1 r) S0 .normal a w := ⟨rfl, hS, h⟩
theorem sched2_go (ho : ops[g]? = some o) (h : wpList P ops (SchedPost (wpSched P ops Q s2) S1) [o] a w) : wpSched2 P ops Q g s2 S0 S1 [] a w := ⟨o, ho, h⟩
theorem waitsB_spec {og : Oper} (h : waitsB ops g i = true) (hog : ops[g]? = some og) : ∃ e ∈ og.after, Region.binds .any e = true ∧ e.on = i := by
  unfold waitsB at h
  rw [hog] at h
  obtain ⟨j, hj, h⟩ := Array.any_iff_exists.1 h
  simp only [Bool.and_eq_true, beq_iff_eq] at h
  exact ⟨og.after[j], Array.getElem_mem _, h.2.2.1, h.2.2.2⟩
/-- One step, whatever its K says. -/
theorem wpOp_of_list {Q' : Exit → Act → World → Prop} {R : Exit → Act → World → Prop} {K : Act → World → Prop} (ho : ops[i]? = some o) (hn : ∀ e a w, R e a w → e = .normal) (hK : ∀ a w, R .normal a w → K a w) (h : wpList P ops R [o] a w) : wpOp P ops Q' i K a w := by
  unfold wpOp
  rw [ho]
  simp only
  unfold wpList at h
  split
  · rename_i hw
    rw [if_pos hw] at h
    rcases h with h | ⟨_, a', w', h⟩
    · refine .inl (Oper.wp_mono (fun a w h => hK a w h) (oper_wp_q ?_ ?_ h))
      · intro c a' w' h
        cases hn _ _ _ h
      · rintro ⟨a', w', h⟩
        cases hn _ _ _ h
    · cases hn _ _ _ h
  · rename_i hw
    rw [if_neg hw] at h
    exact hK _ _ h
theorem wpAnyG_of_sched2 {Q' : Exit → Act → World → Prop} (hsel : Region.noSelect ops = true) (hp : ∀ c a w, ¬ Q' (.panic c) a w) (hQ : ∀ a w, Q a w → Q' .normal a w) :
    ∀ (s1 : List (Nat × Bool)) (l : Array Bool) (a : Act) (w : World), schedOk2 ops g s2 s1 l = true → l.getD g true = false → wpSched2 P ops Q g s2 S0 S1 s1 a w → wpAnyG P .any ops Q' g S0 S1 (s1.length + (s2.length + 1)) l a w := by
  intro s1
  induction s1 with
  | nil =>
    intro l a w hk hl h
    obtain ⟨o, ho, h⟩ := h
    simp only [schedOk2, Bool.and_eq_true, beq_iff_eq, decide_eq_true_eq] at hk
    obtain ⟨⟨hk1, hk2⟩, hk3⟩ := hk
    have hset : (l.setIfInBounds g true).getD g true = true := by
      rw [Array.getD_eq_getD_getElem?, Array.getElem?_setIfInBounds]
      simp [hk2]
    rw [show ([] : List (Nat × Bool)).length + (s2.length + 1) = s2.length + 1 by simp]
    refine wpAnyG_all hk1 (by simp) (fun j hj => ?_)
    obtain rfl : j = g := by simpa using hj
    refine wpOp_of_list ho (fun e a w h => h.1) (fun a' w' h2 => ?_) h
    obtain ⟨_, S', hs, hS', h3⟩ := h2
    exact ⟨by rw [if_pos hset]; exact hs _ hS', G_of_H _ _ _ _ hset (wpAnyH_mono hs _ _ _ _ (wpAnyH_of_sched hsel hp hQ s2 S' _ _ _ hk3 h3))⟩
  | cons e r ih =>
    intro l a w hk hl h
    obtain ⟨i, b⟩ := e
    rw [show ((i, b) :: r).length + (s2.length + 1) = (r.length + (s2.length + 1)) + 1 by simp; omega]
    cases b with
    | true =>
      obtain ⟨o, v, ho, hy, hS, hr⟩ := h
      simp only [schedOk2, Bool.and_eq_true, decide_eq_true_eq] at hk
      obtain ⟨⟨⟨⟨hk1, hk2⟩, hk3⟩, hk4⟩, hk5⟩ := hk
      have hog : ∃ og, ops[g]? = some og := by
        unfold waitsB at hk3
        split at hk3
        · exact ⟨_, ‹_›⟩
        · cases hk3
      obtain ⟨og, hog⟩ := hog
      exact wpAnyG_first ho hog (waitsB_spec hk3 hog) (Region.noSelect_spec hsel) (fun c a w h => (hp _ _ _ h).elim) _ _ _ _ (Region.free_spec ho hk1) (by simpa using hk2) hl hk4 hy hS (ih _ _ _ hk5 (by rw [getD_set_ne true (Ne.symm hk4)]; exact hl) hr)
    | false =>
      obtain ⟨o, ho, hr⟩ := h
      simp only [schedOk2, Bool.and_eq_true, beq_iff_eq, decide_eq_true_eq] at hk
      obtain ⟨⟨hk1, hk2⟩, hk3⟩ := hk
      have hl' : (l.setIfInBounds i true).getD g true = false := by rw [getD_set_ne true (Ne.symm hk2)]; exact hl
      refine wpAnyG_all hk1 (by simp) (fun j hj => ?_)
      obtain rfl : j = i := by simpa using hj
      refine wpOp_of_list ho (fun e a w h => h.1) (fun a' w' h2 => ?_) hr
      exact ⟨by rw [if_neg (by simp [hl'])]; exact h2.2.1, ih _ _ _ hk3 hl' h2.2.2⟩
/-- THE RULE. -/
theorem wp_region_sched2 {id : Nat} {Q' : Exit → Act → World → Prop} (s1 : List (Nat × Bool)) (g : Nat) (s2 : List (Nat × Bool)) (S0 S1 : World → Prop) (hm : P.follows .mixedOrders = true) (hB : schedB2 ops s1 g s2 = true) (hg : (Array.replicate ops.size false).getD g true = false)
    (h : wpSched2 P ops (fun a w => Q' .normal a w) g s2 S0 S1 s1 a w.drew) : (Code.region id ops true).wp P Q' a w := by
  simp only [schedB2, Bool.and_eq_true, beq_iff_eq] at hB
  refine Code.wp_mono (Q := fun e a w => e = .normal ∧ Q' e a w) (fun e a w h => h.2) ?_
  refine wp_region_any hm (wpAny_of_G (g := g) (S0 := S0) (S1 := S1) _ _ _ _ ?_)
  have h2 := wpAnyG_of_sched2 (Q' := fun e a w => e = .normal ∧ Q' e a w) hB.1.1 (fun c a w h => by cases h.1) (fun a w h => ⟨rfl, h⟩) s1 _ _ _ hB.2 hg h
  rwa [hB.1.2] at h2
end
end Go.Proofs.Ytpehmmdbjakkpaa
