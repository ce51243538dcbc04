/- What stands of a history's calls, whatever the history. -/
import Derived.Test.YtgpmkcipogljbaaSpec
import Derived.Test.YtgpmkcipogljbaaFew
namespace Go.Proofs.Ytgpmkcipogljbaa
open Go.RowKit
set_option linter.unusedSimpArgs false
set_option linter.unusedVariables false
structure St.Inv (s : St) (k : Nat) : Prop where
  each : ∀ (i : Nat) (c : CallD), s.out[i]? = some c → 0 ≤ c.frm ∧ c.frm < (k : Int) ∧ c.to < (k : Int) ∧ (0 ≤ c.to → c.frm < c.to)
  asc : ∀ (i j : Nat) (c d : CallD), i < j → s.out[i]? = some c → s.out[j]? = some d → c.frm < d.frm
  same : ∀ (i j : Nat) (c d : CallD), i < j → s.out[i]? = some c → s.out[j]? = some d → c.th = d.th → 0 ≤ c.to ∧ c.to < d.frm
  opened : ∀ (i : Nat) (c : CallD), s.out[i]? = some c → c.to < 0 → s.opn c.th = some i
  open_ : ∀ (q : Int) (p : Nat), s.opn q = some p → ∃ c : CallD, s.out[p]? = some c ∧ c.th = q ∧ c.to < 0
theorem Inv.zero : St.zero.Inv 0 := ⟨fun i c h => by simp [St.zero] at h, fun i j c d _ h => by simp [St.zero] at h, fun i j c d _ h => by simp [St.zero] at h, fun i c h => by simp [St.zero] at h, fun q p h => by cases h⟩
theorem at_append {xs : List CallD} {y c : CallD} {i : Nat} (h : (xs ++ [y])[i]? = some c) : xs[i]? = some c ∨ (i = xs.length ∧ c = y) := by
  rw [List.getElem?_append] at h
  split at h
  · exact .inl h
  · right
    rcases Nat.lt_or_ge (i - xs.length) 1 with h1 | h1
    · have : i = xs.length := by omega
      subst this
      simp at h
      exact ⟨rfl, h.symm⟩
    · rw [List.getElem?_eq_none (by simpa using h1)] at h; cases h
theorem at_lt {xs : List CallD} {c : CallD} {i : Nat} (h : xs[i]? = some c) : i < xs.length := (List.getElem?_eq_some_iff.1 h).1
theorem St.Inv.new {s : St} {k : Nat} (h : s.Inv k) {th : Int} {op : OpD} (ho : s.opn th = none) : St.Inv ⟨s.out ++ [⟨th, op, k, -1, ResD.zero⟩], upd s.opn th (some s.out.length)⟩ (k + 1) := by
  refine ⟨?_, ?_, ?_, ?_, ?_⟩
  · intro i c hc
    rcases at_append hc with hc | ⟨_, rfl⟩
    · have := h.each i c hc; exact ⟨this.1, by omega, by omega, this.2.2.2⟩
    · exact ⟨by simp, by simp; omega, by simp; omega, fun h => by simp at h⟩
  · intro i j c d hij hc hd
    rcases at_append hc with hc | ⟨hi, rfl⟩
    · rcases at_append hd with hd | ⟨_, rfl⟩
      · exact h.asc i j c d hij hc hd
      · exact (h.each i c hc).2.1
    · rcases at_append hd with hd | ⟨hj, _⟩
      · have := at_lt hd; omega
      · omega
  · intro i j c d hij hc hd hth
    rcases at_append hc with hc | ⟨hi, rfl⟩
    · rcases at_append hd with hd | ⟨_, rfl⟩
      · exact h.same i j c d hij hc hd hth
      · refine ⟨?_, (h.each i c hc).2.2.1⟩
        by_cases h1 : c.to < 0
        · have := h.opened i c hc h1
          rw [show c.th = th from hth, ho] at this
          cases this
        · omega
    · rcases at_append hd with hd | ⟨hj, _⟩
      · have := at_lt hd; omega
      · omega
  · intro i c hc hto
    rcases at_append hc with hc | ⟨hi, rfl⟩
    · have h1 := h.opened i c hc hto
      have : c.th ≠ th := fun e => by rw [e, ho] at h1; cases h1
      simp only [upd, if_neg this]
      exact h1
    · simp [upd, hi]
  · intro q p hp
    simp only [upd] at hp
    split at hp
    · injection hp with hp
      subst hp
      exact ⟨⟨th, op, k, -1, ResD.zero⟩, by simp, by simp_all, by simp⟩
    · obtain ⟨c, hc, h1, h2⟩ := h.open_ q p hp
      exact ⟨c, by rw [List.getElem?_append_left (at_lt hc)]; exact hc, h1, h2⟩
theorem at_set {xs : List CallD} {y c : CallD} {p i : Nat} (h : (xs.set p y)[i]? = some c) : (i ≠ p ∧ xs[i]? = some c) ∨ (i = p ∧ c = y) := by
  rw [List.getElem?_set] at h
  split at h
  · subst_vars
    split at h
    · injection h with h; exact .inr ⟨rfl, h.symm⟩
    · cases h
  · exact .inl ⟨by omega, h⟩
theorem St.Inv.done {s : St} {k p : Nat} (h : s.Inv k) {th : Int} {y : CallD} (ho : s.opn th = some p) (hy : s.out[p]? = some y) (r : ResD) : St.Inv ⟨s.out.set p ⟨y.th, y.op, y.frm, k, r⟩, upd s.opn th none⟩ (k + 1) := by
  obtain ⟨y', hy', hyt, hyo⟩ := h.open_ th p ho
  rw [hy] at hy'
  injection hy' with hy'
  subst hy'
  have hye := h.each p y hy
  refine ⟨?_, ?_, ?_, ?_, ?_⟩
  · intro i c hc
    rcases at_set hc with ⟨_, hc⟩ | ⟨_, rfl⟩
    · have := h.each i c hc; exact ⟨this.1, by omega, by omega, this.2.2.2⟩
    · exact ⟨hye.1, by simp only; omega, by simp only; omega, fun _ => hye.2.1⟩
  · intro i j c d hij hc hd
    rcases at_set hc with ⟨_, hc1⟩ | ⟨rfl, rfl⟩
    · rcases at_set hd with ⟨_, hd1⟩ | ⟨rfl, rfl⟩
      · exact h.asc i j c d hij hc1 hd1
      · exact h.asc i _ c y hij hc1 hy
    · rcases at_set hd with ⟨_, hd1⟩ | ⟨rfl, rfl⟩
      · exact h.asc _ j y d hij hy hd1
      · omega
  · intro i j c d hij hc hd hth
    rcases at_set hc with ⟨_, hc1⟩ | ⟨rfl, rfl⟩
    · rcases at_set hd with ⟨_, hd1⟩ | ⟨rfl, rfl⟩
      · exact h.same i j c d hij hc1 hd1 hth
      · exact h.same i _ c y hij hc1 hy hth
    · rcases at_set hd with ⟨_, hd1⟩ | ⟨rfl, rfl⟩
      · have := h.same _ j y d hij hy hd1 hth
        omega
      · omega
  · intro i c hc hto
    rcases at_set hc with ⟨hip, hc⟩ | ⟨rfl, rfl⟩
    · have h1 := h.opened i c hc hto
      have : c.th ≠ th := fun e => by rw [e, ho] at h1; injection h1 with h1; omega
      simp only [upd, if_neg this]
      exact h1
    · simp only at hto; omega
  · intro q p' hp
    simp only [upd] at hp
    split at hp
    · cases hp
    · obtain ⟨c, hc, h1, h2⟩ := h.open_ q p' hp
      have hne : p ≠ p' := by
        rintro rfl
        rw [hy] at hc
        injection hc with hc
        subst hc
        rw [hyt] at h1
        simp_all
      exact ⟨c, by rw [List.getElem?_set_ne hne]; exact hc, h1, h2⟩
theorem step_inv {k : Nat} {x : EvD} {s s' : St} (h : step k x s = some s') (hi : s.Inv k) : s'.Inv (k + 1) := by
  unfold step at h
  split at h
  · cases h
  · rename_i hg
    split at h
    · rename_i hd
      split at h
      · injection h with h
        subst h
        refine hi.new ?_
        cases ho : s.opn x.th with
        | none => rfl
        | some q => exact absurd (.inr (.inr (by rw [ho, hd]; simp))) hg
      · cases h
    · split at h
      · cases h
      · rename_i p hp
        split at h
        · cases h
        · rename_i c hc
          split at h
          · injection h with h
            subst h
            exact hi.done hp hc x.res
          · cases h
theorem runF_inv : ∀ (l : List EvD) (i : Nat) (s s' : St), runF i l s = some s' → s.Inv i → s'.Inv (i + l.length) := by
  intro l
  induction l with
  | nil => intro i s s' h hi; injection h with h; subst h; exact hi
  | cons x l ih =>
    intro i s s' h hi
    have h : (step i x s).bind (runF (i + 1) l) = some s' := h
    cases h1 : step i x s with
    | none => rw [h1] at h; cases h
    | some s1 =>
      rw [h1] at h
      have := ih (i + 1) s1 s' h (step_inv h1 hi)
      rwa [show i + (x :: l).length = i + 1 + l.length by simp; omega]
theorem runL_inv {l : List EvD} {s : St} (h : runL l = some s) : s.Inv l.length := by
  have := runF_inv l 0 St.zero s h Inv.zero
  rwa [Nat.zero_add] at this
end Go.Proofs.Ytgpmkcipogljbaa
