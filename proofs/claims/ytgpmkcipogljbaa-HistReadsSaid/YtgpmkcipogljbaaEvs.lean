/- Each event is one call's. -/
import Derived.Test.YtgpmkcipogljbaaCut
import Derived.Test.YtgpmkcipogljbaaPend
namespace Go.Proofs.Ytgpmkcipogljbaa
open Go.RowKit
set_option linter.unusedSimpArgs false
set_option linter.unusedVariables false
theorem step_cases {k : Nat} {x : EvD} {s s' : St} (h : step k x s = some s') : 0 ≤ x.th ∧ x.th < 64 ∧ ((x.done = false ∧ s.opn x.th = none ∧ x.res = ResD.zero ∧ s' = ⟨s.out ++ [⟨x.th, x.op, k, -1, ResD.zero⟩], upd s.opn x.th (some s.out.length)⟩) ∨ (x.done = true ∧ ∃ p c, s.opn x.th = some p ∧ s.out[p]? = some c ∧ c.op = x.op ∧ s' = ⟨s.out.set p ⟨c.th, c.op, c.frm, k, x.res⟩, upd s.opn x.th none⟩)) := by
  unfold step at h
  split at h
  · cases h
  · rename_i hg
    have h1 : ¬ x.th < 0 := fun e => hg (.inl e)
    have h2 : ¬ 64 ≤ x.th := fun e => hg (.inr (.inl e))
    refine ⟨by omega, by omega, ?_⟩
    split at h
    · rename_i hd
      split at h
      · rename_i hr
        injection h with h
        refine .inl ⟨hd, ?_, hr, h.symm⟩
        cases ho : s.opn x.th with
        | none => rfl
        | some q => exact absurd (.inr (.inr (by rw [ho, hd]; simp))) hg
      · cases h
    · rename_i hd
      split at h
      · cases h
      · rename_i p hp
        split at h
        · cases h
        · rename_i c hc
          split at h
          · rename_i ho
            injection h with h
            exact .inr ⟨by simpa using hd, p, c, hp, hc, ho, h.symm⟩
          · cases h
theorem runL_rec {l : List EvD} {P : Nat → St → Prop} (h0 : P 0 St.zero) (hs : ∀ (k : Nat) (x : EvD) (s s' : St), l[k]? = some x → P k s → step k x s = some s' → P (k + 1) s') {t : St} (h : runL l = some t) : P l.length t := by
  have H : ∀ (k : Nat) (s : St), k ≤ l.length → runL (l.take k) = some s → P k s := by
    intro k
    induction k with
    | zero => intro s _ hr; rw [List.take_zero] at hr; injection hr with hr; subst hr; exact h0
    | succ k ih =>
      intro s hk hr
      obtain ⟨x, hx⟩ : ∃ x, l[k]? = some x := ⟨l[k], List.getElem?_eq_getElem (by omega)⟩
      rw [runL_succ hx] at hr
      cases h1 : runL (l.take k) with
      | none => rw [h1] at hr; cases hr
      | some s0 =>
        rw [h1] at hr
        exact hs k x s0 s hx (ih s0 (by omega) h1) hr
  exact H l.length t (Nat.le_refl _) (by rw [List.take_length]; exact h)
def hit (e : Nat) (c : CallD) : Nat := (if c.frm = (e : Int) then 1 else 0) + (if c.to = (e : Int) then 1 else 0)
def cnt (l : List CallD) (e : Nat) : Nat := (l.map (hit e)).sum
theorem cnt_snoc (l : List CallD) (c : CallD) (e : Nat) : cnt (l ++ [c]) e = cnt l e + hit e c := by simp [cnt]
theorem cnt_set (e : Nat) (y : CallD) : ∀ (l : List CallD) (p : Nat) (c : CallD), l[p]? = some c → cnt (l.set p y) e + hit e c = cnt l e + hit e y := by
  intro l
  induction l with
  | nil => intro p c h; simp at h
  | cons z l ih =>
    intro p c h
    cases p with
    | zero =>
      simp at h
      subst h
      simp [cnt]
      omega
    | succ p =>
      have h : l[p]? = some c := by simpa using h
      have := ih p c h
      simp [cnt] at this ⊢
      omega
def pn (l : List CallD) : Nat := (l.map fun c => if c.to < 0 then 1 else 0).sum
theorem pn_eq : ∀ (l : List CallD), pendOf l = (pn l : Int) := by
  intro l
  induction l with
  | nil => rfl
  | cons z l ih =>
    unfold pendOf at ih ⊢
    by_cases hz : z.to < 0
    · simp [pn, hz] at ih ⊢; omega
    · simp [pn, hz] at ih ⊢; omega
theorem pn_set (y : CallD) : ∀ (l : List CallD) (p : Nat) (c : CallD), l[p]? = some c → pn (l.set p y) + (if c.to < 0 then 1 else 0) = pn l + (if y.to < 0 then 1 else 0) := by
  intro l
  induction l with
  | nil => intro p c h; simp at h
  | cons z l ih =>
    intro p c h
    cases p with
    | zero =>
      simp at h
      subst h
      simp [pn]
      omega
    | succ p =>
      have h : l[p]? = some c := by simpa using h
      have := ih p c h
      simp [pn] at this ⊢
      omega
structure Ev (l : List EvD) (k : Nat) (s : St) : Prop where
  inv : s.Inv k
  blank : s.blank
  frm : ∀ (i : Nat) (c : CallD), s.out[i]? = some c → ∃ x, l[c.frm.toNat]? = some x ∧ x.done = false ∧ x.op = c.op ∧ x.th = c.th
  to : ∀ (i : Nat) (c : CallD), s.out[i]? = some c → 0 ≤ c.to → ∃ y, l[c.to.toNat]? = some y ∧ y.done = true ∧ y.th = c.th ∧ y.res = c.res
  met : ∀ e : Nat, cnt s.out e = if e < k then 1 else 0
  len : k + pn s.out = 2 * s.out.length
theorem runL_ev {l : List EvD} {t : St} (h : runL l = some t) : Ev l l.length t := by
  refine runL_rec (P := fun k s => Ev l k s) ⟨Inv.zero, fun i c h => by simp [St.zero] at h, fun i c h => by simp [St.zero] at h, fun i c h => by simp [St.zero] at h, fun e => by simp [St.zero, cnt], by simp [St.zero, pn]⟩ ?_ h
  intro k x s s' hx h hs
  have hi := step_inv hs h.inv
  have hb := step_blank hs h.blank
  obtain ⟨_, _, ⟨hd, ho, hr, rfl⟩ | ⟨hd, p, c, hp, hc, ho, rfl⟩⟩ := step_cases hs
  · refine ⟨hi, hb, ?_, ?_, ?_, ?_⟩
    · intro i c hc
      rcases at_append hc with hc | ⟨_, rfl⟩
      · exact h.frm i c hc
      · exact ⟨x, by simpa using hx, hd, rfl, rfl⟩
    · intro i c hc hto
      rcases at_append hc with hc | ⟨_, rfl⟩
      · exact h.to i c hc hto
      · simp at hto
    · intro e
      show cnt (s.out ++ _) e = _
      rw [cnt_snoc, h.met e]
      simp only [hit]
      rw [if_neg (show ¬ ((-1 : Int) = (e : Int)) by omega)]
      by_cases h1 : e < k
      · rw [if_pos h1, if_neg (by omega), if_pos (by omega)]
      · rw [if_neg h1]
        by_cases h2 : e = k
        · rw [if_pos (by omega), if_pos (by omega)]
        · rw [if_neg (by omega), if_neg (by omega)]
    · have := h.len
      simp [pn] at this ⊢
      omega
  · obtain ⟨c', hc', hth, hto⟩ := h.inv.open_ x.th p hp
    rw [hc] at hc'
    injection hc' with hc'
    subst hc'
    have hto1 := (h.blank p c hc hto).1
    refine ⟨hi, hb, ?_, ?_, ?_, ?_⟩
    · intro i d hd1
      rcases at_set hd1 with ⟨_, hd1⟩ | ⟨_, rfl⟩
      · exact h.frm i d hd1
      · exact h.frm p c hc
    · intro i d hd1 hdt
      rcases at_set hd1 with ⟨_, hd1⟩ | ⟨_, rfl⟩
      · exact h.to i d hd1 hdt
      · exact ⟨x, by simpa using hx, hd, hth.symm, rfl⟩
    · intro e
      show cnt (s.out.set _ _) e = _
      have h1 := cnt_set e ⟨c.th, c.op, c.frm, k, x.res⟩ s.out p c hc
      have h2 := h.met e
      simp only [hit] at h1
      rw [h2, hto1, if_neg (show ¬ ((-1 : Int) = (e : Int)) by omega)] at h1
      by_cases h3 : e < k
      · rw [if_pos h3, if_neg (show ¬ ((k : Int) = (e : Int)) by omega)] at h1
        rw [if_pos (by omega)]
        omega
      · rw [if_neg h3] at h1
        by_cases h4 : e = k
        · rw [if_pos (show ((k : Int) = (e : Int)) by omega)] at h1
          rw [if_pos (by omega)]
          omega
        · rw [if_neg (show ¬ ((k : Int) = (e : Int)) by omega)] at h1
          rw [if_neg (by omega)]
          omega
    · have h1 := pn_set ⟨c.th, c.op, c.frm, k, x.res⟩ s.out p c hc
      rw [if_pos hto, if_neg (by simp only; omega)] at h1
      have := h.len
      simp only [List.length_set]
      omega
end Go.Proofs.Ytgpmkcipogljbaa
