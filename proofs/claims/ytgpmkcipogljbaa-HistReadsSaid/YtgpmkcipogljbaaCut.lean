/- A history cut off: what its calls are then. -/
import Derived.Test.YtgpmkcipogljbaaInv
namespace Go.Proofs.Ytgpmkcipogljbaa
open Go.RowKit
set_option linter.unusedSimpArgs false
set_option linter.unusedVariables false
def St.blank (s : St) : Prop := ∀ (i : Nat) (c : CallD), s.out[i]? = some c → c.to < 0 → c.to = -1 ∧ c.res = ResD.zero
theorem step_blank {k : Nat} {x : EvD} {s s' : St} (h : step k x s = some s') (hb : s.blank) : s'.blank := by
  unfold step at h
  split at h
  · cases h
  · split at h
    · split at h
      · injection h with h
        subst h
        intro i c hc hto
        rcases at_append hc with hc | ⟨_, rfl⟩
        · exact hb i c hc hto
        · exact ⟨rfl, rfl⟩
      · cases h
    · split at h
      · cases h
      · split at h
        · cases h
        · split at h
          · injection h with h
            subst h
            intro i c hc hto
            rcases at_set hc with ⟨_, hc⟩ | ⟨_, rfl⟩
            · exact hb i c hc hto
            · simp only at hto; omega
          · cases h
def cut (k : Nat) (d : CallD) : CallD := if (k : Int) ≤ d.to then ⟨d.th, d.op, d.frm, -1, ResD.zero⟩ else d
structure Later (k : Nat) (s t : St) : Prop where
  len : s.out.length ≤ t.out.length
  old : ∀ (i : Nat) (c d : CallD), s.out[i]? = some c → t.out[i]? = some d → c = cut k d
  new : ∀ (i : Nat) (d : CallD), s.out.length ≤ i → t.out[i]? = some d → (k : Int) ≤ d.frm
theorem Later.refl {k : Nat} {s : St} (h : s.Inv k) : Later k s s := ⟨Nat.le_refl _, fun i c d hc hd => by
  rw [hc] at hd
  injection hd with hd
  subst hd
  have := (h.each i c hc).2.2.1
  unfold cut
  rw [if_neg (by omega)], fun i d hi hd => by have := at_lt hd; omega⟩
theorem Later.step {k m : Nat} {x : EvD} {s t t' : St} (hm : k ≤ m) (h : Later k s t) (hi : t.Inv m) (hb : t.blank) (hs : step m x t = some t') : Later k s t' := by
  unfold Go.Proofs.Ytgpmkcipogljbaa.step at hs
  split at hs
  · cases hs
  · split at hs
    · split at hs
      · injection hs with hs
        subst hs
        refine ⟨by simp; have := h.len; omega, fun i c d hc hd => ?_, fun i d hi hd => ?_⟩
        · rcases at_append hd with hd | ⟨hl, _⟩
          · exact h.old i c d hc hd
          · have h1 := at_lt hc; have := h.len; omega
        · rcases at_append hd with hd | ⟨_, rfl⟩
          · exact h.new i d hi hd
          · simp only; omega
      · cases hs
    · split at hs
      · cases hs
      · rename_i p hp
        split at hs
        · cases hs
        · rename_i c0 hc0
          split at hs
          · injection hs with hs
            subst hs
            obtain ⟨y, hy, hyt, hyo⟩ := hi.open_ _ _ hp
            rw [hc0] at hy
            injection hy with hy
            subst hy
            obtain ⟨b1, b2⟩ := hb p c0 hc0 hyo
            refine ⟨by simp; exact h.len, fun i c d hc hd => ?_, fun i d hi2 hd => ?_⟩
            · rcases at_set hd with ⟨_, hd1⟩ | ⟨rfl, rfl⟩
              · exact h.old i c d hc hd1
              · have := h.old i c c0 hc hc0
                rw [this]
                unfold cut
                rw [if_neg (by omega), if_pos (by simp only; omega)]
                cases c0; simp_all
            · rcases at_set hd with ⟨_, hd1⟩ | ⟨rfl, rfl⟩
              · exact h.new i d hi2 hd1
              · exact h.new i c0 hi2 hc0
          · cases hs
theorem runF_later {k : Nat} {s : St} : ∀ (l : List EvD) (m : Nat) (t t' : St), k ≤ m → Later k s t → t.Inv m → t.blank → runF m l t = some t' → Later k s t' := by
  intro l
  induction l with
  | nil => intro m t t' _ h _ _ hr; injection hr with hr; subst hr; exact h
  | cons x l ih =>
    intro m t t' hm h hi hb hr
    have hr : (step m x t).bind (runF (m + 1) l) = some t' := hr
    cases h1 : step m x t with
    | none => rw [h1] at hr; cases hr
    | some t1 =>
      rw [h1] at hr
      exact ih (m + 1) t1 t' (by omega) (h.step hm hi hb h1) (step_inv h1 hi) (step_blank h1 hb) hr
theorem runF_blank : ∀ (l : List EvD) (m : Nat) (t t' : St), t.blank → runF m l t = some t' → t'.blank := by
  intro l
  induction l with
  | nil => intro m t t' hb hr; injection hr with hr; subst hr; exact hb
  | cons x l ih =>
    intro m t t' hb hr
    have hr : (step m x t).bind (runF (m + 1) l) = some t' := hr
    cases h1 : step m x t with
    | none => rw [h1] at hr; cases hr
    | some t1 => rw [h1] at hr; exact ih (m + 1) t1 t' (step_blank h1 hb) hr
/-- A history that may be, cut off, may be; and what its calls are. -/
theorem runL_cut {l : List EvD} {t : St} {k : Nat} (hk : k ≤ l.length) (h : runL l = some t) : ∃ s, runL (l.take k) = some s ∧ Later k s t := by
  cases h1 : runL (l.take k) with
  | none => rw [runL_none h1] at h; cases h
  | some s =>
    refine ⟨s, rfl, ?_⟩
    have hi : s.Inv k := by have := runL_inv h1; rwa [List.length_take, Nat.min_eq_left hk] at this
    have hb : s.blank := runF_blank _ 0 St.zero s (fun i c hc => by simp [St.zero] at hc) h1
    have e : runL l = (runL (l.take k)).bind (runF k (l.drop k)) := by
      unfold runL
      conv => lhs; rw [← List.take_append_drop k l]
      rw [runF_append, List.length_take, Nat.min_eq_left hk, Nat.zero_add]
    rw [h1, h] at e
    exact runF_later _ k s t (Nat.le_refl _) (Later.refl hi) hi hb e.symm
end Go.Proofs.Ytgpmkcipogljbaa
