/- A history's calls, as a fold. -/
import Derived.Test.YtgpmkcipogljbaaDTy
import Derived.Test.YtgpmkcipogljbaaMapI
namespace Go.Proofs.Ytgpmkcipogljbaa
open Go.RowKit
set_option linter.unusedSimpArgs false
set_option linter.unusedVariables false
structure St where
  out : List CallD
  opn : Int → Option Nat
def step (i : Nat) (x : EvD) (s : St) : Option St :=
  if x.th < 0 ∨ 64 ≤ x.th ∨ (s.opn x.th).isSome ≠ x.done then none
  else if x.done = false then
    if x.res = ResD.zero then some ⟨s.out ++ [⟨x.th, x.op, i, -1, ResD.zero⟩], upd s.opn x.th (some s.out.length)⟩ else none
  else match s.opn x.th with
    | none => none
    | some p => match s.out[p]? with
      | none => none
      | some c => if c.op = x.op then some ⟨s.out.set p ⟨c.th, c.op, c.frm, i, x.res⟩, upd s.opn x.th none⟩ else none
def runF : Nat → List EvD → St → Option St
  | _, [], s => some s
  | i, x :: r, s => (step i x s).bind (runF (i + 1) r)
def St.zero : St := ⟨[], fun _ => none⟩
def runL (l : List EvD) : Option St := runF 0 l St.zero
theorem runF_append (a b : List EvD) : ∀ (i : Nat) (s : St), runF i (a ++ b) s = (runF i a s).bind (runF (i + a.length) b) := by
  induction a with
  | nil => intro i s; rfl
  | cons x a ih =>
    intro i s
    show (step i x s).bind (runF (i + 1) (a ++ b)) = ((step i x s).bind (runF (i + 1) a)).bind _
    cases h : step i x s with
    | none => rfl
    | some s' =>
      show runF (i + 1) (a ++ b) s' = (runF (i + 1) a s').bind _
      rw [ih, show i + 1 + a.length = i + (x :: a).length by simp; omega]
theorem runL_succ {l : List EvD} {k : Nat} {x : EvD} (h : l[k]? = some x) : runL (l.take (k + 1)) = (runL (l.take k)).bind (step k x) := by
  have hk : k < l.length := by
    rcases Nat.lt_or_ge k l.length with h1 | h1
    · exact h1
    · rw [List.getElem?_eq_none h1] at h; cases h
  unfold runL
  rw [List.take_add_one, h, Option.toList_some, runF_append, List.length_take, Nat.min_eq_left (by omega), Nat.zero_add]
  congr 1
  funext s
  show (step k x s).bind (fun s' => some s') = _
  cases step k x s <;> rfl
theorem runL_none {l : List EvD} {k : Nat} (h : runL (l.take k) = none) : runL l = none := by
  have e : l = l.take k ++ l.drop k := (List.take_append_drop k l).symm
  unfold runL at h ⊢
  rw [e, runF_append, h]
  rfl
/-- Each open place lies in the list. -/
def St.fits (s : St) : Prop := ∀ q p, s.opn q = some p → p < s.out.length
theorem step_fits {i : Nat} {x : EvD} {s s' : St} (h : step i x s = some s') (hf : s.fits) : s'.fits := by
  unfold step at h
  split at h
  · cases h
  · split at h
    · split at h
      · injection h with h
        subst h
        intro q p hp
        simp only [upd] at hp
        split at hp
        · injection hp with hp; simp; omega
        · have := hf q p hp; simp; omega
      · cases h
    · split at h
      · cases h
      · split at h
        · cases h
        · split at h
          · injection h with h
            subst h
            intro q p hp
            simp only [upd] at hp
            split at hp
            · cases hp
            · have := hf q p hp; simp; omega
          · cases h
theorem step_len {i : Nat} {x : EvD} {s s' : St} (h : step i x s = some s') : s'.out.length ≤ s.out.length + 1 := by
  unfold step at h
  split at h
  · cases h
  · split at h
    · split at h
      · injection h with h; subst h; simp
      · cases h
    · split at h
      · cases h
      · split at h
        · cases h
        · split at h
          · injection h with h; subst h; simp
          · cases h
def errOf : Option St → Int
  | none => 1
  | some _ => 0
def outOf : Option St → List CallD
  | none => []
  | some s => s.out
theorem step_bad {i : Nat} {x : EvD} {s : St} (h : x.th < 0 ∨ 64 ≤ x.th ∨ (s.opn x.th).isSome ≠ x.done) : step i x s = none := by unfold step; rw [if_pos h]
theorem step_new {i : Nat} {x : EvD} {s : St} (h : ¬ (x.th < 0 ∨ 64 ≤ x.th ∨ (s.opn x.th).isSome ≠ x.done)) (hd : x.done = false) (hr : x.res = ResD.zero) : step i x s = some ⟨s.out ++ [⟨x.th, x.op, i, -1, ResD.zero⟩], upd s.opn x.th (some s.out.length)⟩ := by
  unfold step; rw [if_neg h, if_pos hd, if_pos hr]
theorem step_newBad {i : Nat} {x : EvD} {s : St} (h : ¬ (x.th < 0 ∨ 64 ≤ x.th ∨ (s.opn x.th).isSome ≠ x.done)) (hd : x.done = false) (hr : ¬ x.res = ResD.zero) : step i x s = none := by
  unfold step; rw [if_neg h, if_pos hd, if_neg hr]
theorem step_done {i p : Nat} {x : EvD} {s : St} {c : CallD} (h : ¬ (x.th < 0 ∨ 64 ≤ x.th ∨ (s.opn x.th).isSome ≠ x.done)) (hd : x.done = true) (hp : s.opn x.th = some p) (hc : s.out[p]? = some c) (ho : c.op = x.op) : step i x s = some ⟨s.out.set p ⟨c.th, c.op, c.frm, i, x.res⟩, upd s.opn x.th none⟩ := by
  unfold step; rw [if_neg h, if_neg (by simp [hd]), hp]; simp only [hc]; rw [if_pos ho]
theorem step_doneBad {i p : Nat} {x : EvD} {s : St} {c : CallD} (h : ¬ (x.th < 0 ∨ 64 ≤ x.th ∨ (s.opn x.th).isSome ≠ x.done)) (hd : x.done = true) (hp : s.opn x.th = some p) (hc : s.out[p]? = some c) (ho : ¬ c.op = x.op) : step i x s = none := by
  unfold step; rw [if_neg h, if_neg (by simp [hd]), hp]; simp only [hc]; rw [if_neg ho]
/-- An element of the call's own list, written anew: its last six cells. -/
theorem drop_take_set {α : Type} {l : List α} {s j m : Nat} {u : α} : ((l.set j u).drop m).take s = if m ≤ j ∧ j < m + s then ((l.drop m).take s).set (j - m) u else (l.drop m).take s := by
  apply List.ext_getElem?
  intro i
  split
  · rename_i h
    rw [List.getElem?_take, List.getElem?_drop, List.getElem?_set, List.getElem?_set, List.getElem?_take, List.getElem?_drop]
    simp only [List.length_take, List.length_drop]
    repeat' split
    all_goals first | rfl | (exfalso; omega)
  · rename_i h
    rw [List.getElem?_take, List.getElem?_drop, List.getElem?_take, List.getElem?_drop]
    by_cases hi : i < s
    · rw [if_pos hi, if_pos hi, List.getElem?_set, if_neg (by omega)]
    · rw [if_neg hi, if_neg hi]
theorem Own.setCall {w : World} {e : TypeId} {S : Nat → Prop} {g n c : Nat} {xs : List CallD} (h : Own tCall e w S (.slice (some ⟨g, 0, none⟩) n c) xs) {p : Nat} {y : CallD} (hy : xs[p]? = some y) (to : Int) (r : ResD) {vp vo vi : Value} (hv : Sl w (fun k => S k ∧ k ≠ g) r vp vo vi) :
    Own tCall e ((((((w.setCell ⟨g, p * 13 + 7, none⟩ (.int .i64 to)).setCell ⟨g, p * 13 + 8, none⟩ (.int .i64 r.err)).setCell ⟨g, p * 13 + 9, none⟩ (.int .i64 r.id)).setCell ⟨g, p * 13 + 10, none⟩ vp).setCell ⟨g, p * 13 + 11, none⟩ vo).setCell ⟨g, p * 13 + 12, none⟩ vi) S (.slice (some ⟨g, 0, none⟩) n c) (xs.set p ⟨y.th, y.op, y.frm, to, r⟩) := by
  obtain ⟨hS, inner, ho, hk⟩ := h
  have hn : n = xs.length := by
    rcases ho.2 with ⟨h1, _⟩ | ⟨_, _, _, h1, _⟩
    · simp at h1
    · injection h1
  subst hn
  have hp : p < xs.length := (List.getElem?_eq_some_iff.1 hy).1
  have hs : Same (fun k => S k ∧ (Value.slice (some ⟨g, 0, none⟩) xs.length c).ownBlock ≠ some k) w ((((((w.setCell ⟨g, p * 13 + 7, none⟩ (.int .i64 to)).setCell ⟨g, p * 13 + 8, none⟩ (.int .i64 r.err)).setCell ⟨g, p * 13 + 9, none⟩ (.int .i64 r.id)).setCell ⟨g, p * 13 + 10, none⟩ vp).setCell ⟨g, p * 13 + 11, none⟩ vo).setCell ⟨g, p * 13 + 12, none⟩ vi) := by
    intro k hk hl
    have hne : k ≠ g := fun e => hk.2 (by rw [e]; rfl)
    rw [Below.heap_setCell _ ⟨g, p * 13 + 12, none⟩ _ k hne, Below.heap_setCell _ ⟨g, p * 13 + 11, none⟩ _ k hne, Below.heap_setCell _ ⟨g, p * 13 + 10, none⟩ _ k hne, Below.heap_setCell _ ⟨g, p * 13 + 9, none⟩ _ k hne, Below.heap_setCell _ ⟨g, p * 13 + 8, none⟩ _ k hne, Below.heap_setCell _ ⟨g, p * 13 + 7, none⟩ _ k hne]
  have ho6 := (((((((ho.stored (p * 13 + 7) (.int .i64 to)).1.stored (p * 13 + 8) (.int .i64 r.err)).1.stored (p * 13 + 9) (.int .i64 r.id)).1).stored (p * 13 + 10) vp).1.stored (p * 13 + 11) vo).1.stored (p * 13 + 12) vi).1
  refine ⟨hS, _, by rw [List.length_set]; exact ho6, fun j x hj => ?_⟩
  have hsz : tCall.sz = 13 := rfl
  rw [hsz]
  rw [List.getElem?_set] at hj
  simp only [drop_take_set]
  by_cases hjp : p = j
  · subst hjp
    rw [if_pos rfl, if_pos hp] at hj
    injection hj with hj
    subst hj
    obtain ⟨p0, o0, i0, _, hc⟩ := hk p y hy
    rw [hsz] at hc
    have f : ∀ q, q < 13 → (p * 13 ≤ p * 13 + q ∧ p * 13 + q < p * 13 + 13) := fun q hq => by omega
    have g' : ∀ q, p * 13 + q - p * 13 = q := fun q => by omega
    rw [if_pos (f 12 (by omega)), if_pos (f 11 (by omega)), if_pos (f 10 (by omega)), if_pos (f 9 (by omega)), if_pos (f 8 (by omega)), if_pos (f 7 (by omega)), g', g', g', g', g', g', hc]
    refine ⟨vp, vo, vi, (hv.mono fun k hk _ => ⟨hk.1, fun e => hk.2 (by have := Option.some.inj e; exact this.symm)⟩).move hs, rfl⟩
  · rw [if_neg hjp] at hj
    have f : ∀ q, q < 13 → ¬ (j * 13 ≤ p * 13 + q ∧ p * 13 + q < j * 13 + 13) := fun q hq => by omega
    rw [if_neg (f 12 (by omega)), if_neg (f 11 (by omega)), if_neg (f 10 (by omega)), if_neg (f 9 (by omega)), if_neg (f 8 (by omega)), if_neg (f 7 (by omega))]
    have := hk j x hj
    rw [hsz] at this
    exact tCall.move hs this
end Go.Proofs.Ytgpmkcipogljbaa
