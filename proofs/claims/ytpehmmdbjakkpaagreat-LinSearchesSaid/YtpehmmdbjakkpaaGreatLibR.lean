/- What an argument that can be read as data says of memory: rows (for the great seat, whose LibM is without them). -/
import Derived.Test.YtpehmmdbjakkpaaGreatLibM
namespace Go.Proofs.YtpehmmdbjakkpaaGreat
open Go.RowKit Go.ChangeShapes Go.WideShapes Go.Deep
theorem choose_list {α : Type} {n : Nat} {p : Nat → α → Prop} (h : ∀ i, i < n → ∃ x, p i x) : ∃ xs : List α, xs.length = n ∧ ∀ i x, xs[i]? = some x → p i x := by
 induction n with
 | zero => exact ⟨[], rfl, fun i x h => by simp at h⟩
 | succ n ih =>
  obtain ⟨xs, hl, hx⟩ := ih fun i hi => h i (by omega)
  obtain ⟨x, hp⟩ := h n (by omega)
  refine ⟨xs ++ [x], by simp [hl], fun i y hy => ?_⟩
  rcases Nat.lt_or_ge i xs.length with hi | hi
  ·
   rw [List.getElem?_append_left hi] at hy
   exact hx i y hy
  ·
   rw [List.getElem?_append_right hi] at hy
   have h0 : i - xs.length = 0 := by
    have := (List.getElem?_eq_some_iff.1 hy).1
    simp at this
    omega
   rw [h0] at hy
   obtain rfl : x = y := by simpa using hy
   rw [show i = n by omega]
   exact hp
/-- A slice, read, is a Row. -/
theorem row_of_trod {α : Type} {P : Program} {t : Ty α} {T e : TypeId} {ok : α → Prop} (hT : P.underlying T = some (.slice e)) (he : Reads P t e ok)
  {H : Type} {enc : TypeId × Value → H} {w : World} {base : Nat} {spare : Nat → Bool} {held : Bool} {fuel : Nat} {cs : List Value} {y : DataW H × List MemPlace} (h : DataW.trod enc P w base spare held fuel T cs = some y) :
  ∃ v xs, cs = [v] ∧ Row t w (fun _ => True) v xs ∧ ∀ x ∈ xs, ok x := by
 rcases open_slice hT h with ⟨hcs, _⟩ | ⟨a, len, cap, m, n, D, Pl, hcs, _, hl, hm, hmm, _, hi⟩
 ·
  exact ⟨_, [], hcs, Row.nil _ _ _, fun x hx => by cases hx⟩
 ·
  have hlm : len ≤ m := by rw [hmm]; split <;> omega
  have hsp : 0 < len → a.spot = none := by
   intro h0
   obtain ⟨cs', hc, _⟩ := hi 0 (by omega)
   obtain ⟨_, hcl, hat⟩ := World.cells?_some hc
   have hp := t.pos
   have h1 := hat 0 (by rw [he.sz]; exact hp)
   rw [List.getElem?_eq_getElem (by rw [hcl, he.sz]; exact hp)] at h1
   simp only [Nat.zero_mul] at h1
   cases hs : a.spot with
   | none => rfl
   | some s =>
    have e0 : (a.add 0).add 0 = a := by simp [Addr.add]
    rw [e0] at h1
    unfold World.cell? at h1
    split at h1
    ·
     rw [hs] at h1; simp at h1
    ·
     cases h1
  obtain ⟨xs, hxl, hx⟩ := choose_list (n := len) (p := fun i x => (∃ cs, t.K w (fun _ => True) x cs ∧ w.rangeAt a.block (a.off + i * t.sz) cs) ∧ ok x) (by
   intro i hil
   obtain ⟨cs', hc, ht⟩ := hi i (by omega)
   obtain ⟨x, hk, hok⟩ := he.read ht
   refine ⟨x, ⟨cs', hk, fun j u hu => ?_⟩, hok⟩
   obtain ⟨_, hcl, hat⟩ := World.cells?_some hc
   have hj := (List.getElem?_eq_some_iff.1 hu).1
   have h1 := hat j (by omega)
   rw [hu, he.sz, Go.Deep.add_add] at h1
   have ea : a = ⟨a.block, a.off, none⟩ := by rw [← hsp (by omega)]
   rw [ea, Addr.add_mid] at h1
   rw [Nat.add_assoc]
   exact h1)
  subst hxl
  refine ⟨_, xs, hcs, ⟨some a, cap, rfl, hl, hm, by simp, ?_⟩, fun x hxm => ?_⟩
  ·
   rcases xs with _ | ⟨x0, xr⟩
   ·
    exact .inl rfl
   ·
    right
    have ea : a = ⟨a.block, a.off, none⟩ := by rw [← hsp (by simp)]
    refine ⟨a.block, a.off, by rw [← ea], trivial, ?_, fun j x hj => (hx j x hj).1⟩
    obtain ⟨⟨cs0, hk0, hr0⟩, _⟩ := hx 0 x0 rfl
    have hl0 := t.len hk0
    have hp := t.pos
    have h1 := hr0 0 _ (List.getElem?_eq_getElem (by omega))
    exact block_lt_of_cell (a := ⟨a.block, a.off + 0 * t.sz + 0, none⟩) h1
  ·
   obtain ⟨j, hj⟩ := List.mem_iff_getElem?.1 hxm
   exact (hx j x hj).2
/-- The argument itself. -/
theorem row_of_arg {α : Type} {P : Program} {t : Ty α} {T e : TypeId} {ok : α → Prop} (hT : P.underlying T = some (.slice e)) (he : Reads P t e ok)
  {H : Type} {enc : TypeId × Value → H} {w : World} {r : Reach} {b0 base : Nat} {spare : Nat → Bool} {held : Bool} {v : Value} {d : DataW H} {p : List MemPlace} (hv : Value.okWide P w r b0 T v) (h : DataW.Trod enc P w base spare held T v d p) :
  ∃ xs, Row t w (fun _ => True) v xs ∧ ∀ x ∈ xs, ok x := by
 obtain ⟨a, len, cap, rfl⟩ := okWide_slice hT hv
 obtain ⟨fuel, hf⟩ := h
 obtain ⟨v', xs, hcs, hr, hok⟩ := row_of_trod hT he hf
 simp only [Value.cells] at hcs
 injection hcs with hcs
 subst hcs
 exact ⟨xs, hr, hok⟩

end Go.Proofs.YtpehmmdbjakkpaaGreat
