/- A drawn region in which a call of yield stands: the walk inside the wide fence, both orders where two steps stand open. A range over a function whose elements are told as they lie in the world of their round; a round that ends leaves what lay as it lay, or hands over by a return. (*lin.search).paths$1: the orders that begin with a path, one by one. -/
import Derived.OrdersIn
import Derived.TacticsInMore
import Derived.RangeFuncIn
import Derived.WalkMore
import Derived.Test.YtpehmmdbjakkpaaGreatLibM
import Derived.RangeFuncNested
import Derived.RangeFuncCalls
import Derived.RangeFuncLeaves
import Derived.RangeFuncBox
import Derived.Test.YtpehmmdbjakkpaaGreatLinNM
import Derived.OwnWalkIn
set_option linter.unusedSimpArgs false
set_option linter.unusedVariables false
namespace Go.Proofs.YtpehmmdbjakkpaaGreat
open Go.RowKit
def Only (K : Act → World → Prop) : Exit → Act → World → Prop := fun e a w => e = .normal ∧ K a w
theorem only_out {K : Act → World → Prop} (h : LetsOut (Only K)) : False := by
 obtain ⟨_, _, h, _⟩ := h
 cases h
section
variable {F : Fence} {n : Nat} {P : Program} {ops : Array Oper} {Q : Act → World → Prop} {a : Act} {w : World} {i j : Nat} {r u : Tr} {o o' : Oper}
theorem wpOpIn_only {K K' : Act → World → Prop} {Q' : Exit → Act → World → Prop} (ho : ops[i]? = some o) (h : wpListIn F n P ops (Only K) [o] a w) (hk : ∀ a w, K a w → K' a w) : wpOpIn F n P ops Q' i K' a w := by
 unfold wpOpIn
 rw [ho]
 simp only
 unfold wpListIn at h
 split
 ·
  rename_i hw
  rw [if_pos hw] at h
  obtain ⟨h1, h2⟩ := h
  refine ⟨h1, ?_⟩
  revert h2
  generalize (o.semAt F.round a.eval).run P w = x
  intro h2
  cases x with
  | ok x w' =>
   cases x with
   | value v => exact hk _ _ h2.2
   | skip => exact hk _ _ h2.2
   | defer d => exact hk _ _ h2.2
   | enter f args =>
    refine ⟨h2.1, h2.2.mono fun e w2 he => ?_⟩
    cases e with
    | returned v => exact hk _ _ he.2
    | panicked c => cases he.1
    | outgrown => exact (only_out he).elim
   | row f args => exact ⟨h2.1, h2.2.mono fun e w2 he => hk _ _ he.2⟩
   | round l f tmps assign body =>
    refine ⟨h2.1, h2.2.mono fun e w2 he => ?_⟩
    cases e with
    | returned v => exact hk _ _ he.2
    | panicked c => cases he.1
    | outgrown => exact (only_out he).elim
   | _ => exact h2.elim
  | halt x w' =>
   cases x with
   | panic v => cases h2.1
   | _ => exact h2.elim
 ·
  rename_i hw
  rw [if_neg hw] at h
  exact ⟨h.1, hk _ _ h.2.2⟩
def wpTrI (P : Program) (ops : Array Oper) (Q : Act → World → Prop) : Tr → Act → World → Prop
 | .nil, a, w => Q a w
 | .take i t, a, w => ∃ o v, ops[i]? = some o ∧ YieldsFenced P ops o v a ∧ wpTrI P ops Q t (a.put o.dst v) w
 | .step i t, a, w => ∃ o, ops[i]? = some o ∧ wpListIn Fence.wide 0 P ops (Only (wpTrI P ops Q t)) [o] a w
 | .two i t j u, a, w => (∃ o, ops[i]? = some o ∧ wpListIn Fence.wide 0 P ops (Only (wpTrI P ops Q t)) [o] a w) ∧ (∃ o, ops[j]? = some o ∧ wpListIn Fence.wide 0 P ops (Only (wpTrI P ops Q u)) [o] a w)
theorem trI_take {v : Value} (ho : ops[i]? = some o) (hy : YieldsFenced P ops o v a) (h : wpTrI P ops Q r (a.put o.dst v) w) : wpTrI P ops Q (.take i r) a w := ⟨o, v, ho, hy, h⟩
theorem trI_step (ho : ops[i]? = some o) (h : wpListIn Fence.wide 0 P ops (Only (wpTrI P ops Q r)) [o] a w) : wpTrI P ops Q (.step i r) a w := ⟨o, ho, h⟩
theorem trI_two (ho : ops[i]? = some o) (h : wpListIn Fence.wide 0 P ops (Only (wpTrI P ops Q r)) [o] a w) (ho' : ops[j]? = some o') (h' : wpListIn Fence.wide 0 P ops (Only (wpTrI P ops Q u)) [o'] a w) : wpTrI P ops Q (.two i r j u) a w := ⟨⟨o, ho, h⟩, ⟨o', ho', h'⟩⟩
theorem trI_on (h : wpTrI P ops Q r a w) : Only (wpTrI P ops Q r) .normal a w := ⟨rfl, h⟩
theorem trI_done (h : Q a w) : wpTrI P ops Q .nil a w := h
theorem wpAnyIn_of_tr {Q' : Exit → Act → World → Prop} (hsel : Region.noSelect ops = true) (hp : ∀ c a w, ¬ Q' (.panic c) a w) (hQ : ∀ a w, Q a w → Q' .normal a w) :
  ∀ (s : Tr) (l : Array Bool) (a : Act) (w : World), trOk ops s l = true → wpTrI P ops Q s a w → wpAnyIn Fence.wide 0 P .any ops Q' s.len l a w := by
 intro s
 induction s with
 | nil =>
  intro l a w hk h
  exact ⟨by simpa [trOk] using hk, hQ _ _ h⟩
 | take i t ih =>
  intro l a w hk h
  obtain ⟨o, v, ho, hy, hr⟩ := h
  simp only [trOk, Bool.and_eq_true] at hk
  exact wpAnyIn_take rfl ho hsel hk.1.1 hk.1.2 (fun c a w h => (hp _ _ _ h).elim) hy (ih _ _ _ hk.2 hr)
 | step i t ih =>
  intro l a w hk h
  obtain ⟨o, ho, hr⟩ := h
  simp only [trOk, Bool.and_eq_true, beq_iff_eq] at hk
  refine wpAnyIn_all hk.1 (by simp) (fun j hj => ?_)
  obtain rfl : j = i := by simpa using hj
  exact wpOpIn_only ho hr fun a' w' h2 => ih _ _ _ hk.2 h2
 | two i t j u ih ih' =>
  intro l a w hk h
  obtain ⟨⟨o, ho, hr⟩, ⟨o', ho', hr'⟩⟩ := h
  simp only [trOk, Bool.and_eq_true, beq_iff_eq] at hk
  refine wpAnyIn_all hk.1.1.1 (by simp) (fun k hj => ?_)
  have hj' : k = i ∨ k = j := by simpa using hj
  rcases hj' with rfl | rfl
  ·
   exact wpOpIn_only ho hr fun a' w' h2 => ih _ _ _ hk.1.2 h2
  ·
   have e := hk.1.1.2
   refine wpOpIn_only ho' hr' fun a' w' h2 => ?_
   have := ih' _ _ _ hk.2 h2
   rw [← e] at this
   exact this
theorem wpIn_region_tr {id : Nat} {Q' : Exit → Act → World → Prop} (s : Tr) (hm : P.follows .mixedOrders = true) (hB : trB ops s = true) (h : wpTrI P ops (fun a w => Q' .normal a w) s a w.drew) : (Code.region id ops true).wpIn Fence.wide 0 P Q' a w := by
 simp only [trB, Bool.and_eq_true, beq_iff_eq] at hB
 refine wpIn_mono (Q := fun e a w => e = .normal ∧ Q' e a w) ?_ (fun e a w h => h.2)
 refine wpIn_region_any hm ?_
 have h2 := wpAnyIn_of_tr (Q' := fun e a w => e = .normal ∧ Q' e a w) hB.1.1 (fun c a w h => by cases h.1) (fun a w h => ⟨rfl, h⟩) s _ a _ hB.2 h
 rwa [hB.1.2] at h2
end
end Go.Proofs.YtpehmmdbjakkpaaGreat
namespace Go.Proofs.YtpehmmdbjakkpaaGreat
open Go.RowKit
section
variable {P : Program} {α : Type}
def Keeps (B : Nat) (W W' : World) : Prop := W.heap.size ≤ W'.heap.size ∧ ∀ k, B ≤ k → k < W.heap.size → W'.heap[k]? = W.heap[k]?
theorem Keeps.refl (B : Nat) (W : World) : Keeps B W W := ⟨Nat.le_refl _, fun _ _ _ => rfl⟩
theorem Keeps.trans {B : Nat} {W1 W2 W3 : World} (h : Keeps B W1 W2) (h' : Keeps B W2 W3) : Keeps B W1 W3 := ⟨Nat.le_trans h.1 h'.1, fun k hb hk => (h'.2 k hb (Nat.lt_of_lt_of_le hk h.1)).trans (h.2 k hb hk)⟩
theorem Keeps.of_below {B : Nat} {W W' : World} (h : Below W.heap.size W W') : Keeps B W W' := ⟨h.size, fun k _ hk => h.block k hk⟩
theorem Keeps.mono {B B' : Nat} {W W' : World} (h : Keeps B W W') (hb : B ≤ B') : Keeps B' W W' := ⟨h.1, fun k h1 h2 => h.2 k (Nat.le_trans hb h1) h2⟩
theorem grown_of_below {W W' : World} (h : Below W.heap.size W W') : W.grownBy W' none := ⟨h.os, h.tape, h.output, h.size, fun k hk _ => h.block k hk⟩
theorem own_below {β : Type} {B : Nat} {I : β → World → Prop} (h : OwnFrom B I) {s : β} {W W' : World} (hs : I s W) (hb : Below W.heap.size W W') : I s W' :=
 h s W W' none hs (grown_of_below hb) fun r e => by cases e
def YieldOk (P : Program) (l : Nat) (V : α → Value → World → Prop) (L : List α) (J Jx : List α → World → Prop) (w : World) : Prop :=
 ∀ pre x rest v W1, L = pre ++ x :: rest → J pre W1 → V x v W1 → YieldAt Fence.wide 0 P l #[v] W1 fun e W' =>
  (e = .returned (.bool true) ∧ J (pre ++ [x]) W' ∧ Below W1.heap.size W1 W') ∨ (e = .returned (.bool false) ∧ Jx (pre ++ [x]) W' ∧ Keeps w.heap.size W1 W')
def SeqC (P : Program) (gf : Nat) (lb : Array Value) (V : α → Value → World → Prop) (L : List α) (w : World) : Prop :=
 ∀ (l : Nat) (J Jx : List α → World → Prop), OwnFrom w.heap.size J → OwnFrom w.heap.size Jx → YieldOk P l V L J Jx w → J [] w →
  Calls P gf (#[.func (.yield l) #[] #[]] ++ lb) w fun e W' => (∃ v, e = .returned v) ∧ (J L W' ∨ ∃ pre x rest, L = pre ++ x :: rest ∧ Jx (pre ++ [x]) W')
def roundEnd (I Ix : List α → World → Prop) (xs : List α) (B : Nat) (W : World) : Exit → Act → World → Prop
 | .normal, _, W' => I xs W' ∧ Below W.heap.size W W'
 | .ret, _, W' => Ix xs W' ∧ Keeps B W W'
 | _, _, _ => False
def markOf (D : Nat) : Deferred := { target := .collected D, args := #[] }
theorem range_wp {g : Operand} {ps : Array Tmp} {assign body : Code} {Q : Exit → Act → World → Prop} {a : Act} {w : World} {gf : Nat} {lb : Array Value} {V : α → Value → World → Prop} {L : List α}
  (hps : ps.size = 1) (hg : a.eval g = .func (.func gf) #[] lb) (eg : ∀ (args : Array Value) (w : World), (callFunc gf args).run P w = .ok (.enter gf args) w)
  (hseq : ∀ w1, Below w.heap.size w w1 → w1.heap.size = w.heap.size + 2 → SeqC P gf lb V L w1)
  (I Ix : List α → World → Prop) (hI : OwnFrom w.heap.size I) (hIx : OwnFrom w.heap.size Ix) (h0 : I [] w)
  (hround : ∀ pre x rest v W, L = pre ++ x :: rest → I pre W → V x v W → w.heap.size + 2 ≤ W.heap.size →
   assign.wpIn (Fence.wide.inRound (w.heap.size + 1)) 0 P (Exit.then (fun a1 W1 => Below W.heap.size W W1 ∧ ∀ V1 : World, V1.heap.size = W1.heap.size → (∀ k, k ≠ w.heap.size + 1 → V1.heap[k]? = W1.heap[k]?) → I pre V1 → body.wpIn (Fence.wide.inRound (w.heap.size + 1)) 0 P (roundEnd I Ix (pre ++ [x]) w.heap.size V1) a1 V1) (fun _ _ _ => False))
    { tmps := (ps.zip #[v]).foldl (fun t (p, v) => t.setIfInBounds p v) a.tmps, defers := [] } W)
  (hdone : ∀ W, I L W → W.heap[w.heap.size]? = some (.deferred (some [])) → Q .normal { a with defers := markOf w.heap.size :: a.defers } W)
  (hstop : ∀ pre x rest W, L = pre ++ x :: rest → Ix (pre ++ [x]) W → W.heap[w.heap.size]? = some (.deferred (some [])) → Q .ret { a with defers := markOf w.heap.size :: a.defers } W) :
  (Code.rangeFunc g ps assign body).wp P Q a w := by
 refine (wpIn_wide (n := 0)).1 (wpIn_rangeFunc ?_)
 intro fn _
 obtain ⟨rec, hrec⟩ : ∃ rec : LoopState → Option Code → Loop, rec = fun st pe => { state := st, pending := pe, fn, tmps := a.tmps, params := ps, assign, body, defers := w.heap.size } := ⟨_, rfl⟩
 obtain ⟨W1, hW1⟩ : ∃ W1, W1 = (w.alloc (.deferred (some []))).alloc (.loop (rec .ready none)) := ⟨_, rfl⟩
 have hB : Below w.heap.size w W1 := by rw [hW1]; exact ((Below.refl _ w).alloc (Nat.le_refl _) _).alloc (by simp) _
 have hz : W1.heap.size = w.heap.size + 2 := by rw [hW1]; simp
 have hL : W1.heap[w.heap.size + 1]? = some (.loop (rec .ready none)) := by
  have := World.alloc_heap_new (w.alloc (.deferred (some []))) (.loop (rec .ready none))
  rw [World.size_alloc] at this
  rw [hW1]; exact this
 have hD : W1.heap[w.heap.size]? = some (.deferred (some [])) := by rw [hW1]; exact (Below.heap_alloc _ _ _ (by simp)).trans (World.alloc_heap_new w _)
 refine ⟨w.heap.size + 1, [markOf w.heap.size], W1, { target := .fn (.func gf) lb, args := #[.func (.yield (w.heap.size + 1)) #[] #[]] }, W1, gf, #[.func (.yield (w.heap.size + 1)) #[] #[]] ++ lb, W1, ?_, ?_, fun _ _ => trivial, ?_, fun h => absurd h (by simp [Fence.wide]), ?_⟩
 ·
  rw [hW1, hrec]; exact run_enterLoop_outer _ _ _ _ _
 ·
  simp only [resolve, hg]
  simp [go_sem]
 ·
  simp [invoke, go_sem]
  exact eg _ _
 have hcells : ∀ (st : LoopState) (pe : Option Code), (Obj.loop (rec st pe)).isCells = false := fun _ _ => rfl
 refine callsIn_wide.2 ((hseq W1 hB hz (w.heap.size + 1)
  (fun pre W => I pre W ∧ W.heap[w.heap.size + 1]? = some (.loop (rec .ready none)) ∧ W.heap[w.heap.size]? = some (.deferred (some [])))
  (fun pre W => Ix pre W ∧ W.heap[w.heap.size + 1]? = some (.loop (rec .done (some .ret))) ∧ W.heap[w.heap.size]? = some (.deferred (some []))) ?_ ?_ ?_ ⟨own_below hI h0 hB, hL, hD⟩).mono ?_)
 ·
  rintro s W W' row ⟨h1, h2, h3⟩ hg2 hr
  have hne : ∀ k, k < W1.heap.size → some k ≠ row := fun k hk e => by have := (hr k e.symm).1; omega
  exact ⟨hI _ _ _ row h1 hg2 fun r e => ⟨by have := (hr r e).1; omega, (hr r e).2⟩, (hg2.block _ (Array.getElem?_eq_some_iff.1 h2).1 (hne _ (by omega))).trans h2, (hg2.block _ (Array.getElem?_eq_some_iff.1 h3).1 (hne _ (by omega))).trans h3⟩
 ·
  rintro s W W' row ⟨h1, h2, h3⟩ hg2 hr
  have hne : ∀ k, k < W1.heap.size → some k ≠ row := fun k hk e => by have := (hr k e.symm).1; omega
  exact ⟨hIx _ _ _ row h1 hg2 fun r e => ⟨by have := (hr r e).1; omega, (hr r e).2⟩, (hg2.block _ (Array.getElem?_eq_some_iff.1 h2).1 (hne _ (by omega))).trans h2, (hg2.block _ (Array.getElem?_eq_some_iff.1 h3).1 (hne _ (by omega))).trans h3⟩
 ·
  -- one round
  rintro pre x rest v W hLx ⟨hi, hl, hd⟩ hv
  have hlt : w.heap.size + 1 < W.heap.size := (Array.getElem?_eq_some_iff.1 hl).1
  have hy := run_yield (P := P) (args := #[v]) hl (by rw [hrec]; simpa using hps.symm)
  rw [show (rec .ready none).fn = fn by rw [hrec], show (rec .ready none).params = ps by rw [hrec], show (rec .ready none).tmps = a.tmps by rw [hrec], show (rec .ready none).assign = assign by rw [hrec], show (rec .ready none).body = body by rw [hrec]] at hy
  refine ⟨_, _, _, _, hy, ?_⟩
  refine roundIn_of_wpIn trivial (wpIn_mono (hround pre x rest v W hLx hi hv hlt) ?_)
  rintro e a1 W2 hq
  cases e with
  | normal =>
   obtain ⟨hb, hbody⟩ := hq
   have hl2 : W2.heap[w.heap.size + 1]? = some (.loop (rec .ready none)) := (hb.block _ hlt).trans hl
   have hlt2 : w.heap.size + 1 < W2.heap.size := (Array.getElem?_eq_some_iff.1 hl2).1
   have hd2 : W2.heap[w.heap.size]? = some (.deferred (some [])) := (hb.block _ (by omega)).trans hd
   have hbr := run_beginRound (P := P) hl2 (by rw [hrec])
   refine ⟨_, hbr, ?_⟩
   have hbs : ({ rec .ready none with state := .busy } : Loop) = rec .busy none := by rw [hrec]
   rw [hbs]
   have hi2 : I pre (W2.putObj (w.heap.size + 1) (.loop (rec .busy none))) := hI.putObj _ (own_below hI hi hb) (by omega) hl2 rfl
   have hl3 : (W2.putObj (w.heap.size + 1) (.loop (rec .busy none))).heap[w.heap.size + 1]? = some (.loop (rec .busy none)) := World.putObj_heap_same hlt2
   have hd3 : (W2.putObj (w.heap.size + 1) (.loop (rec .busy none))).heap[w.heap.size]? = some (.deferred (some [])) := (World.putObj_heap_other (by omega)).trans hd2
   refine wpIn_mono (hbody (W2.putObj (w.heap.size + 1) (.loop (rec .busy none))) (by simp) (fun k hk => World.putObj_heap_other hk) hi2) ?_
   rintro e a3 W3 hq
   cases e with
   | normal =>
    obtain ⟨hi3, hb3⟩ := hq
    have hl4 : W3.heap[w.heap.size + 1]? = some (.loop (rec .busy none)) := (hb3.block _ (by simpa using hlt2)).trans hl3
    have hd4 : W3.heap[w.heap.size]? = some (.deferred (some [])) := (hb3.block _ (by simp; omega)).trans hd3
    have hlt4 : w.heap.size + 1 < W3.heap.size := (Array.getElem?_eq_some_iff.1 hl4).1
    have hr := run_endRound (P := P) none hl4
    have hrr : ({ rec .busy none with state := if (none : Option Code).isNone = true then .ready else .done, pending := none } : Loop) = rec .ready none := by rw [hrec]; rfl
    rw [hrr] at hr
    refine ⟨_, _, hr, .inl ⟨rfl, ⟨hI.putObj _ hi3 (by omega) hl4 rfl, World.putObj_heap_same hlt4, (World.putObj_heap_other (by omega)).trans hd4⟩, ⟨?_, ?_, ?_, ?_, ?_⟩⟩⟩
    ·
     exact hb3.os.trans hb.os
    ·
     exact hb3.tape.trans hb.tape
    ·
     exact hb3.output.trans hb.output
    ·
     have h1 := hb.size
     have h2 := hb3.size
     simp at h2 ⊢
     omega
    ·
     intro k hk
     have h1 := hb.size
     by_cases e : k = w.heap.size + 1
     ·
      subst e
      exact (World.putObj_heap_same hlt4).trans hl.symm
     ·
      exact ((World.putObj_heap_other e).trans (hb3.block k (by simp; omega))).trans ((World.putObj_heap_other e).trans (hb.block k hk))
   | ret =>
    obtain ⟨hi3, hk3⟩ := hq
    have hl4 : W3.heap[w.heap.size + 1]? = some (.loop (rec .busy none)) := (hk3.2 _ (by omega) (by simpa using hlt2)).trans hl3
    have hd4 : W3.heap[w.heap.size]? = some (.deferred (some [])) := (hk3.2 _ (by omega) (by simp; omega)).trans hd3
    have hlt4 : w.heap.size + 1 < W3.heap.size := (Array.getElem?_eq_some_iff.1 hl4).1
    have hr := run_endRound (P := P) (some .ret) hl4
    have hrr : ({ rec .busy none with state := if (some Code.ret).isNone = true then .ready else .done, pending := some .ret } : Loop) = rec .done (some .ret) := by rw [hrec]; rfl
    rw [hrr] at hr
    refine ⟨_, _, hr, .inr ⟨rfl, ⟨hIx.putObj _ hi3 (by omega) hl4 rfl, World.putObj_heap_same hlt4, (World.putObj_heap_other (by omega)).trans hd4⟩, ?_, fun k h1 h2 => ?_⟩⟩
    ·
     have h1 := hb.size
     have h2 := hk3.1
     simp at h2 ⊢
     omega
    ·
     have h3 := hb.size
     have e : k ≠ w.heap.size + 1 := by omega
     exact ((World.putObj_heap_other e).trans (hk3.2 k (by omega) (by simp; omega))).trans ((World.putObj_heap_other e).trans (hb.block k h2))
   | _ => exact hq.elim
  | _ => exact hq.elim
 ·
  rintro e W2 ⟨⟨v, rfl⟩, ⟨hi, hl, hd⟩ | ⟨pre, x, rest, hLx, hi, hl, hd⟩⟩
  ·
   have hr := run_endLoop (P := P) hl (by rw [hrec]; simp)
   have hp : (rec .ready none).pending = none := by rw [hrec]
   rw [hp] at hr
   exact ⟨none, _, hr, hdone _ (hI.putObj _ hi (by omega) hl rfl) ((World.putObj_heap_other (by omega)).trans hd)⟩
  ·
   have hr := run_endLoop (P := P) hl (by rw [hrec]; simp)
   have hp : (rec .done (some .ret)).pending = some .ret := by rw [hrec]
   rw [hp] at hr
   exact ⟨some .ret, _, hr, wpIn_ret (hstop pre x rest _ hLx (hIx.putObj _ hi (by omega) hl rfl) ((World.putObj_heap_other (by omega)).trans hd))⟩
theorem leaves_marks {B : Nat} {fn : Func} {tmps : Array Value} {R : Ending → World → Prop} {J : Unit → World → Prop} (hJ : OwnFrom B J) (hR : ∀ W, J () W → ∃ v, (results fn tmps).run P W = .ok v W ∧ R (.returned v) W) :
  ∀ (ds : List Nat) (W : World), ds.Nodup → (∀ D ∈ ds, B ≤ D ∧ W.heap[D]? = some (.deferred (some []))) → J () W → LeavesInM Fence.wide 0 P fn tmps R (ds.map markOf) .returning W := by
 intro ds
 induction ds with
 | nil =>
  intro W _ _ h
  exact hR W h
 | cons D ds ih =>
  intro W hn hd h
  obtain ⟨hb, hD⟩ := hd D (List.mem_cons_self ..)
  obtain ⟨hn1, hn2⟩ := List.nodup_cons.1 hn
  refine ⟨by simp, .inl ⟨D, _, rfl, run_takeDeferred hD, ih _ hn2 (fun D' hD' => ?_) (hJ.putObj _ h hb hD rfl)⟩⟩
  obtain ⟨h1, h2⟩ := hd D' (List.mem_cons_of_mem _ hD')
  exact ⟨h1, (World.putObj_heap_other (by rintro rfl; exact hn1 hD')).trans h2⟩
end
end Go.Proofs.YtpehmmdbjakkpaaGreat
namespace Go.Proofs.YtpehmmdbjakkpaaGreat
open Go.RowKit Go.Shelf
attribute [local go_sem] Oper.semAt_some
structure ItAt (w : World) (sd : SD) (p : PathD) (C : Nat → Prop) (bS b1 b2 : Nat) (A : Option Addr) (cO : Nat) (A1 : Option Addr) (n1 k1 : Nat) (A2 : Option Addr) (n2 k2 : Nat) : Prop where
 s : SAt w (fun _ => True) bS sd
 p1 : B1 w b1 (.pointer (some ⟨bS, 0, none⟩))
 p2 : Box6 w b2 (.slice A p.order.length cO) (.slice A1 n1 k1) (.slice A2 n2 k2) (.int .i64 p.g.nn) (.int .i64 p.g.ne) (.int .i64 p.many)
 ro : Row tInt w C (.slice A p.order.length cO) p.order
 gr : Gr w C p.g (.slice A1 n1 k1) (.slice A2 n2 k2)
 le : ∀ k, w.heap.size ≤ k → C k
 good : GoodP sd p
theorem ItAt.below {w w' : World} {sd : SD} {p : PathD} {C : Nat → Prop} {bS b1 b2 : Nat} {A : Option Addr} {cO : Nat} {A1 : Option Addr} {n1 k1 : Nat} {A2 : Option Addr} {n2 k2 : Nat} (h : ItAt w sd p C bS b1 b2 A cO A1 n1 k1 A2 n2 k2) (hb : Below w.heap.size w w') : ItAt w' sd p C bS b1 b2 A cO A1 n1 k1 A2 n2 k2 :=
 ⟨h.s.below hb, h.p1.below hb, h.p2.below hb, h.ro.below hb, h.gr.below hb, fun k hk => h.le k (Nat.le_trans hb.size hk), h.good⟩
theorem ItAt.path {w : World} {sd : SD} {p : PathD} {C : Nat → Prop} {bS b1 b2 : Nat} {A : Option Addr} {cO : Nat} {A1 : Option Addr} {n1 k1 : Nat} {A2 : Option Addr} {n2 k2 : Nat} (h : ItAt w sd p C bS b1 b2 A cO A1 n1 k1 A2 n2 k2) : PathIn w C p (.agg #[.slice A p.order.length cO, .slice A1 n1 k1, .slice A2 n2 k2, .int .i64 p.g.nn, .int .i64 p.g.ne, .int .i64 p.many]) := ⟨_, _, _, _, _, _, _, _, rfl, h.ro, h.gr⟩
def PathsC (w : World) (sd : SD) (L : List PathD) (C : Nat → Prop) (b1 b2 : Nat) : Prop := SeqC Tryz.prog 77 #[.pointer (some ⟨b1, 0, none⟩), .pointer (some ⟨b2, 0, none⟩)] (fun x v W => PathIn W C x v) L w
def PathsR (J Jx : List PathD → World → Prop) (L : List PathD) : Ending → World → Prop := fun e W' => (∃ v, e = .returned v) ∧ (J L W' ∨ ∃ pre x rest, L = pre ++ x :: rest ∧ Jx (pre ++ [x]) W')
theorem paths_leave {R : Ending → World → Prop} {B : Nat} {C : World → Prop} (hC : OwnFrom B (fun (_ : Unit) W => C W)) (hR : ∀ v W, C W → R (.returned v) W) (tmps : Array Value) (ds : List Nat) (W : World) (hn : ds.Nodup) (hd : ∀ D ∈ ds, B ≤ D ∧ W.heap[D]? = some (.deferred (some []))) (h : C W) : LeavesInM Fence.wide 0 Tryz.prog Tryz.f77 tmps R (ds.map markOf) .returning W :=
 leaves_marks hC (fun W h => ⟨_, results_none rfl _ _ _, hR _ W h⟩) ds W hn hd h
theorem tr_cut {P : Program} {ops : Array Oper} {Q : Act → World → Prop} {s : Tr} {a : Act} {w : World} (t : Tr) (f : Act) (C : World → Prop) (h : ∀ W, C W → wpTrI P ops Q t f W) (k : (∀ W, C W → wpTrI P ops Q t f W) → wpTrI P ops Q s a w) : wpTrI P ops Q s a w := k h
set_option maxRecDepth 100000 in
set_option maxHeartbeats 16000000 in
theorem paths1_none (w : World) (sd : SD) (p : PathD) (C : Nat → Prop) (bS b1 b2 : Nat) (A : Option Addr) (cO : Nat) (A1 : Option Addr) (n1 k1 : Nat) (A2 : Option Addr) (n2 k2 : Nat) (hcl : sd.calls.length ≤ 10) (hI : ItAt w sd p C bS b1 b2 A cO A1 n1 k1 A2 n2 k2) (hw : wholeB sd p.order p.many = false) (hm : p.many = sd.need) : PathsC w sd [] C b1 b2 := by
 intro l J Jx hJ hJx hY h0
 refine (callsIn_wide (n := 0)).1 (callsIn_of_wp_marks Tryz.func77 rfl trivial ((wpIn_wide (n := 0)).2 ?_) rfl)
 simp only [Tryz.ntmps77, List.size_toArray, List.length_cons, List.length_nil, Nat.reduceAdd, Nat.reduceSub, Array.replicate_succ, Array.replicate_zero, List.push_toArray, List.append_toArray, List.nil_append, List.cons_append]
 obtain ⟨W0, hW⟩ : ∃ W0, W0 = w.alloc (.cells #[.func (.yield l) #[] #[]] 62) := ⟨_, rfl⟩
 have hb0 : Below w.heap.size w W0 := by rw [hW]; exact (Below.refl _ w).alloc (Nat.le_refl _) _
 have s0 : w.heap.size < W0.heap.size := by rw [hW]; simp
 have Y0 := Lib.hid (show B1 W0 w.heap.size (.func (.yield l) #[] #[]) from ⟨s0, by rw [hW]; simp [go_sem]⟩)
 have I0 := Lib.hid (hI.below hb0)
 have J0 := Lib.hid (own_below hJ h0 hb0)
 have K0 := Lib.hid hb0
 have HJ := Lib.hid hJ
 have HJx := Lib.hid hJx
 have HY := Lib.hid hY
 clear hI hJ hJx hY h0 hb0
 have HW := Lib.hid hw
 have HM := Lib.hid hm
 clear hw hm
 have e1 := I0.out.p1.c
 have l1 := I0.out.p1.lt
 have e3 := Y0.out.c
 have l3 := Y0.out.lt
 have l2 := I0.out.p2.lt
 have lS := I0.out.s.lt
 have nS := I0.out.s.need
 obtain ⟨p0, p1, p2, p3, p4, p5⟩ : _ ∧ _ ∧ _ ∧ _ ∧ _ ∧ _ := ⟨I0.out.p2.c0, I0.out.p2.c1, I0.out.p2.c2, I0.out.p2.c3, I0.out.p2.c4, I0.out.p2.c5⟩
 go_wp2_with fail
 rw [← hW]
 clear hW
 go_step3
 go_wp2_with fail
 refine wp_region_schedK (fun _ => True) [(0, true), (1, true), (2, false), (3, true), (4, true), (5, true), (6, false), (7, true), (8, true), (9, true), (10, true), (11, true), (12, true), (13, true), (14, true), (15, true), (16, true), (17, true)] (by kernel_rfl) (by kernel_rfl) (fun hS => ?_)
 have HK := Lib.hid hS
 clear hS
 have KD := Lib.hid (Below.refl W0.heap.size W0).drew
 revert HK KD
 generalize W0.drew = Wd
 intro HK KD
 repeat (refine sched_take (v := ?_) (by simp only [opT, opS, opZ]; rfl) (Or.inl ⟨by rfl, fun W hW => ?_⟩) HK.out ?_; rotate_left; (have hc := fun b o hb => hW.cell b o trivial hb; clear hW; go_simp; with_reducible rfl); simp only [Act.put, putT, putZ, putS])
 refine sched_step (by simp only [opT, opS, opZ]; rfl) ?_
 go_wp2_with fail
 have hg := I0.out.good
 refine (whole_calls Wd _ sd bS p.order A cO A1 n1 k1 A2 n2 k2 _ _ _ (I0.out.s.below KD.out) ((I0.out.ro.below KD.out).mono fun _ _ _ => trivial) hg.inr (by have := hg.len; omega)).mono ?_
 rintro e w1 ⟨rfl, hb⟩
 rw [HW.out]
 have HK1 := Lib.hid (HK.out.below hb)
 have K1 := Lib.hid (KD.out.trans (hb.mono KD.out.size))
 clear hb HK KD
 have hmm : (p.many == sd.need) = true := by simp [HM.out]
 go_wp2_with fail
 refine sched_on HK1.out ?_
 repeat (first | (refine sched_take (v := ?_) (by simp only [opT, opS, opZ]; rfl) (Or.inl ⟨by rfl, fun W hW => ?_⟩) HK1.out ?_; rotate_left; (have hc := fun b o hb => hW.cell b o trivial hb; clear hW; go_simp; with_reducible rfl); simp only [Act.put, putT, putZ, putS]) | (refine sched_take (by simp only [opT, opS, opZ]; rfl) (Or.inr ⟨by rfl, rfl⟩) HK1.out ?_; simp only [Act.put, putT, putZ, putS]))
 refine sched_step (by simp only [opT, opS, opZ]; rfl) ?_
 go_wp2_with fail
 refine sched_on HK1.out ?_
 repeat (first | (refine sched_take (v := ?_) (by simp only [opT, opS, opZ]; rfl) (Or.inl ⟨by rfl, fun W hW => ?_⟩) HK1.out ?_; rotate_left; (have hc := fun b o hb => hW.cell b o trivial hb; clear hW; go_simp; with_reducible rfl); simp only [Act.put, putT, putZ, putS]) | (refine sched_take (by simp only [opT, opS, opZ]; rfl) (Or.inr ⟨by rfl, rfl⟩) HK1.out ?_; simp only [Act.put, putT, putZ, putS]))
 refine sched_done ?_
 have J1 := Lib.hid (own_below HJ.out J0.out K1.out)
 go_wp2
 exact paths_leave (R := PathsR J Jx []) (B := w.heap.size) (C := fun W => J [] W) (fun _ W W' row hs hg hr => HJ.out [] W W' row hs hg hr) (fun v W h => ⟨⟨v, rfl⟩, .inl h⟩) _ [] w1 List.nodup_nil (by simp) J1.out
set_option maxRecDepth 100000 in
set_option maxHeartbeats 16000000 in
theorem paths1_whole (w : World) (sd : SD) (p : PathD) (C : Nat → Prop) (bS b1 b2 : Nat) (A : Option Addr) (cO : Nat) (A1 : Option Addr) (n1 k1 : Nat) (A2 : Option Addr) (n2 k2 : Nat) (hcl : sd.calls.length ≤ 10) (hI : ItAt w sd p C bS b1 b2 A cO A1 n1 k1 A2 n2 k2) (hw : wholeB sd p.order p.many = true) (hm : p.many = sd.need) : PathsC w sd [p] C b1 b2 := by
 intro l J Jx hJ hJx hY h0
 refine (callsIn_wide (n := 0)).1 (callsIn_of_wp_marks Tryz.func77 rfl trivial ((wpIn_wide (n := 0)).2 ?_) rfl)
 simp only [Tryz.ntmps77, List.size_toArray, List.length_cons, List.length_nil, Nat.reduceAdd, Nat.reduceSub, Array.replicate_succ, Array.replicate_zero, List.push_toArray, List.append_toArray, List.nil_append, List.cons_append]
 obtain ⟨W0, hW⟩ : ∃ W0, W0 = w.alloc (.cells #[.func (.yield l) #[] #[]] 62) := ⟨_, rfl⟩
 have hb0 : Below w.heap.size w W0 := by rw [hW]; exact (Below.refl _ w).alloc (Nat.le_refl _) _
 have s0 : w.heap.size < W0.heap.size := by rw [hW]; simp
 have Y0 := Lib.hid (show B1 W0 w.heap.size (.func (.yield l) #[] #[]) from ⟨s0, by rw [hW]; simp [go_sem]⟩)
 have I0 := Lib.hid (hI.below hb0)
 have J0 := Lib.hid (own_below hJ h0 hb0)
 have K0 := Lib.hid hb0
 have HJ := Lib.hid hJ
 have HJx := Lib.hid hJx
 have HY := Lib.hid hY
 clear hI hJ hJx hY h0 hb0
 have HW := Lib.hid hw
 have HM := Lib.hid hm
 clear hw hm
 have e1 := I0.out.p1.c
 have l1 := I0.out.p1.lt
 have e3 := Y0.out.c
 have l3 := Y0.out.lt
 have l2 := I0.out.p2.lt
 have lS := I0.out.s.lt
 have nS := I0.out.s.need
 obtain ⟨p0, p1, p2, p3, p4, p5⟩ : _ ∧ _ ∧ _ ∧ _ ∧ _ ∧ _ := ⟨I0.out.p2.c0, I0.out.p2.c1, I0.out.p2.c2, I0.out.p2.c3, I0.out.p2.c4, I0.out.p2.c5⟩
 go_wp2_with fail
 rw [← hW]
 clear hW
 go_step3
 go_wp2_with fail
 refine (wpIn_wide (n := 0)).1 (wpIn_region_tr (.two 0 (.step 1 (.step 2 (.take 3 (.two 4 (.step 5 (.step 6 (.take 7 (.take 8 (.take 9 (.take 10 (.two 11 (.step 12 (.take 13 (.take 14 (.step 15 (.take 16 (.take 17 .nil)))))) 12 (.take 13 (.take 14 (.two 11 (.step 15 (.take 16 (.take 17 .nil))) 15 (.step 11 (.take 16 (.take 17 .nil))))))))))))) 5 (.step 4 (.step 6 (.take 7 (.take 8 (.take 9 (.take 10 (.two 11 (.step 12 (.take 13 (.take 14 (.step 15 (.take 16 (.take 17 .nil)))))) 12 (.take 13 (.take 14 (.two 11 (.step 15 (.take 16 (.take 17 .nil))) 15 (.step 11 (.take 16 (.take 17 .nil))))))))))))))))) 1 (.step 0 (.step 2 (.take 3 (.two 4 (.step 5 (.step 6 (.take 7 (.take 8 (.take 9 (.take 10 (.two 11 (.step 12 (.take 13 (.take 14 (.step 15 (.take 16 (.take 17 .nil)))))) 12 (.take 13 (.take 14 (.two 11 (.step 15 (.take 16 (.take 17 .nil))) 15 (.step 11 (.take 16 (.take 17 .nil))))))))))))) 5 (.step 4 (.step 6 (.take 7 (.take 8 (.take 9 (.take 10 (.two 11 (.step 12 (.take 13 (.take 14 (.step 15 (.take 16 (.take 17 .nil)))))) 12 (.take 13 (.take 14 (.two 11 (.step 15 (.take 16 (.take 17 .nil))) 15 (.step 11 (.take 16 (.take 17 .nil)))))))))))))))))) (by kernel_rfl) (by kernel_rfl) ?_)
 have KD := Lib.hid (Below.refl W0.heap.size W0).drew
 revert KD
 generalize W0.drew = Wd
 intro KD
 clear e1 l1 e3 l3 l2 lS nS p0 p1 p2 p3 p4 p5
 refine tr_cut (.step 6 (.take 7 (.take 8 (.take 9 (.take 10 (.two 11 (.step 12 (.take 13 (.take 14 (.step 15 (.take 16 (.take 17 .nil)))))) 12 (.take 13 (.take 14 (.two 11 (.step 15 (.take 16 (.take 17 .nil))) 15 (.step 11 (.take 16 (.take 17 .nil)))))))))))) ({ tmps := #[.func (.yield l) #[] #[], .pointer (some ⟨b1, 0, none⟩), .pointer (some ⟨b2, 0, none⟩), .pointer (some ⟨w.heap.size, 0, none⟩), undef, undef, undef, undef, .pointer (some ⟨bS, 0, none⟩), .agg #[.slice A p.order.length cO, .slice A1 n1 k1, .slice A2 n2 k2, .int .i64 p.g.nn, .int .i64 p.g.ne, .int .i64 p.many], .bool true, .bool true, .func (.yield l) #[] #[], .agg #[.slice A p.order.length cO, .slice A1 n1 k1, .slice A2 n2 k2, .int .i64 p.g.nn, .int .i64 p.g.ne, .int .i64 p.many], undef, undef, undef, undef, undef, undef, undef, undef, undef, undef, undef, undef, undef, undef, undef, undef, undef, undef, undef, undef, undef, undef, undef, undef, undef, undef, undef, undef, undef, undef, undef, undef, undef, undef, undef, undef, undef, undef], defers := [] } : Act) (fun W => ItAt W sd p C bS b1 b2 A cO A1 n1 k1 A2 n2 k2 ∧ B1 W w.heap.size (.func (.yield l) #[] #[]) ∧ J [] W ∧ w.heap.size ≤ W.heap.size) ?h6 (fun H6 => ?_)
 case h6 =>
  rintro W ⟨i1, i2, i3, i4⟩
  obtain ⟨fn, tm, asg, bd, hy, hR⟩ := HY.out [] p [] _ W rfl i3 i1.path
  have I1 := Lib.hid i1
  have HR := Lib.hid hR
  clear hR i1 i2 i3
  refine trI_step (by simp only [opT, opS, opZ]; rfl) ?_
  gi_wp2_with fail
  refine ⟨rfl, HR.out.mono ?_⟩
  rintro e V (⟨rfl, hj, hb⟩ | ⟨rfl, hj, hk⟩)
  ·
   have I2 := Lib.hid (I1.out.below hb)
   have J2 := Lib.hid hj
   clear HR hj hb hy I1
   have e1 := I2.out.p1.c
   have l1 := I2.out.p1.lt
   have l2 := I2.out.p2.lt
   have lS := I2.out.s.lt
   have nS := I2.out.s.need
   obtain ⟨p0, p1, p2, p3, p4, p5⟩ : _ ∧ _ ∧ _ ∧ _ ∧ _ ∧ _ := ⟨I2.out.p2.c0, I2.out.p2.c1, I2.out.p2.c2, I2.out.p2.c3, I2.out.p2.c4, I2.out.p2.c5⟩
   have hmm : (p.many == sd.need) = true := by simp [HM.out]
   gi_wp2_with fail
   refine trI_on ?_
   repeat (first | (refine trI_take (v := ?_) (by simp only [opT, opS, opZ]; rfl) ⟨Or.inl ⟨by rfl, fun W => ?_⟩, fun W => by first | rfl | simp [Oper.about]⟩ ?_; rotate_left; (go_simp; with_reducible rfl); simp only [Act.put, putT, putZ, putS]) | (refine trI_take (by simp only [opT, opS, opZ]; rfl) ⟨Or.inr ⟨by rfl, rfl⟩, fun W => by first | rfl | simp [Oper.about]⟩ ?_; simp only [Act.put, putT, putZ, putS]))
   refine trI_two (by simp only [opT, opS, opZ]; rfl) ?_ (by simp only [opT, opS, opZ]; rfl) (Hid.out ?_)
   ·
    skip
    gi_wp2_with fail
    refine trI_on ?_
    refine trI_step (by simp only [opT, opS, opZ]; rfl) ?_
    gi_wp2_with fail
    refine trI_on ?_
    repeat (first | (refine trI_take (v := ?_) (by simp only [opT, opS, opZ]; rfl) ⟨Or.inl ⟨by rfl, fun W => ?_⟩, fun W => by first | rfl | simp [Oper.about]⟩ ?_; rotate_left; (go_simp; with_reducible rfl); simp only [Act.put, putT, putZ, putS]) | (refine trI_take (by simp only [opT, opS, opZ]; rfl) ⟨Or.inr ⟨by rfl, rfl⟩, fun W => by first | rfl | simp [Oper.about]⟩ ?_; simp only [Act.put, putT, putZ, putS]))
    refine trI_step (by simp only [opT, opS, opZ]; rfl) ?_
    gi_wp2_with fail
    refine trI_on ?_
    repeat (first | (refine trI_take (v := ?_) (by simp only [opT, opS, opZ]; rfl) ⟨Or.inl ⟨by rfl, fun W => ?_⟩, fun W => by first | rfl | simp [Oper.about]⟩ ?_; rotate_left; (go_simp; with_reducible rfl); simp only [Act.put, putT, putZ, putS]) | (refine trI_take (by simp only [opT, opS, opZ]; rfl) ⟨Or.inr ⟨by rfl, rfl⟩, fun W => by first | rfl | simp [Oper.about]⟩ ?_; simp only [Act.put, putT, putZ, putS]))
    refine trI_done ?_
    go_wp2
    exact paths_leave (R := PathsR J Jx [p]) (B := w.heap.size) (C := fun W => J [p] W) (fun _ W W' row hs hg hr => HJ.out [p] W W' row hs hg hr) (fun v W h => ⟨⟨v, rfl⟩, .inl h⟩) _ [] V List.nodup_nil (by simp) J2.out
   ·
    refine Lib.hid ?_
    gi_wp2_with fail
    refine trI_on ?_
    repeat (first | (refine trI_take (v := ?_) (by simp only [opT, opS, opZ]; rfl) ⟨Or.inl ⟨by rfl, fun W => ?_⟩, fun W => by first | rfl | simp [Oper.about]⟩ ?_; rotate_left; (go_simp; with_reducible rfl); simp only [Act.put, putT, putZ, putS]) | (refine trI_take (by simp only [opT, opS, opZ]; rfl) ⟨Or.inr ⟨by rfl, rfl⟩, fun W => by first | rfl | simp [Oper.about]⟩ ?_; simp only [Act.put, putT, putZ, putS]))
    refine trI_two (by simp only [opT, opS, opZ]; rfl) ?_ (by simp only [opT, opS, opZ]; rfl) (Hid.out ?_)
    ·
     skip
     gi_wp2_with fail
     refine trI_on ?_
     refine trI_step (by simp only [opT, opS, opZ]; rfl) ?_
     gi_wp2_with fail
     refine trI_on ?_
     repeat (first | (refine trI_take (v := ?_) (by simp only [opT, opS, opZ]; rfl) ⟨Or.inl ⟨by rfl, fun W => ?_⟩, fun W => by first | rfl | simp [Oper.about]⟩ ?_; rotate_left; (go_simp; with_reducible rfl); simp only [Act.put, putT, putZ, putS]) | (refine trI_take (by simp only [opT, opS, opZ]; rfl) ⟨Or.inr ⟨by rfl, rfl⟩, fun W => by first | rfl | simp [Oper.about]⟩ ?_; simp only [Act.put, putT, putZ, putS]))
     refine trI_done ?_
     go_wp2
     exact paths_leave (R := PathsR J Jx [p]) (B := w.heap.size) (C := fun W => J [p] W) (fun _ W W' row hs hg hr => HJ.out [p] W W' row hs hg hr) (fun v W h => ⟨⟨v, rfl⟩, .inl h⟩) _ [] V List.nodup_nil (by simp) J2.out
    ·
     refine Lib.hid ?_
     gi_wp2_with fail
     refine trI_on ?_
     refine trI_step (by simp only [opT, opS, opZ]; rfl) ?_
     gi_wp2_with fail
     refine trI_on ?_
     repeat (first | (refine trI_take (v := ?_) (by simp only [opT, opS, opZ]; rfl) ⟨Or.inl ⟨by rfl, fun W => ?_⟩, fun W => by first | rfl | simp [Oper.about]⟩ ?_; rotate_left; (go_simp; with_reducible rfl); simp only [Act.put, putT, putZ, putS]) | (refine trI_take (by simp only [opT, opS, opZ]; rfl) ⟨Or.inr ⟨by rfl, rfl⟩, fun W => by first | rfl | simp [Oper.about]⟩ ?_; simp only [Act.put, putT, putZ, putS]))
     refine trI_done ?_
     go_wp2
     exact paths_leave (R := PathsR J Jx [p]) (B := w.heap.size) (C := fun W => J [p] W) (fun _ W W' row hs hg hr => HJ.out [p] W W' row hs hg hr) (fun v W h => ⟨⟨v, rfl⟩, .inl h⟩) _ [] V List.nodup_nil (by simp) J2.out
  ·
   have J2 := Lib.hid hj
   clear HR hj hk hy I1
   gi_wp2_with fail
   refine trI_on ?_
   repeat (first | (refine trI_take (v := ?_) (by simp only [opT, opS, opZ]; rfl) ⟨Or.inl ⟨by rfl, fun W => ?_⟩, fun W => by first | rfl | simp [Oper.about]⟩ ?_; rotate_left; (go_simp; with_reducible rfl); simp only [Act.put, putT, putZ, putS]) | (refine trI_take (by simp only [opT, opS, opZ]; rfl) ⟨Or.inr ⟨by rfl, rfl⟩, fun W => by first | rfl | simp [Oper.about]⟩ ?_; simp only [Act.put, putT, putZ, putS]))
   refine trI_two (by simp only [opT, opS, opZ]; rfl) ?_ (by simp only [opT, opS, opZ]; rfl) (Hid.out ?_)
   ·
    skip
    gi_wp2_with fail
    refine trI_on ?_
    refine trI_step (by simp only [opT, opS, opZ]; rfl) ?_
    gi_wp2_with fail
    refine trI_on ?_
    repeat (first | (refine trI_take (v := ?_) (by simp only [opT, opS, opZ]; rfl) ⟨Or.inl ⟨by rfl, fun W => ?_⟩, fun W => by first | rfl | simp [Oper.about]⟩ ?_; rotate_left; (go_simp; with_reducible rfl); simp only [Act.put, putT, putZ, putS]) | (refine trI_take (by simp only [opT, opS, opZ]; rfl) ⟨Or.inr ⟨by rfl, rfl⟩, fun W => by first | rfl | simp [Oper.about]⟩ ?_; simp only [Act.put, putT, putZ, putS]))
    refine trI_step (by simp only [opT, opS, opZ]; rfl) ?_
    gi_wp2_with fail
    refine trI_on ?_
    repeat (first | (refine trI_take (v := ?_) (by simp only [opT, opS, opZ]; rfl) ⟨Or.inl ⟨by rfl, fun W => ?_⟩, fun W => by first | rfl | simp [Oper.about]⟩ ?_; rotate_left; (go_simp; with_reducible rfl); simp only [Act.put, putT, putZ, putS]) | (refine trI_take (by simp only [opT, opS, opZ]; rfl) ⟨Or.inr ⟨by rfl, rfl⟩, fun W => by first | rfl | simp [Oper.about]⟩ ?_; simp only [Act.put, putT, putZ, putS]))
    refine trI_done ?_
    go_wp2
    exact paths_leave (R := PathsR J Jx [p]) (B := w.heap.size) (C := fun W => Jx [p] W) (fun _ W W' row hs hg hr => HJx.out [p] W W' row hs hg hr) (fun v W h => ⟨⟨v, rfl⟩, .inr ⟨[], p, [], rfl, h⟩⟩) _ [] V List.nodup_nil (by simp) J2.out
   ·
    refine Lib.hid ?_
    gi_wp2_with fail
    refine trI_on ?_
    repeat (first | (refine trI_take (v := ?_) (by simp only [opT, opS, opZ]; rfl) ⟨Or.inl ⟨by rfl, fun W => ?_⟩, fun W => by first | rfl | simp [Oper.about]⟩ ?_; rotate_left; (go_simp; with_reducible rfl); simp only [Act.put, putT, putZ, putS]) | (refine trI_take (by simp only [opT, opS, opZ]; rfl) ⟨Or.inr ⟨by rfl, rfl⟩, fun W => by first | rfl | simp [Oper.about]⟩ ?_; simp only [Act.put, putT, putZ, putS]))
    refine trI_two (by simp only [opT, opS, opZ]; rfl) ?_ (by simp only [opT, opS, opZ]; rfl) (Hid.out ?_)
    ·
     skip
     gi_wp2_with fail
     refine trI_on ?_
     refine trI_step (by simp only [opT, opS, opZ]; rfl) ?_
     gi_wp2_with fail
     refine trI_on ?_
     repeat (first | (refine trI_take (v := ?_) (by simp only [opT, opS, opZ]; rfl) ⟨Or.inl ⟨by rfl, fun W => ?_⟩, fun W => by first | rfl | simp [Oper.about]⟩ ?_; rotate_left; (go_simp; with_reducible rfl); simp only [Act.put, putT, putZ, putS]) | (refine trI_take (by simp only [opT, opS, opZ]; rfl) ⟨Or.inr ⟨by rfl, rfl⟩, fun W => by first | rfl | simp [Oper.about]⟩ ?_; simp only [Act.put, putT, putZ, putS]))
     refine trI_done ?_
     go_wp2
     exact paths_leave (R := PathsR J Jx [p]) (B := w.heap.size) (C := fun W => Jx [p] W) (fun _ W W' row hs hg hr => HJx.out [p] W W' row hs hg hr) (fun v W h => ⟨⟨v, rfl⟩, .inr ⟨[], p, [], rfl, h⟩⟩) _ [] V List.nodup_nil (by simp) J2.out
    ·
     refine Lib.hid ?_
     gi_wp2_with fail
     refine trI_on ?_
     refine trI_step (by simp only [opT, opS, opZ]; rfl) ?_
     gi_wp2_with fail
     refine trI_on ?_
     repeat (first | (refine trI_take (v := ?_) (by simp only [opT, opS, opZ]; rfl) ⟨Or.inl ⟨by rfl, fun W => ?_⟩, fun W => by first | rfl | simp [Oper.about]⟩ ?_; rotate_left; (go_simp; with_reducible rfl); simp only [Act.put, putT, putZ, putS]) | (refine trI_take (by simp only [opT, opS, opZ]; rfl) ⟨Or.inr ⟨by rfl, rfl⟩, fun W => by first | rfl | simp [Oper.about]⟩ ?_; simp only [Act.put, putT, putZ, putS]))
     refine trI_done ?_
     go_wp2
     exact paths_leave (R := PathsR J Jx [p]) (B := w.heap.size) (C := fun W => Jx [p] W) (fun _ W W' row hs hg hr => HJx.out [p] W W' row hs hg hr) (fun v W h => ⟨⟨v, rfl⟩, .inr ⟨[], p, [], rfl, h⟩⟩) _ [] V List.nodup_nil (by simp) J2.out
 have I1 := Lib.hid (I0.out.below KD.out)
 have Y1 := Lib.hid (Y0.out.below KD.out)
 have J1 := Lib.hid (own_below HJ.out J0.out KD.out)
 have s1 := KD.out.size
 have h6 := Lib.hid H6
 clear H6 I0 Y0 J0
 have e1 := I1.out.p1.c
 have l1 := I1.out.p1.lt
 have l2 := I1.out.p2.lt
 have e3 := Y1.out.c
 have l3 := Y1.out.lt
 obtain ⟨p0, p1, p2, p3, p4, p5⟩ : _ ∧ _ ∧ _ ∧ _ ∧ _ ∧ _ := ⟨I1.out.p2.c0, I1.out.p2.c1, I1.out.p2.c2, I1.out.p2.c3, I1.out.p2.c4, I1.out.p2.c5⟩
 refine trI_two (by simp only [opT, opS, opZ]; rfl) ?_ (by simp only [opT, opS, opZ]; rfl) (Hid.out ?_)
 ·
  skip
  gi_wp2_with fail
  refine trI_on ?_
  refine trI_step (by simp only [opT, opS, opZ]; rfl) ?_
  gi_wp2_with fail
  refine trI_on ?_
  refine trI_step (by simp only [opT, opS, opZ]; rfl) ?_
  gi_wp2_with fail
  have hg := I1.out.good
  refine ⟨trivial, rfl, (callsIn_wide.2 (whole_calls Wd _ sd bS p.order A cO A1 n1 k1 A2 n2 k2 _ _ _ I1.out.s (I1.out.ro.mono fun _ _ _ => trivial) hg.inr (by have := hg.len; omega))).mono ?_⟩
  rintro e w1 ⟨rfl, hb⟩
  rw [HW.out]
  have I2 := Lib.hid (I1.out.below hb)
  have Y2 := Lib.hid (Y1.out.below hb)
  have J2 := Lib.hid (own_below HJ.out J1.out hb)
  have s2 := hb.size
  clear hb e1 l1 e3 l3 l2 p0 p1 p2 p3 p4 p5 I1 Y1 J1
  have l2 := I2.out.p2.lt
  have e3 := Y2.out.c
  have l3 := Y2.out.lt
  obtain ⟨p0, p1, p2, p3, p4, p5⟩ : _ ∧ _ ∧ _ ∧ _ ∧ _ ∧ _ := ⟨I2.out.p2.c0, I2.out.p2.c1, I2.out.p2.c2, I2.out.p2.c3, I2.out.p2.c4, I2.out.p2.c5⟩
  gi_wp2_with fail
  refine trI_on ?_
  repeat (first | (refine trI_take (v := ?_) (by simp only [opT, opS, opZ]; rfl) ⟨Or.inl ⟨by rfl, fun W => ?_⟩, fun W => by first | rfl | simp [Oper.about]⟩ ?_; rotate_left; (go_simp; with_reducible rfl); simp only [Act.put, putT, putZ, putS]) | (refine trI_take (by simp only [opT, opS, opZ]; rfl) ⟨Or.inr ⟨by rfl, rfl⟩, fun W => by first | rfl | simp [Oper.about]⟩ ?_; simp only [Act.put, putT, putZ, putS]))
  refine trI_two (by simp only [opT, opS, opZ]; rfl) ?_ (by simp only [opT, opS, opZ]; rfl) (Hid.out ?_)
  ·
   skip
   gi_wp2_with fail
   refine trI_on ?_
   refine trI_step (by simp only [opT, opS, opZ]; rfl) ?_
   gi_wp2_with fail
   refine trI_on ?_
   exact h6.out _ ⟨I2.out, Y2.out, J2.out, by omega⟩
  ·
   refine Lib.hid ?_
   gi_wp2_with fail
   refine trI_on ?_
   refine trI_step (by simp only [opT, opS, opZ]; rfl) ?_
   gi_wp2_with fail
   refine trI_on ?_
   exact h6.out _ ⟨I2.out, Y2.out, J2.out, by omega⟩
 ·
  refine Lib.hid ?_
  gi_wp2_with fail
  refine trI_on ?_
  refine trI_step (by simp only [opT, opS, opZ]; rfl) ?_
  gi_wp2_with fail
  refine trI_on ?_
  refine trI_step (by simp only [opT, opS, opZ]; rfl) ?_
  gi_wp2_with fail
  have hg := I1.out.good
  refine ⟨trivial, rfl, (callsIn_wide.2 (whole_calls Wd _ sd bS p.order A cO A1 n1 k1 A2 n2 k2 _ _ _ I1.out.s (I1.out.ro.mono fun _ _ _ => trivial) hg.inr (by have := hg.len; omega))).mono ?_⟩
  rintro e w1 ⟨rfl, hb⟩
  rw [HW.out]
  have I2 := Lib.hid (I1.out.below hb)
  have Y2 := Lib.hid (Y1.out.below hb)
  have J2 := Lib.hid (own_below HJ.out J1.out hb)
  have s2 := hb.size
  clear hb e1 l1 e3 l3 l2 p0 p1 p2 p3 p4 p5 I1 Y1 J1
  have l2 := I2.out.p2.lt
  have e3 := Y2.out.c
  have l3 := Y2.out.lt
  obtain ⟨p0, p1, p2, p3, p4, p5⟩ : _ ∧ _ ∧ _ ∧ _ ∧ _ ∧ _ := ⟨I2.out.p2.c0, I2.out.p2.c1, I2.out.p2.c2, I2.out.p2.c3, I2.out.p2.c4, I2.out.p2.c5⟩
  gi_wp2_with fail
  refine trI_on ?_
  repeat (first | (refine trI_take (v := ?_) (by simp only [opT, opS, opZ]; rfl) ⟨Or.inl ⟨by rfl, fun W => ?_⟩, fun W => by first | rfl | simp [Oper.about]⟩ ?_; rotate_left; (go_simp; with_reducible rfl); simp only [Act.put, putT, putZ, putS]) | (refine trI_take (by simp only [opT, opS, opZ]; rfl) ⟨Or.inr ⟨by rfl, rfl⟩, fun W => by first | rfl | simp [Oper.about]⟩ ?_; simp only [Act.put, putT, putZ, putS]))
  refine trI_two (by simp only [opT, opS, opZ]; rfl) ?_ (by simp only [opT, opS, opZ]; rfl) (Hid.out ?_)
  ·
   skip
   gi_wp2_with fail
   refine trI_on ?_
   refine trI_step (by simp only [opT, opS, opZ]; rfl) ?_
   gi_wp2_with fail
   refine trI_on ?_
   exact h6.out _ ⟨I2.out, Y2.out, J2.out, by omega⟩
  ·
   refine Lib.hid ?_
   gi_wp2_with fail
   refine trI_on ?_
   refine trI_step (by simp only [opT, opS, opZ]; rfl) ?_
   gi_wp2_with fail
   refine trI_on ?_
   exact h6.out _ ⟨I2.out, Y2.out, J2.out, by omega⟩
theorem paths_calls (w : World) (bS : Nat) (A : Option Addr) (n0 cO : Nat) (A1 : Option Addr) (n1 k1 : Nat) (A2 : Option Addr) (n2 k2 : Nat) (gn ge many : Int) : Calls Tryz.prog 45 #[.pointer (some ⟨bS, 0, none⟩), .agg #[.slice A n0 cO, .slice A1 n1 k1, .slice A2 n2 k2, .int .i64 gn, .int .i64 ge, .int .i64 many]] w fun e w' => e = .returned (.func (.func 77) #[] #[.pointer (some ⟨w.heap.size, 0, none⟩), .pointer (some ⟨w.heap.size + 1, 0, none⟩)]) ∧ w' = (w.alloc (.cells #[.pointer (some ⟨bS, 0, none⟩)] 54)).alloc (.cells #[.slice A n0 cO, .slice A1 n1 k1, .slice A2 n2 k2, .int .i64 gn, .int .i64 ge, .int .i64 many] 59) := by
 go_enter Tryz.func45, Tryz.ntmps45
 go_wp2
 go_ret
 exact ⟨rfl, rfl⟩
structure LI (w1 : World) (N : Nat) (J : List PathD → World → Prop) (K : Nat → List PathD) (i : Nat) (ds : List Nat) (W : World) : Prop where
 le : i ≤ N
 j : J ((List.range i).flatMap K) W
 b : Below w1.heap.size w1 W
 nd : ds.Nodup
 ds : ∀ D ∈ ds, w1.heap.size ≤ D ∧ W.heap[D]? = some (.deferred (some []))
def LInv (b3 b1 b2 l : Nat) (sd : SD) (w1 : World) (J : List PathD → World → Prop) (K : Nat → List PathD) (a : Act) (W : World) : Prop := ∃ (i : Nat) (ds : List Nat) (u4 u5 u6 u7 u8 u9 u10 u11 u12 u13 u14 u15 u16 u17 u18 u19 u20 u21 u22 u23 u24 u25 u26 u27 u28 u29 u32 u33 u34 u35 u36 u37 u38 u39 u40 u41 u42 u43 u44 u45 u46 u47 u48 u49 u50 u51 : Value), a = ({ tmps := ((.func (.yield l) #[] #[]) :: (.pointer (some ⟨b1, 0, none⟩)) :: (.pointer (some ⟨b2, 0, none⟩)) :: (.pointer (some ⟨b3, 0, none⟩)) :: u4 :: u5 :: u6 :: u7 :: u8 :: u9 :: u10 :: u11 :: u12 :: u13 :: u14 :: u15 :: u16 :: u17 :: u18 :: u19 :: u20 :: u21 :: u22 :: u23 :: u24 :: u25 :: u26 :: u27 :: u28 :: u29 :: (.int .i64 (sd.calls.length : Int)) :: (.int .i64 (i : Int)) :: u32 :: u33 :: u34 :: u35 :: u36 :: u37 :: u38 :: u39 :: u40 :: u41 :: u42 :: u43 :: u44 :: u45 :: u46 :: u47 :: u48 :: u49 :: u50 :: u51 :: []).toArray, defers := ds.map markOf } : Act) ∧ Hid (LI w1 sd.calls.length J K i ds W)
def LMu (N : Nat) (a : Act) (_ : World) : Nat := N - (intOf (a.tmps.getD 31 undef)).toNat
theorem flat_split {α : Type} (K : Nat → List α) {i N : Nat} (h : i < N) : ∃ later, (List.range N).flatMap K = (List.range i).flatMap K ++ K i ++ later := by
 have e : List.range N = List.range (i + 1) ++ (List.range (N - (i + 1))).map (fun x => i + 1 + x) := by
  rw [← List.range_add]
  congr 1
  omega
 exact ⟨((List.range (N - (i + 1))).map (fun x => i + 1 + x)).flatMap K, by rw [e, List.flatMap_append, List.range_succ, List.flatMap_append]; simp⟩
theorem Box6.made (W : World) (e : TypeId) (v0 v1 v2 v3 v4 v5 : Value) : Box6 (W.alloc (.cells #[v0, v1, v2, v3, v4, v5] e)) W.heap.size v0 v1 v2 v3 v4 v5 := Box6.of (n := e) (heap_alloc_new W _)
theorem Box6.set {W : World} {b : Nat} {v0 v1 v2 v3 v4 v5 : Value} (h : Box6 W b v0 v1 v2 v3 v4 v5) (u0 u1 u2 u3 u4 u5 : Value) : Box6 (set6 W b u0 u1 u2 u3 u4 u5) b u0 u1 u2 u3 u4 u5 := by
 have hl := h.lt
 refine ⟨by rw [set6_size]; exact hl, ?_, ?_, ?_, ?_, ?_, ?_, fun o => ?_⟩ <;> simp [set6, go_sem, h.c0, h.c1, h.c2, h.c3, h.c4, h.c5, h.fz]
set_option maxRecDepth 100000 in
set_option maxHeartbeats 16000000 in
theorem paths1_loop (w : World) (sd : SD) (p : PathD) (C : Nat → Prop) (bS b1 b2 : Nat) (A : Option Addr) (cO : Nat) (A1 : Option Addr) (n1 k1 : Nat) (A2 : Option Addr) (n2 k2 : Nat) (hc : sd.c.ok) (hcl : sd.calls.length ≤ 10) (hI : ItAt w sd p C bS b1 b2 A cO A1 n1 k1 A2 n2 k2) (hw : wholeB sd p.order p.many = false) (hm : ¬ p.many = sd.need) (K : Nat → List PathD) (hK0 : ∀ n, n < sd.calls.length → (nextF sd p (n : Int)).2 = false → K n = [])
  (hK1 : ∀ n, n < sd.calls.length → (nextF sd p (n : Int)).2 = true → ∀ (w : World) (C : Nat → Prop) (bS b1 b2 : Nat) (A : Option Addr) (cO : Nat) (A1 : Option Addr) (n1 k1 : Nat) (A2 : Option Addr) (n2 k2 : Nat), ItAt w sd (nextF sd p (n : Int)).1 C bS b1 b2 A cO A1 n1 k1 A2 n2 k2 → PathsC w sd (K n) C b1 b2) : PathsC w sd ((List.range sd.calls.length).flatMap K) C b1 b2 := by
 intro l J Jx hJ hJx hY h0
 refine (callsIn_wide (n := 0)).1 (callsIn_of_wp_marks Tryz.func77 rfl trivial ((wpIn_wide (n := 0)).2 ?_) rfl)
 simp only [Tryz.ntmps77, List.size_toArray, List.length_cons, List.length_nil, Nat.reduceAdd, Nat.reduceSub, Array.replicate_succ, Array.replicate_zero, List.push_toArray, List.append_toArray, List.nil_append, List.cons_append]
 obtain ⟨W0, hW⟩ : ∃ W0, W0 = w.alloc (.cells #[.func (.yield l) #[] #[]] 62) := ⟨_, rfl⟩
 have hb0 : Below w.heap.size w W0 := by rw [hW]; exact (Below.refl _ w).alloc (Nat.le_refl _) _
 have s0 : w.heap.size < W0.heap.size := by rw [hW]; simp
 have Y0 := Lib.hid (show B1 W0 w.heap.size (.func (.yield l) #[] #[]) from ⟨s0, by rw [hW]; simp [go_sem]⟩)
 have I0 := Lib.hid (hI.below hb0)
 have J0 := Lib.hid (own_below hJ h0 hb0)
 have K0 := Lib.hid hb0
 have HJ := Lib.hid hJ
 have HJx := Lib.hid hJx
 have HY := Lib.hid hY
 clear hI hJ hJx hY h0 hb0
 have HW := Lib.hid hw
 have HM := Lib.hid hm
 clear hw hm
 have e1 := I0.out.p1.c
 have l1 := I0.out.p1.lt
 have e3 := Y0.out.c
 have l3 := Y0.out.lt
 have l2 := I0.out.p2.lt
 have lS := I0.out.s.lt
 have nS := I0.out.s.need
 obtain ⟨p0, p1, p2, p3, p4, p5⟩ : _ ∧ _ ∧ _ ∧ _ ∧ _ ∧ _ := ⟨I0.out.p2.c0, I0.out.p2.c1, I0.out.p2.c2, I0.out.p2.c3, I0.out.p2.c4, I0.out.p2.c5⟩
 go_wp2_with fail
 rw [← hW]
 clear hW
 go_step3
 go_wp2_with fail
 refine wp_region_schedK (fun _ => True) [(0, true), (1, true), (2, false), (3, true), (4, true), (5, true), (6, false), (7, true), (8, true), (9, true), (10, true), (11, true), (12, true), (13, true), (14, true), (15, true), (16, true), (17, true)] (by kernel_rfl) (by kernel_rfl) (fun hS => ?_)
 have HK := Lib.hid hS
 clear hS
 have KD := Lib.hid (Below.refl W0.heap.size W0).drew
 revert HK KD
 generalize W0.drew = Wd
 intro HK KD
 repeat (refine sched_take (v := ?_) (by simp only [opT, opS, opZ]; rfl) (Or.inl ⟨by rfl, fun W hW => ?_⟩) HK.out ?_; rotate_left; (have hc := fun b o hb => hW.cell b o trivial hb; clear hW; go_simp; with_reducible rfl); simp only [Act.put, putT, putZ, putS])
 refine sched_step (by simp only [opT, opS, opZ]; rfl) ?_
 go_wp2_with fail
 have hg := I0.out.good
 refine (whole_calls Wd _ sd bS p.order A cO A1 n1 k1 A2 n2 k2 _ _ _ (I0.out.s.below KD.out) ((I0.out.ro.below KD.out).mono fun _ _ _ => trivial) hg.inr (by have := hg.len; omega)).mono ?_
 rintro e w1 ⟨rfl, hb⟩
 rw [HW.out]
 have HK1 := Lib.hid (HK.out.below hb)
 have K1 := Lib.hid (KD.out.trans (hb.mono KD.out.size))
 clear hb HK KD
 have hmm : (p.many == sd.need) = false := by simp [HM.out]
 go_wp2_with fail
 refine sched_on HK1.out ?_
 repeat (first | (refine sched_take (v := ?_) (by simp only [opT, opS, opZ]; rfl) (Or.inl ⟨by rfl, fun W hW => ?_⟩) HK1.out ?_; rotate_left; (have hc := fun b o hb => hW.cell b o trivial hb; clear hW; go_simp; with_reducible rfl); simp only [Act.put, putT, putZ, putS]) | (refine sched_take (by simp only [opT, opS, opZ]; rfl) (Or.inr ⟨by rfl, rfl⟩) HK1.out ?_; simp only [Act.put, putT, putZ, putS]))
 refine sched_step (by simp only [opT, opS, opZ]; rfl) ?_
 go_wp2_with fail
 refine sched_on HK1.out ?_
 repeat (first | (refine sched_take (v := ?_) (by simp only [opT, opS, opZ]; rfl) (Or.inl ⟨by rfl, fun W hW => ?_⟩) HK1.out ?_; rotate_left; (have hc := fun b o hb => hW.cell b o trivial hb; clear hW; go_simp; with_reducible rfl); simp only [Act.put, putT, putZ, putS]) | (refine sched_take (by simp only [opT, opS, opZ]; rfl) (Or.inr ⟨by rfl, rfl⟩) HK1.out ?_; simp only [Act.put, putT, putZ, putS]))
 refine sched_done ?_
 have J1 := Lib.hid (own_below HJ.out J0.out K1.out)
 have I1 := Lib.hid (I0.out.below K1.out)
 have Y1 := Lib.hid (Y0.out.below K1.out)
 have s1 := K1.out.size
 clear HK1 e1 l1 e3 l3 l2 lS nS p0 p1 p2 p3 p4 p5 I0 Y0 J0 hmm
 obtain ⟨Ac, cc, s5, hr⟩ := I1.out.s.row
 clear hr
 have e1 := I1.out.p1.c
 have l1 := I1.out.p1.lt
 have lS := I1.out.s.lt
 go_wp2
 go_step3
 go_wp2
 clear e1 l1 lS s5
 refine wp_loop (LInv w.heap.size b1 b2 l sd w1 J K) (LMu sd.calls.length) ?start ?round
 case start => exact ⟨0, [], _, _, _, _, _, _, _, _, _, _, _, _, _, _, _, _, _, _, _, _, _, _, _, _, _, _, _, _, _, _, _, _, _, _, _, _, _, _, _, _, _, _, _, _, _, _, rfl, Lib.hid ⟨Nat.zero_le _, J1.out, Below.refl _ _, List.nodup_nil, by simp⟩⟩
 case round =>
  rintro a W ⟨i, ds, u4, u5, u6, u7, u8, u9, u10, u11, u12, u13, u14, u15, u16, u17, u18, u19, u20, u21, u22, u23, u24, u25, u26, u27, u28, u29, u32, u33, u34, u35, u36, u37, u38, u39, u40, u41, u42, u43, u44, u45, u46, u47, u48, u49, u50, u51, rfl, HL⟩
  have I2 := Lib.hid (I1.out.below HL.out.b)
  have Y2 := Lib.hid (Y1.out.below HL.out.b)
  have s2 := HL.out.b.size
  have I2L := I2.out.le
  obtain ⟨Ac, cc, s5, hr⟩ := I2.out.s.row
  clear hr
  have e1 := I2.out.p1.c
  have l1 := I2.out.p1.lt
  have e3 := Y2.out.c
  have l3 := Y2.out.lt
  have l2 := I2.out.p2.lt
  have lS := I2.out.s.lt
  obtain ⟨p0, p1, p2, p3, p4, p5⟩ : _ ∧ _ ∧ _ ∧ _ ∧ _ ∧ _ := ⟨I2.out.p2.c0, I2.out.p2.c1, I2.out.p2.c2, I2.out.p2.c3, I2.out.p2.c4, I2.out.p2.c5⟩
  by_cases hi : i < sd.calls.length
  case neg =>
   have hle := HL.out.le
   obtain rfl : i = sd.calls.length := by omega
   clear hi hle
   go_wp2
   exact paths_leave (R := PathsR J Jx ((List.range sd.calls.length).flatMap K)) (B := w.heap.size) (C := fun W => J ((List.range sd.calls.length).flatMap K) W) (fun _ W W' row hs hg hr => HJ.out _ W W' row hs hg hr) (fun v W h => ⟨⟨v, rfl⟩, .inl h⟩) _ ds W HL.out.nd (fun D hD => ⟨by have := (HL.out.ds D hD).1; omega, (HL.out.ds D hD).2⟩) HL.out.j
  have hii : ((i : Int) < (sd.calls.length : Int)) := by omega
  have HI := Lib.hid hi
  clear hi
  have hmany : 0 ≤ p.many ∧ p.many ≤ 1000 := ⟨hg.m0, by have := hg.m1; have := hg.len; omega⟩
  have HMA := Lib.hid hmany
  clear hmany
  go_wp2_with fail
  refine (next_calls W _ sd bS p _ (i : Int) I2.out.s ⟨_, _, _, _, _, _, _, _, rfl, I2.out.ro.mono fun _ _ _ => trivial, I2.out.gr.mono fun _ _ _ => trivial⟩ hg.inr (by have := hg.len; omega) (by omega) (hg.rdy hc hcl) HMA.out).mono ?_
  rintro e w2 ⟨qv, rfl, hq, hb⟩
  obtain ⟨r, hrr⟩ : ∃ r, r = nextF sd p (i : Int) := ⟨_, rfl⟩
  rw [← hrr] at hq ⊢
  obtain ⟨A', cO', A1', n1', k1', A2', n2', k2', rfl, hro, hgr⟩ := hq
  have HRR := Lib.hid hrr
  clear hrr
  obtain ⟨q, ok⟩ := r
  simp only at hro hgr ⊢
  obtain ⟨V, hV⟩ : ∃ V, V = w2.alloc (.cells #[.slice A' q.order.length cO', .slice A1' n1' k1', .slice A2' n2' k2', .int .i64 q.g.nn, .int .i64 q.g.ne, .int .i64 q.many] 59) := ⟨_, rfl⟩
  have hb5 : Below w2.heap.size w2 V := by rw [hV]; exact (Below.refl _ w2).alloc (Nat.le_refl _) _
  have B5 := Lib.hid (show Box6 V w2.heap.size (.slice A' q.order.length cO') (.slice A1' n1' k1') (.slice A2' n2' k2') (.int .i64 q.g.nn) (.int .i64 q.g.ne) (.int .i64 q.many) from by rw [hV]; exact Box6.made w2 59 _ _ _ _ _ _)
  have I25 := Lib.hid (I2.out.below hb)
  have I3 := Lib.hid (I2.out.below (hb.trans (hb5.mono hb.size)))
  have Y3 := Lib.hid (Y2.out.below (hb.trans (hb5.mono hb.size)))
  have BB := Lib.hid (HL.out.b.trans ((hb.trans (hb5.mono hb.size)).mono s2))
  have J3 := Lib.hid (own_below HJ.out HL.out.j (hb.trans (hb5.mono hb.size)))
  have DS := Lib.hid (show ∀ D ∈ ds, w1.heap.size ≤ D ∧ D < W.heap.size ∧ V.heap[D]? = some (.deferred (some [])) from fun D hD => ⟨(HL.out.ds D hD).1, (Array.getElem?_eq_some_iff.1 (HL.out.ds D hD).2).1, ((hb.trans (hb5.mono hb.size)).block D (Array.getElem?_eq_some_iff.1 (HL.out.ds D hD).2).1).trans (HL.out.ds D hD).2⟩)
  have ND := Lib.hid HL.out.nd
  have QR := Lib.hid ((hro.below hb5).mono (S' := fun k => W.heap.size ≤ k) fun _ h _ => h)
  have QG := Lib.hid ((hgr.below hb5).mono (S' := fun k => W.heap.size ≤ k) fun _ h _ => h)
  have s3 := hb.size
  have s4 := hb5.size
  clear hb hb5 hro hgr HL I2 Y2 e1 l1 e3 l3 l2 lS s5 p0 p1 p2 p3 p4 p5
  cases ok
  case false =>
   have HKE := Lib.hid (hK0 i HI.out (by rw [← HRR.out]))
   go_wp2
   rw [← hV]
   refine ⟨⟨i + 1, ds, _, _, _, _, _, _, _, _, _, _, _, _, _, _, _, _, _, _, _, _, _, _, _, _, _, _, _, _, _, _, _, _, _, _, _, _, _, _, _, _, _, _, _, _, _, _, rfl, Lib.hid ⟨HI.out, by rw [List.range_succ, List.flatMap_append]; simp only [List.flatMap_cons, List.flatMap_nil, HKE.out, List.append_nil]; exact J3.out, BB.out, ND.out, fun D hD => ⟨(DS.out D hD).1, (DS.out D hD).2.2⟩⟩⟩, ?_⟩
   have := HI.out
   simp [LMu, intOf]
   omega
  have e1 := I25.out.p1.c
  have l1 := I25.out.p1.lt
  go_wp2_with fail
  rw [← hV]
  clear hV e1 l1 I25
  refine (paths_calls V bS A' _ cO' A1' n1' k1' A2' n2' k2' _ _ _).mono ?_
  rintro e w3 ⟨rfl, hw3⟩
  have hb3 : Below V.heap.size V w3 := by rw [hw3]; exact (by repeat (first | exact Below.refl _ _ | refine Below.alloc ?_ (by simp; try omega) _))
  have P1 : B1 w3 V.heap.size (.pointer (some ⟨bS, 0, none⟩)) := ⟨by rw [hw3]; simp; omega, by rw [hw3]; simp [go_sem]⟩
  have P2 : Box6 w3 (V.heap.size + 1) (.slice A' q.order.length cO') (.slice A1' n1' k1') (.slice A2' n2' k2') (.int .i64 q.g.nn) (.int .i64 q.g.ne) (.int .i64 q.many) := by
   rw [hw3]
   have := Box6.made (V.alloc (.cells #[.pointer (some ⟨bS, 0, none⟩)] 54)) 59 (.slice A' q.order.length cO') (.slice A1' n1' k1') (.slice A2' n2' k2') (.int .i64 q.g.nn) (.int .i64 q.g.ne) (.int .i64 q.many)
   rw [World.size_alloc] at this
   exact this
  have hq1 : (nextF sd p (i : Int)).1 = q := by rw [← HRR.out]
  have hq2 : (nextF sd p (i : Int)).2 = true := by rw [← HRR.out]
  have hBB := I3.out.le
  obtain ⟨C', hC'⟩ : ∃ C' : Nat → Prop, C' = fun k => C k ∧ k ≠ w3.heap.size ∧ k ≠ w3.heap.size + 1 := ⟨_, rfl⟩
  have hin : ∀ k, W.heap.size ≤ k → k < V.heap.size → C' k := fun k h1 h2 => by
   have := hb3.size
   rw [hC']
   exact ⟨I2L k h1, by omega, by omega⟩
  have HSEQ := Lib.hid (show ∀ w4, Below w3.heap.size w3 w4 → w4.heap.size = w3.heap.size + 2 → PathsC w4 sd (K i) C' V.heap.size (V.heap.size + 1) from fun w4 h4 h5 => hK1 i HI.out hq2 w4 C' bS _ _ A' cO' A1' n1' k1' A2' n2' k2' (hq1.symm ▸ ⟨(I3.out.s.below hb3).below h4, P1.below h4, P2.below h4, ((QR.out.mono fun k hk hl => hin k hk hl).below hb3).below h4, ((QG.out.mono fun k hk hl => hin k hk hl).below hb3).below h4, fun k hk => by rw [hC']; exact ⟨hBB k (by have := hb3.size; omega), by omega, by omega⟩, hq1 ▸ (next_good hg hcl hq2).1⟩))
  have HC := Lib.hid hC'
  clear hC' hin
  have I4 := Lib.hid (I3.out.below hb3)
  have Y4 := Lib.hid (Y3.out.below hb3)
  have BB4 := Lib.hid (BB.out.trans (hb3.mono BB.out.size))
  have J4 := Lib.hid (own_below HJ.out J3.out hb3)
  have DS4 := Lib.hid (show ∀ D ∈ ds, w1.heap.size ≤ D ∧ D < W.heap.size ∧ w3.heap[D]? = some (.deferred (some [])) from fun D hD => ⟨(DS.out D hD).1, (DS.out D hD).2.1, (hb3.block D (by have := (DS.out D hD).2.1; omega)).trans (DS.out D hD).2.2⟩)
  have s5 := hb3.size
  clear hb3 P1 P2 hw3 I3 Y3 BB J3 DS QR QG B5 hq1 hq2
  go_wp2_with fail
  obtain ⟨PRE, hPRE⟩ : ∃ PRE, PRE = (List.range i).flatMap K := ⟨_, rfl⟩
  have HPRE := Lib.hid hPRE
  rw [← hPRE] at J4
  have hsplit : ∃ later, (List.range sd.calls.length).flatMap K = PRE ++ K i ++ later := by rw [hPRE]; exact flat_split K HI.out
  clear hPRE
  obtain ⟨LATER, hLAT⟩ := hsplit
  have HLAT := Lib.hid hLAT
  clear hLAT
  have hWV : W.heap.size ≤ V.heap.size := by omega
  refine range_wp (V := fun x v W => PathIn W C' x v) (L := K i) (gf := 77) (lb := #[.pointer (some ⟨V.heap.size, 0, none⟩), .pointer (some ⟨V.heap.size + 1, 0, none⟩)]) rfl rfl (enters_of Tryz.func77 (by kernel_rfl) rfl) (fun w4 h4 h5 => HSEQ.out w4 h4 h5)
   (fun pre W' => J (PRE ++ pre) W' ∧ Below w3.heap.size w3 W') (fun xs W' => Jx (PRE ++ xs) W' ∧ ∀ D ∈ ds, W'.heap[D]? = some (.deferred (some [])))
   ?hI ?hIx ?h0 ?hround ?hdone ?hstop
  case hI => exact OwnFrom.and (fun s X Y row hs hg hr => HJ.out _ X Y row hs hg fun r e => ⟨by have := (hr r e).1; omega, (hr r e).2⟩) (ownFrom_below (Nat.le_refl _) (Nat.le_refl _))
  case hIx =>
   refine OwnFrom.and (fun s X Y row hs hg hr => HJx.out _ X Y row hs hg fun r e => ⟨by have := (hr r e).1; omega, (hr r e).2⟩) ?_
   intro s X Y row hs hg hr D hD
   have hx := hs D hD
   exact (hg.block D (Array.getElem?_eq_some_iff.1 hx).1 (fun e => by have h1 := (hr D e.symm).1; have h2 := (DS4.out D hD).2.1; omega)).trans hx
  case h0 => exact ⟨by rw [List.append_nil]; exact J4.out, Below.refl _ _⟩
  case hround =>
   rintro pre x rest v V0 hL ⟨hj, hb4⟩ hv hsz
   obtain ⟨A6, c6, A7, n7, k7, A8, n8, k8, rfl, ro6, gr6⟩ := hv
   have HL6 := Lib.hid hL
   have R6 := Lib.hid ro6
   have G6 := Lib.hid gr6
   clear hL hj hb4 ro6 gr6
   gi_wp2
   refine ⟨(Below.refl _ V0).alloc (Nat.le_refl _) _, ?_⟩
   intro V1 hz hk hI1
   have hz1 : V1.heap.size = V0.heap.size + 1 := by rw [hz]; simp
   have B6 : Box6 V1 V0.heap.size (.slice A6 x.order.length c6) (.slice A7 n7 k7) (.slice A8 n8 k8) (.int .i64 x.g.nn) (.int .i64 x.g.ne) (.int .i64 x.many) := (Box6.made V0 59 _ _ _ _ _ _).same (Nat.le_of_eq hz.symm) (hk _ (by omega))
   have hV1 : ∀ k, C' k → k < V0.heap.size → V1.heap[k]? = V0.heap[k]? := fun k h1 h2 => (hk k (by rw [HC.out] at h1; exact h1.2.2)).trans (Below.heap_alloc _ _ _ h2)
   have hP1 : PathIn V1 C x (.agg #[.slice A6 x.order.length c6, .slice A7 n7 k7, .slice A8 n8 k8, .int .i64 x.g.nn, .int .i64 x.g.ne, .int .i64 x.many]) := ⟨_, _, _, _, _, _, _, _, rfl, (R6.out.move hV1).mono fun k h1 _ => by rw [HC.out] at h1; exact h1.1, (G6.out.move hV1).mono fun k h1 _ => by rw [HC.out] at h1; exact h1.1⟩
   have hY5 := Y4.out.below hI1.2
   have e3 := hY5.c
   have l3 := hY5.lt
   have l6 := B6.lt
   obtain ⟨q0, q1, q2, q3, q4, q5⟩ : _ ∧ _ ∧ _ ∧ _ ∧ _ ∧ _ := ⟨B6.c0, B6.c1, B6.c2, B6.c3, B6.c4, B6.c5⟩
   obtain ⟨fn, tm, asg, bd, hy, hR⟩ := HY.out (PRE ++ pre) x (rest ++ LATER) _ V1 (by rw [HLAT.out, HL6.out]; simp) hI1.1 hP1
   have HR := Lib.hid hR
   have HB6 := Lib.hid hI1.2
   clear hR hP1 hV1 hY5 B6 hk hI1 hz
   gi_wp2_with fail
   refine ⟨rfl, RoundIn.mono (F := Fence.wide.inRound (w3.heap.size + 1)) HR.out ?_⟩
   have hBB := BB4.out.size
   rintro e V2 (⟨rfl, hj, hb⟩ | ⟨rfl, hj, hk⟩)
   ·
    gi_wp2
    exact ⟨⟨by rw [← List.append_assoc]; exact hj, HB6.out.trans (hb.mono HB6.out.size)⟩, hb⟩
   ·
    gi_wp2
    exact ⟨⟨by rw [← List.append_assoc]; exact hj, fun D hD => (hk.2 D (by have := (DS4.out D hD).1; omega) (by have := (DS4.out D hD).2.1; omega)).trans ((HB6.out.block D (by have := (DS4.out D hD).2.1; omega)).trans (DS4.out D hD).2.2)⟩, hk.mono (by omega)⟩
  case hdone =>
   rintro W4 ⟨hj, hb4⟩ hD
   have hs4 := hb4.size
   go_wp2
   refine ⟨⟨i + 1, w3.heap.size :: ds, _, _, _, _, _, _, _, _, _, _, _, _, _, _, _, _, _, _, _, _, _, _, _, _, _, _, _, _, _, _, _, _, _, _, _, _, _, _, _, _, _, _, _, _, _, _, rfl, Lib.hid ⟨HI.out, by rw [List.range_succ, List.flatMap_append]; simp only [List.flatMap_cons, List.flatMap_nil, List.append_nil]; rw [← HPRE.out]; exact hj, BB4.out.trans (hb4.mono BB4.out.size), List.nodup_cons.2 ⟨fun h => by have := (DS4.out _ h).2.1; omega, ND.out⟩, fun D hD' => ?_⟩⟩, ?_⟩
   ·
    rcases List.mem_cons.1 hD' with rfl | hD'
    ·
     exact ⟨BB4.out.size, hD⟩
    ·
     exact ⟨(DS4.out D hD').1, (hb4.block D (by have := (DS4.out D hD').2.1; omega)).trans (DS4.out D hD').2.2⟩
   have := HI.out
   simp [LMu, intOf]
   omega
  case hstop =>
   rintro pre x rest W4 hL ⟨hjx, hm⟩ hD
   have hBB := BB4.out.size
   exact paths_leave (R := PathsR J Jx ((List.range sd.calls.length).flatMap K)) (B := w.heap.size) (C := fun W => Jx (PRE ++ (pre ++ [x])) W) (fun _ W W' row hs hg hr => HJx.out _ W W' row hs hg hr) (fun v W h => ⟨⟨v, rfl⟩, .inr ⟨PRE ++ pre, x, rest ++ LATER, by rw [HLAT.out, hL]; simp, by rw [List.append_assoc]; exact h⟩⟩) _ (w3.heap.size :: ds) W4 (List.nodup_cons.2 ⟨fun h => by have := (DS4.out _ h).2.1; omega, ND.out⟩) (fun D hD' => by
    rcases List.mem_cons.1 hD' with rfl | hD'
    ·
     exact ⟨by omega, hD⟩
    ·
     exact ⟨by have := (DS4.out D hD').1; omega, hm D hD'⟩) hjx
theorem paths1_calls {sd : SD} (hc : sd.c.ok) (hcl : sd.calls.length ≤ 10) : ∀ (f : Nat) (p : PathD) (w : World) (C : Nat → Prop) (bS b1 b2 : Nat) (A : Option Addr) (cO : Nat) (A1 : Option Addr) (n1 k1 : Nat) (A2 : Option Addr) (n2 k2 : Nat), ItAt w sd p C bS b1 b2 A cO A1 n1 k1 A2 n2 k2 → sd.calls.length ≤ f + p.order.length → PathsC w sd (pathsF sd f p) C b1 b2 := by
 intro f
 induction f with
 | zero =>
  intro p w C bS b1 b2 A cO A1 n1 k1 A2 n2 k2 hI hl
  rw [pathsF_eq]
  split
  ·
   rename_i h
   exact paths1_whole w sd p C bS b1 b2 A cO A1 n1 k1 A2 n2 k2 hcl hI h (whole_need h)
  ·
   rename_i h
   have h' : wholeB sd p.order p.many = false := by simpa using h
   split
   ·
    rename_i hm
    exact paths1_none w sd p C bS b1 b2 A cO A1 n1 k1 A2 n2 k2 hcl hI h' hm
   ·
    rename_i hm
    refine paths1_loop w sd p C bS b1 b2 A cO A1 n1 k1 A2 n2 k2 hc hcl hI h' hm _ (fun n _ h => kid_no h) fun n _ h => ?_
    have h1 := (next_good hI.good hcl h).1.len
    rw [(next_good hI.good hcl h).2] at h1
    simp at h1
    omega
 | succ f ih =>
  intro p w C bS b1 b2 A cO A1 n1 k1 A2 n2 k2 hI hl
  rw [pathsF_eq]
  split
  ·
   rename_i h
   exact paths1_whole w sd p C bS b1 b2 A cO A1 n1 k1 A2 n2 k2 hcl hI h (whole_need h)
  ·
   rename_i h
   have h' : wholeB sd p.order p.many = false := by simpa using h
   split
   ·
    rename_i hm
    exact paths1_none w sd p C bS b1 b2 A cO A1 n1 k1 A2 n2 k2 hcl hI h' hm
   ·
    rename_i hm
    refine paths1_loop w sd p C bS b1 b2 A cO A1 n1 k1 A2 n2 k2 hc hcl hI h' hm _ (fun n _ h => kid_no h) fun n _ h w' C' bS' b1' b2' A' cO' A1' n1' k1' A2' n2' k2' hI' => ?_
    rw [kid_yes h]
    refine ih _ w' C' bS' b1' b2' A' cO' A1' n1' k1' A2' n2' k2' hI' ?_
    rw [(next_good hI.good hcl h).2]
    simp
    omega
end Go.Proofs.YtpehmmdbjakkpaaGreat


