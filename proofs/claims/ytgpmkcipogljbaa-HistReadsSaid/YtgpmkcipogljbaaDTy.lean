/- Operations, pairs, results, events and calls as plain data. -/
import Derived.Test.YtgpmkcipogljbaaProg
import Derived.Test.YtgpmkcipogljbaaLib3
import Derived.Test.YtgpmkcipogljbaaLib2
import Derived.Deep.RegionHeld3
import Derived.KernelRfl
namespace Go.Proofs.Ytgpmkcipogljbaa
open Go.RowKit
structure OpD where
  kind : Int
  a : Int
  b : Int
  k : Int
  v : Int
deriving DecidableEq
def OpD.cells (o : OpD) : List Value := [.int .i64 o.kind, .int .i64 o.a, .int .i64 o.b, .int .i64 o.k, .int .i64 o.v]
/-- A pair of numbers: a property, or an end. -/
structure P2 where
  x : Int
  y : Int
deriving DecidableEq
def P2.cells (p : P2) : List Value := [.int .i64 p.x, .int .i64 p.y]
def P2.val (p : P2) : Value := .agg #[.int .i64 p.x, .int .i64 p.y]
structure ResD where
  err : Int
  id : Int
  ps : List P2
  os : List P2
  is : List P2
deriving DecidableEq
def ResD.zero : ResD := ⟨0, 0, [], [], []⟩
structure EvD where
  th : Int
  done : Bool
  op : OpD
  res : ResD
deriving DecidableEq
structure CallD where
  th : Int
  op : OpD
  frm : Int
  to : Int
  res : ResD
deriving DecidableEq
def tInt : Ty Int := Ty.flat 1 (by decide) (fun x => [.int .i64 x]) (fun _ => rfl) (fun x u hu => by rw [List.mem_singleton.1 hu]; rfl)
def tOp : Ty OpD := Ty.flat 5 (by decide) OpD.cells (fun _ => rfl) (fun x u hu => by
  simp only [OpD.cells, List.mem_cons, List.not_mem_nil, or_false] at hu
  rcases hu with rfl | rfl | rfl | rfl | rfl <;> rfl)
def tP : Ty P2 := Ty.flat 2 (by decide) P2.cells (fun _ => rfl) (fun x u hu => by
  simp only [P2.cells, List.mem_cons, List.not_mem_nil, or_false] at hu
  rcases hu with rfl | rfl <;> rfl)
/-- The three slices of a result. -/
def Sl (w : World) (S : Nat → Prop) (r : ResD) (p o i : Value) : Prop := Row tP w S p r.ps ∧ Row tP w S o r.os ∧ Row tP w S i r.is
theorem Sl.mono {w : World} {S S' : Nat → Prop} {r : ResD} {p o i : Value} (h : Sl w S r p o i) (hs : ∀ k, S k → k < w.heap.size → S' k) : Sl w S' r p o i := ⟨h.1.mono hs, h.2.1.mono hs, h.2.2.mono hs⟩
theorem Sl.move {w w' : World} {S : Nat → Prop} {r : ResD} {p o i : Value} (h : Sl w S r p o i) (hs : Same S w w') : Sl w' S r p o i := ⟨h.1.move hs, h.2.1.move hs, h.2.2.move hs⟩
theorem Sl.below {w w' : World} {S : Nat → Prop} {r : ResD} {p o i : Value} (h : Sl w S r p o i) (hb : Below w.heap.size w w') : Sl w' S r p o i := h.move (.of_below hb)
theorem Sl.nil (w : World) (S : Nat → Prop) : Sl w S ResD.zero (.slice none 0 0) (.slice none 0 0) (.slice none 0 0) := ⟨Row.nil _ _ _, Row.nil _ _ _, Row.nil _ _ _⟩
theorem row_one {α : Type} {t : Ty α} {w : World} {S : Nat → Prop} {v : Value} {xs : List α} (h : Row t w S v xs) : v.oneCell' = true := by
  obtain ⟨A, c, rfl⟩ := h.slice
  rfl
def resCells (r : ResD) (p o i : Value) : List Value := [.int .i64 r.err, .int .i64 r.id, p, o, i]
def opCells (o : OpD) : List Value := o.cells
def tRes : Ty ResD where
  sz := 5
  pos := by decide
  K := fun w S r cs => ∃ p o i, Sl w S r p o i ∧ cs = [.int .i64 r.err, .int .i64 r.id, p, o, i]
  len := by rintro w S x cs ⟨p, o, i, _, rfl⟩; rfl
  one := by
    rintro w S x cs ⟨p, o, i, h, rfl⟩ u hu
    simp only [List.mem_cons, List.not_mem_nil, or_false] at hu
    rcases hu with rfl | rfl | rfl | rfl | rfl
    · rfl
    · rfl
    · exact row_one h.1
    · exact row_one h.2.1
    · exact row_one h.2.2
  mono := by rintro w S S' x cs hs ⟨p, o, i, h, rfl⟩; exact ⟨p, o, i, h.mono hs, rfl⟩
  move := by rintro w w' S x cs hs ⟨p, o, i, h, rfl⟩; exact ⟨p, o, i, h.move hs, rfl⟩
def tEv : Ty EvD where
  sz := 12
  pos := by decide
  K := fun w S e cs => ∃ p o i, Sl w S e.res p o i ∧ cs = [.int .i64 e.th, .bool e.done, .int .i64 e.op.kind, .int .i64 e.op.a, .int .i64 e.op.b, .int .i64 e.op.k, .int .i64 e.op.v, .int .i64 e.res.err, .int .i64 e.res.id, p, o, i]
  len := by rintro w S x cs ⟨p, o, i, _, rfl⟩; rfl
  one := by
    rintro w S x cs ⟨p, o, i, h, rfl⟩ u hu
    simp only [List.mem_cons, List.not_mem_nil, or_false] at hu
    rcases hu with rfl | rfl | rfl | rfl | rfl | rfl | rfl | rfl | rfl | rfl | rfl | rfl
    all_goals first | rfl | exact row_one h.1 | exact row_one h.2.1 | exact row_one h.2.2
  mono := by rintro w S S' x cs hs ⟨p, o, i, h, rfl⟩; exact ⟨p, o, i, h.mono hs, rfl⟩
  move := by rintro w w' S x cs hs ⟨p, o, i, h, rfl⟩; exact ⟨p, o, i, h.move hs, rfl⟩
def tCall : Ty CallD where
  sz := 13
  pos := by decide
  K := fun w S e cs => ∃ p o i, Sl w S e.res p o i ∧ cs = [.int .i64 e.th, .int .i64 e.op.kind, .int .i64 e.op.a, .int .i64 e.op.b, .int .i64 e.op.k, .int .i64 e.op.v, .int .i64 e.frm, .int .i64 e.to, .int .i64 e.res.err, .int .i64 e.res.id, p, o, i]
  len := by rintro w S x cs ⟨p, o, i, _, rfl⟩; rfl
  one := by
    rintro w S x cs ⟨p, o, i, h, rfl⟩ u hu
    simp only [List.mem_cons, List.not_mem_nil, or_false] at hu
    rcases hu with rfl | rfl | rfl | rfl | rfl | rfl | rfl | rfl | rfl | rfl | rfl | rfl | rfl
    all_goals first | rfl | exact row_one h.1 | exact row_one h.2.1 | exact row_one h.2.2
  mono := by rintro w S S' x cs hs ⟨p, o, i, h, rfl⟩; exact ⟨p, o, i, h.mono hs, rfl⟩
  move := by rintro w w' S x cs hs ⟨p, o, i, h, rfl⟩; exact ⟨p, o, i, h.move hs, rfl⟩
theorem Row.atP {w : World} {S : Nat → Prop} {A : Option Addr} {n c : Nat} {xs : List P2} (h : Row tP w S (.slice A n c) xs) {j : Nat} {x : P2} (hj : xs[j]? = some x) :
    ∃ b off, A = some ⟨b, off, none⟩ ∧ b < w.heap.size ∧ w.cell? ⟨b, off + j * 2, none⟩ = some (.int .i64 x.x) ∧ w.cell? ⟨b, off + j * 2 + 1, none⟩ = some (.int .i64 x.y) := by
  obtain ⟨b, off, cs, hA, _, hl, hk, hr⟩ := h.at hj
  have hk' : cs = x.cells := hk
  subst hk'
  exact ⟨b, off, hA, hl, range2 hr⟩
def ResD.val (r : ResD) (p o i : Value) : Value := .agg #[.int .i64 r.err, .int .i64 r.id, p, o, i]
end Go.Proofs.Ytgpmkcipogljbaa
