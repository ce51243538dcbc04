/- Events and calls as plain data. Operations: are they the same? hist.same. slices.Clone of ends. hist.own. A map of places, as a function. A history's calls, as a fold. Stores of a number and of a result. hist.Calls. tendrilref12.Few, hist.Before. hist.Pending. What holds of a history's calls. A history, cut off. -/
import Derived.Test.YtpehmmdbjakkpaaGreatOpTy
import Derived.Test.YtpehmmdbjakkpaaGreatEqM
import Derived.Deep.RegionHeld3
import Derived.KernelRfl
import Derived.Laws.StructEq
import Derived.Test.YtpehmmdbjakkpaaGreatLibM
import Derived.Lib.LazyBuf
import Derived.Test.YtpehmmdbjakkpaaGreatBaseM
import Derived.Test.YtpehmmdbjakkpaaGreatReadsG
import Derived.Maps.OwnSet
import Derived.Maps.Views
import Derived.Maps.OwnOps
namespace Go.Proofs.YtpehmmdbjakkpaaGreat
open Go.RowKit
instance : DecidableEq OpD := fun x y =>
 if h : x.k = y.k ∧ x.a = y.a ∧ x.b = y.b ∧ x.p = y.p ∧ x.v = y.v then .isTrue (by cases x; cases y; simp_all)
 else .isFalse fun e => h (by rw [e]; exact ⟨rfl, rfl, rfl, rfl, rfl⟩)
instance : DecidableEq ResD := fun x y =>
 if h : x.st = y.st ∧ x.id = y.id ∧ x.ps = y.ps ∧ x.os = y.os ∧ x.is = y.is then .isTrue (by cases x; cases y; simp_all)
 else .isFalse fun e => h (by rw [e]; exact ⟨rfl, rfl, rfl, rfl, rfl⟩)
structure EvD where
 th : Int
 done : Bool
 op : OpD
 res : ResD
deriving DecidableEq
structure CallD where
 th : Int
 op : OpD
 frm : Int
 to : Int
 res : ResD
deriving DecidableEq
def tInt : Ty Int := Ty.flat 1 (by decide) (fun x => [.int .i64 x]) (fun _ => rfl) (fun x u hu => by rw [List.mem_singleton.1 hu]; rfl)
/-- The three slices of a result. -/
def Sl (w : World) (S : Nat → Prop) (r : ResD) (p o i : Value) : Prop := Row tP w S p r.ps ∧ Row tP w S o r.os ∧ Row tP w S i r.is
theorem Sl.mono {w : World} {S S' : Nat → Prop} {r : ResD} {p o i : Value} (h : Sl w S r p o i) (hs : ∀ k, S k → k < w.heap.size → S' k) : Sl w S' r p o i := ⟨h.1.mono hs, h.2.1.mono hs, h.2.2.mono hs⟩
theorem Sl.move {w w' : World} {S : Nat → Prop} {r : ResD} {p o i : Value} (h : Sl w S r p o i) (hs : Same S w w') : Sl w' S r p o i := ⟨h.1.move hs, h.2.1.move hs, h.2.2.move hs⟩
theorem Sl.below {w w' : World} {S : Nat → Prop} {r : ResD} {p o i : Value} (h : Sl w S r p o i) (hb : Below w.heap.size w w') : Sl w' S r p o i := h.move (.of_below hb)
theorem Sl.nil (w : World) (S : Nat → Prop) : Sl w S ResD.nil (.slice none 0 0) (.slice none 0 0) (.slice none 0 0) := ⟨Row.nil _ _ _, Row.nil _ _ _, Row.nil _ _ _⟩
theorem row_one {α : Type} {t : Ty α} {w : World} {S : Nat → Prop} {v : Value} {xs : List α} (h : Row t w S v xs) : v.oneCell' = true := by
 obtain ⟨A, c, rfl⟩ := h.slice
 rfl
def tEv : Ty EvD where
 sz := 12
 pos := by decide
 K := fun w S e cs => ∃ p o i, Sl w S e.res p o i ∧ cs = [.int .i64 e.th, .bool e.done, .int .i64 e.op.k, .int .i64 e.op.a, .int .i64 e.op.b, .int .i64 e.op.p, .int .i64 e.op.v, .int .i64 e.res.st, .int .i64 e.res.id, p, o, i]
 len := by rintro w S x cs ⟨p, o, i, _, rfl⟩; rfl
 one := by
  rintro w S x cs ⟨p, o, i, h, rfl⟩ u hu
  simp only [List.mem_cons, List.not_mem_nil, or_false] at hu
  rcases hu with rfl | rfl | rfl | rfl | rfl | rfl | rfl | rfl | rfl | rfl | rfl | rfl
  all_goals first | rfl | exact row_one h.1 | exact row_one h.2.1 | exact row_one h.2.2
 mono := by rintro w S S' x cs hs ⟨p, o, i, h, rfl⟩; exact ⟨p, o, i, h.mono hs, rfl⟩
 move := by rintro w w' S x cs hs ⟨p, o, i, h, rfl⟩; exact ⟨p, o, i, h.move hs, rfl⟩
def tCall : Ty CallD where
 sz := 13
 pos := by decide
 K := fun w S e cs => ∃ p o i, Sl w S e.res p o i ∧ cs = [.int .i64 e.th, .int .i64 e.op.k, .int .i64 e.op.a, .int .i64 e.op.b, .int .i64 e.op.p, .int .i64 e.op.v, .int .i64 e.frm, .int .i64 e.to, .int .i64 e.res.st, .int .i64 e.res.id, p, o, i]
 len := by rintro w S x cs ⟨p, o, i, _, rfl⟩; rfl
 one := by
  rintro w S x cs ⟨p, o, i, h, rfl⟩ u hu
  simp only [List.mem_cons, List.not_mem_nil, or_false] at hu
  rcases hu with rfl | rfl | rfl | rfl | rfl | rfl | rfl | rfl | rfl | rfl | rfl | rfl | rfl
  all_goals first | rfl | exact row_one h.1 | exact row_one h.2.1 | exact row_one h.2.2
 mono := by rintro w S S' x cs hs ⟨p, o, i, h, rfl⟩; exact ⟨p, o, i, h.mono hs, rfl⟩
 move := by rintro w w' S x cs hs ⟨p, o, i, h, rfl⟩; exact ⟨p, o, i, h.move hs, rfl⟩
end Go.Proofs.YtpehmmdbjakkpaaGreat
namespace Go.Proofs.YtpehmmdbjakkpaaGreat
open Go.RowKit
set_option linter.unusedSimpArgs false
set_option linter.unusedVariables false
theorem eqInOp (d : Nat) (w : World) (x y : OpD) : (Op.equalIn (d + 2) 46 (.agg #[.int .i64 x.k, .int .i64 x.a, .int .i64 x.b, .int .i64 x.p, .int .i64 x.v]) (.agg #[.int .i64 y.k, .int .i64 y.a, .int .i64 y.b, .int .i64 y.p, .int .i64 y.v])).run Tryz.prog w = .ok (decide (x = y)) w := by
 have e : decide (x = y) = (x.k == y.k && (x.a == y.a && (x.b == y.b && (x.p == y.p && x.v == y.v)))) := by
  obtain ⟨x0, x1, x2, x3, x4⟩ := x
  obtain ⟨y0, y1, y2, y3, y4⟩ := y
  simp only [OpD.mk.injEq]
  rw [Bool.eq_iff_iff]
  simp
 rw [e]
 clear e
 rw [run_equalIn_struct (P := Tryz.prog) w (d + 1) 46 _ _ (by simp [Program.fieldsOf, Tryz.underlying46]) (by kernel_rfl)]
 simp [Program.fieldsOf, Tryz.underlying46, Op.eqFields, go_sem]
 by_cases h0 : x.k = y.k <;> by_cases h1 : x.a = y.a <;> by_cases h2 : x.b = y.b <;> by_cases h3 : x.p = y.p <;> by_cases h4 : x.v = y.v <;> simp [h0, h1, h2, h3, h4]
theorem neqOp (w : World) (x y : OpD) : (binOp .neq 46 (.agg #[.int .i64 x.k, .int .i64 x.a, .int .i64 x.b, .int .i64 x.p, .int .i64 x.v]) (.agg #[.int .i64 y.k, .int .i64 y.a, .int .i64 y.b, .int .i64 y.p, .int .i64 y.v])).run Tryz.prog w = .ok (.bool (!decide (x = y))) w := by
 simp only [binOp]
 simp [Op.equal, Op.maxDepth, eqInOp 9998 w x y]
theorem guardOp (op : BinOp) (p q : Operand) (xs ys : Array Value) (W : World) : (eqGuard op 46 p q (.agg xs) (.agg ys)).run Tryz.prog W = .ok () W := by
 have h : Tryz.prog.eqGuardType Tryz.prog.depth 46 = false := by kernel_rfl
 unfold eqGuard
 split <;> simp [h]
theorem exec_neqOp {o : Oper} {a : Act} {p q : Operand} (W : World) (x y : OpD) (ho : o.op = .binOp .neq 46 p q 46) (hp : a.eval p = .agg #[.int .i64 x.k, .int .i64 x.a, .int .i64 x.b, .int .i64 x.p, .int .i64 x.v]) (hq : a.eval q = .agg #[.int .i64 y.k, .int .i64 y.a, .int .i64 y.b, .int .i64 y.p, .int .i64 y.v]) :
  (execOp a.eval o).run Tryz.prog W = .ok (.value (.bool (!decide (x = y)))) W := by
 unfold execOp
 simp [ho, hp, hq, neqOp, guardOp]
end Go.Proofs.YtpehmmdbjakkpaaGreat
namespace Go.Proofs.YtpehmmdbjakkpaaGreat
open Go.RowKit
set_option linter.unusedSimpArgs false
set_option linter.unusedVariables false
theorem hres_ne {r s : ResD} (h : ¬ (r.st = s.st ∧ r.id = s.id ∧ r.ps = s.ps ∧ r.os = s.os ∧ r.is = s.is)) : decide (r = s) = false := decide_eq_false fun e => h (by rw [e]; exact ⟨rfl, rfl, rfl, rfl, rfl⟩)
theorem hres_eq {r s : ResD} (h : r.st = s.st ∧ r.id = s.id ∧ r.ps = s.ps ∧ r.os = s.os ∧ r.is = s.is) : decide (r = s) = true := decide_eq_true (by cases r; cases s; simp_all)
set_option maxHeartbeats 4000000 in
theorem histSame_calls (w : World) (S : Nat → Prop) (r s : ResD) (p o i p' o' i' : Value) (h : Sl w S r p o i) (h' : Sl w S s p' o' i') : Calls Tryz.prog 50 #[.agg #[.int .i64 r.st, .int .i64 r.id, p, o, i], .agg #[.int .i64 s.st, .int .i64 s.id, p', o', i']] w fun e w' => e = .returned (.bool (decide (r = s))) ∧ Below w.heap.size w w' := by
 have hw : Below w.heap.size w ((w.alloc (.cells #[.int .i64 r.st, .int .i64 r.id, p, o, i] 50)).alloc (.cells #[.int .i64 s.st, .int .i64 s.id, p', o', i'] 50)) := ((Below.refl w.heap.size w).alloc (Nat.le_refl _) _).alloc (by simp) _
 have H := Lib.hid (h.below hw)
 have H' := Lib.hid (h'.below hw)
 have HW := Lib.hid hw
 obtain ⟨A1, c1, rfl⟩ := h.1.slice
 obtain ⟨A2, c2, rfl⟩ := h.2.1.slice
 obtain ⟨A3, c3, rfl⟩ := h.2.2.slice
 obtain ⟨B1, d1, rfl⟩ := h'.1.slice
 obtain ⟨B2, d2, rfl⟩ := h'.2.1.slice
 obtain ⟨B3, d3, rfl⟩ := h'.2.2.slice
 clear h h' hw
 by_cases e1 : r.st = s.st
 case neg =>
  have hd := Lib.hid (hres_ne (r := r) (s := s) (by rintro ⟨x, _⟩; exact e1 x))
  replace e1 : (r.st == s.st) = false := beq_eq_false_iff_ne.mpr e1
  go_enter Tryz.func50, Tryz.ntmps50
  go_wp2
  go_ret
  exact ⟨by rw [hd.out]; rfl, HW.out⟩
 by_cases e2 : r.id = s.id
 case neg =>
  have hd := Lib.hid (hres_ne (r := r) (s := s) (by rintro ⟨_, x, _⟩; exact e2 x))
  replace e2 : (r.id == s.id) = false := beq_eq_false_iff_ne.mpr e2
  replace e1 : (r.st == s.st) = true := beq_iff_eq.mpr e1
  go_enter Tryz.func50, Tryz.ntmps50
  go_wp2
  go_ret
  exact ⟨by rw [hd.out]; rfl, HW.out⟩
 have E1 := Lib.hid e1
 have E2 := Lib.hid e2
 replace e2 : (r.id == s.id) = true := beq_iff_eq.mpr e2
 replace e1 : (r.st == s.st) = true := beq_iff_eq.mpr e1
 go_enter Tryz.func50, Tryz.ntmps50
 go_wp2_with fail
 refine (eqPairs_calls _ S _ _ _ _ H.out.1 H'.out.1).mono ?_
 rintro e w1 ⟨rfl, hb1⟩
 obtain ⟨hc1, hf1⟩ := bcell hb1
 have hsz1 := hb1.size
 have HA := Lib.hid (H.out.below hb1)
 have HA' := Lib.hid (H'.out.below hb1)
 have K1 := Lib.hid (HW.out.trans (hb1.mono (by simp; omega)))
 clear hb1
 simp only [World.size_alloc] at hsz1 hc1 hf1
 have g1 : w.heap.size < w1.heap.size := by omega
 have g2 : w.heap.size + 1 < w1.heap.size := by omega
 by_cases e3 : r.ps = s.ps
 case neg =>
  have hd := Lib.hid (hres_ne (r := r) (s := s) (by rintro ⟨_, _, x, _⟩; exact e3 x))
  rw [decide_eq_false e3]
  clear e3
  go_wp2
  go_ret
  exact ⟨by rw [hd.out]; rfl, K1.out⟩
 have E3 := Lib.hid e3
 rw [decide_eq_true e3]
 clear e3
 go_wp2_with fail
 refine (eqEnds_calls _ S _ _ _ _ HA.out.2.1 HA'.out.2.1).mono ?_
 rintro e w2 ⟨rfl, hb2⟩
 obtain ⟨hc2, hf2⟩ := bcell hb2
 have hsz2 := hb2.size
 have HB := Lib.hid (HA.out.below hb2)
 have HB' := Lib.hid (HA'.out.below hb2)
 have K2 := Lib.hid (K1.out.trans (hb2.mono (by omega)))
 clear hb2
 by_cases e4 : r.os = s.os
 case neg =>
  have hd := Lib.hid (hres_ne (r := r) (s := s) (by rintro ⟨_, _, _, x, _⟩; exact e4 x))
  rw [decide_eq_false e4]
  clear e4
  go_wp2
  go_ret
  exact ⟨by rw [hd.out]; rfl, K2.out⟩
 have E4 := Lib.hid e4
 rw [decide_eq_true e4]
 clear e4
 go_wp2_with fail
 refine (eqEnds_calls _ S _ _ _ _ HB.out.2.2 HB'.out.2.2).mono ?_
 rintro e w3 ⟨rfl, hb3⟩
 have K3 := Lib.hid (K2.out.trans (hb3.mono (by omega)))
 clear hb3
 by_cases e5 : r.is = s.is
 case neg =>
  have hd := Lib.hid (hres_ne (r := r) (s := s) (by rintro ⟨_, _, _, _, x⟩; exact e5 x))
  rw [decide_eq_false e5]
  clear e5
  go_wp2
  go_ret
  exact ⟨by rw [hd.out]; rfl, K3.out⟩
 have hd := Lib.hid (hres_eq (r := r) (s := s) ⟨E1.out, E2.out, E3.out, E4.out, e5⟩)
 rw [decide_eq_true e5]
 clear e5
 go_wp2
 go_ret
 exact ⟨by rw [hd.out]; rfl, K3.out⟩
end Go.Proofs.YtpehmmdbjakkpaaGreat
namespace Go.Proofs.YtpehmmdbjakkpaaGreat
open Go.RowKit
set_option linter.unusedSimpArgs false
set_option linter.unusedVariables false
end Go.Proofs.YtpehmmdbjakkpaaGreat
namespace Go.Proofs.YtpehmmdbjakkpaaGreat
open Go.RowKit
set_option linter.unusedSimpArgs false
set_option linter.unusedVariables false
theorem Own.setCell {α : Type} {t : Ty α} {e : TypeId} {w : World} {S : Nat → Prop} {v : Value} {xs : List α} (h : Own t e w S v xs) {p : Addr} (hp : ∀ k, S k → k ≠ p.block) (u : Value) : Own t e (w.setCell p u) S v xs := h.move (Same.of_setCell w p u hp)
theorem Own.setBoxes {α : Type} {t : Ty α} {e : TypeId} {w3 : World} {n : Nat} {v : Value} {xs : List α} {u1 u2 u3 u4 u5 u6 u7 u8 : Value} {o1 o2 o3 o4 o5 o6 o7 o8 : Nat} (h : Own t e w3 (fun k => n + 1 + 1 ≤ k) v xs) :
  Own t e ((((((((w3.setCell ⟨n, o1, none⟩ u1).setCell ⟨n, o2, none⟩ u2).setCell ⟨n, o3, none⟩ u3).setCell ⟨n + 1, o4, none⟩ u4).setCell ⟨n + 1, o5, none⟩ u5).setCell ⟨n + 1, o6, none⟩ u6).setCell ⟨n + 1, o7, none⟩ u7).setCell ⟨n + 1, o8, none⟩ u8) (fun k => n + 1 + 1 ≤ k) v xs :=
 (((((((h.setCell (fun k hk e => by simp only at e; omega) _).setCell (fun k hk e => by simp only at e; omega) _).setCell (fun k hk e => by simp only at e; omega) _).setCell (fun k hk e => by simp only at e; omega) _).setCell (fun k hk e => by simp only at e; omega) _).setCell (fun k hk e => by simp only at e; omega) _).setCell (fun k hk e => by simp only at e; omega) _).setCell (fun k hk e => by simp only at e; omega) _
def ResD.few (r : ResD) : Prop := r.ps.length ≤ 1000000 ∧ r.os.length ≤ 1000000 ∧ r.is.length ≤ 1000000
set_option maxHeartbeats 8000000 in
theorem histOwn_calls (w : World) (S : Nat → Prop) (r : ResD) (p o i : Value) (h : Sl w S r p o i) (hf : r.few) : Calls Tryz.prog 51 #[.agg #[.int .i64 r.st, .int .i64 r.id, p, o, i]] w fun e w' => ∃ p' o' i', e = .returned (.agg #[.int .i64 r.st, .int .i64 r.id, p', o', i']) ∧ Sl w' (fun k => w.heap.size ≤ k) r p' o' i' ∧ Below w.heap.size w w' := by
 obtain ⟨A1, c1, rfl⟩ := h.1.slice
 obtain ⟨A2, c2, rfl⟩ := h.2.1.slice
 obtain ⟨A3, c3, rfl⟩ := h.2.2.slice
 have H := Lib.hid h
 have HF := Lib.hid hf
 clear h hf
 go_enter Tryz.func51, Tryz.ntmps51
 go_wp2
 have hw0 : Below w.heap.size w ((w.alloc (.cells #[.int .i64 r.st, .int .i64 r.id, .slice A1 r.ps.length c1, .slice A2 r.os.length c2, .slice A3 r.is.length c3] 50)).alloc (.cells #[.int .i64 0, .int .i64 0, .slice none 0 0, .slice none 0 0, .slice none 0 0] 50)) := ((Below.refl w.heap.size w).alloc (Nat.le_refl _) _).alloc (by simp) _
 have K0 := Lib.hid hw0.drew
 have H0 := Lib.hid (H.out.below hw0.drew)
 clear hw0
 refine wp_region_sched2 [(0, true), (1, true), (3, true), (4, true), (6, true), (7, true), (2, false), (9, true), (5, false), (8, false)] 10 [(11, true), (12, false), (13, true), (14, false)] (Kept ((w.alloc (.cells #[.int .i64 r.st, .int .i64 r.id, .slice A1 r.ps.length c1, .slice A2 r.os.length c2, .slice A3 r.is.length c3] 50)).alloc (.cells #[.int .i64 0, .int .i64 0, .slice none 0 0, .slice none 0 0, .slice none 0 0] 50)) (fun _ => True)) (fun _ => True) (by kernel_rfl) (by kernel_rfl) (by kernel_rfl) ?_
 have HS := Lib.hid (Kept.refl ((w.alloc (.cells #[.int .i64 r.st, .int .i64 r.id, .slice A1 r.ps.length c1, .slice A2 r.os.length c2, .slice A3 r.is.length c3] 50)).alloc (.cells #[.int .i64 0, .int .i64 0, .slice none 0 0, .slice none 0 0, .slice none 0 0] 50)) (fun _ => True)).drew
 have hr0 : w.heap.size < w.heap.size + 1 + 1 := by omega
 repeat (refine sched2_take (v := ?_) (by simp only [opT, opS, opZ]; rfl) (Or.inl ⟨by rfl, fun W hW => ?_⟩) HS.out ?_; rotate_left; (have hc := fun b o hb => hW.cell b o trivial hb; clear hW; go_simp; with_reducible rfl); simp only [Act.put, putT, putZ, putS])
 refine sched2_step (by simp only [opT, opS, opZ]; rfl) ?_
 go_wp2_with fail
 refine (clonePairs_calls _ S _ _ H0.out.1 HF.out.1).mono ?_
 rintro e w1 ⟨v1, rfl, ho1, hb1⟩
 obtain ⟨B1, d1, rfl⟩ := ho1.slice
 have hs1 := hb1.size
 have K1 := Lib.hid (K0.out.trans (hb1.mono (by simp; omega)))
 have HS1 := Lib.hid (HS.out.below hb1)
 have H1 := Lib.hid (H0.out.below hb1)
 have P1 := Lib.hid ho1
 obtain ⟨hc1, hf1⟩ := bcell hb1
 clear ho1 hb1
 simp only [World.size_alloc, World.size_drew] at hs1 hc1 hf1
 go_wp2_with fail
 refine sched2_on HS1.out ?_
 repeat (refine sched2_take (v := ?_) (by simp only [opT, opS, opZ]; rfl) (Or.inl ⟨by rfl, fun W hW => ?_⟩) HS1.out ?_; rotate_left; (have hc := fun b o hb => hW.cell b o trivial hb; clear hW; go_simp; with_reducible rfl); simp only [Act.put, putT, putZ, putS])
 refine sched2_step (by simp only [opT, opS, opZ]; rfl) ?_
 go_wp2_with fail
 refine (cloneEnds_calls _ S _ _ H1.out.2.1 HF.out.2.1).mono ?_
 rintro e w2 ⟨v2, rfl, ho2, hb2⟩
 obtain ⟨B2, d2, rfl⟩ := ho2.slice
 have hs2 := hb2.size
 have K2 := Lib.hid (K1.out.trans (hb2.mono (by omega)))
 have HS2 := Lib.hid (HS1.out.below hb2)
 have H2 := Lib.hid (H1.out.below hb2)
 have P1 := Lib.hid (P1.out.below hb2)
 have P2 := Lib.hid ho2
 obtain ⟨hc2, hf2⟩ := bcell hb2
 clear ho2 hb2
 have g1 : w.heap.size < w1.heap.size := by omega
 have g1' : w.heap.size + 1 < w1.heap.size := by omega
 go_wp2_with fail
 refine sched2_on HS2.out ?_
 refine sched2_step (by simp only [opT, opS, opZ]; rfl) ?_
 go_wp2_with fail
 refine (cloneEnds_calls _ S _ _ H2.out.2.2 HF.out.2.2).mono ?_
 rintro e w3 ⟨v3, rfl, ho3, hb3⟩
 obtain ⟨B3, d3, rfl⟩ := ho3.slice
 have hs3 := hb3.size
 have K3 := Lib.hid (K2.out.trans (hb3.mono (by omega)))
 have HS3 := Lib.hid (HS2.out.below hb3)
 have P1 := Lib.hid (P1.out.below hb3)
 have P2 := Lib.hid (P2.out.below hb3)
 have P3 := Lib.hid ho3
 obtain ⟨hc3, hf3⟩ := bcell hb3
 clear ho3 hb3
 have g2 : w.heap.size < w2.heap.size := by omega
 have g2' : w.heap.size + 1 < w2.heap.size := by omega
 go_wp2_with fail
 refine sched2_on HS3.out ?_
 refine sched2_go (by simp only [opT, opS, opZ]; rfl) ?_
 go_wp2_with fail
 refine sched_on trivial ?_
 repeat (refine sched_take (v := ?_) (by simp only [opT, opS, opZ]; rfl) (Or.inl ⟨by rfl, fun W hW => ?_⟩) trivial ?_; rotate_left; (skip; clear hW; go_simp; with_reducible rfl); simp only [Act.put, putT, putZ, putS])
 refine sched_step (by simp only [opT, opS, opZ]; rfl) ?_
 go_wp2_with fail
 refine sched_on trivial ?_
 repeat (refine sched_take (v := ?_) (by simp only [opT, opS, opZ]; rfl) (Or.inl ⟨by rfl, fun W hW => ?_⟩) trivial ?_; rotate_left; (skip; clear hW; go_simp; with_reducible rfl); simp only [Act.put, putT, putZ, putS])
 refine sched_step (by simp only [opT, opS, opZ]; rfl) ?_
 go_wp2_with fail
 refine sched_on trivial ?_
 refine sched_done ?_
 go_wp2
 have hz1 : (World.drew ((w.alloc (.cells #[.int .i64 r.st, .int .i64 r.id, .slice A1 r.ps.length c1, .slice A2 r.os.length c2, .slice A3 r.is.length c3] 50)).alloc (.cells #[.int .i64 0, .int .i64 0, .slice none 0 0, .slice none 0 0, .slice none 0 0] 50))).heap.size = w.heap.size + 1 + 1 := by simp
 refine bodyPost_ret (v := .agg #[.int .i64 r.st, .int .i64 r.id, .slice B1 r.ps.length d1, .slice B2 r.os.length d2, .slice B3 r.is.length d3]) (by simp [results, Tryz.results51, go_sem, hc1, hc2, hc3, hf1, hf2, hf3, g1, g1', g2, g2']; try rfl) rfl ⟨_, _, _, rfl, ⟨?_, ?_, ?_⟩, ?_⟩
 ·
  exact Own.row ((P1.out.mono fun k hk _ => (by omega : w.heap.size + 1 + 1 ≤ k)).setBoxes |>.mono fun k hk _ => by omega)
 ·
  exact Own.row ((P2.out.mono fun k hk _ => (by omega : w.heap.size + 1 + 1 ≤ k)).setBoxes |>.mono fun k hk _ => by omega)
 ·
  exact Own.row ((P3.out.mono fun k hk _ => (by omega : w.heap.size + 1 + 1 ≤ k)).setBoxes |>.mono fun k hk _ => by omega)
 ·
  exact (by repeat (first | (with_reducible exact Below.refl _ _) | (with_reducible exact K3.out) | (with_reducible refine Below.drew ?_) | (with_reducible refine Below.alloc ?_ (by simp; try omega) _) | (with_reducible refine Below.setCell ?_ (by simp; try omega) _)))
end Go.Proofs.YtpehmmdbjakkpaaGreat
namespace Go.Proofs.YtpehmmdbjakkpaaGreat
open Go.RowKit Go.Maps
set_option linter.unusedSimpArgs false
set_option linter.unusedVariables false
theorem wf_of_okI {x : Int} (h : okI x) : (Lit.int .i64 x).wf = true := WalkArith.wf_i64 (by unfold okI at h; omega)
theorem keyLaw : Keyed Tryz.prog 3 := int_keyed Tryz.underlying3
theorem zeroI (w : World) : (zeroValue 3).run Tryz.prog w = .ok (.int .i64 0) w := by kernel_rfl
def upd (f : Int → Option Nat) (q : Int) (v : Option Nat) : Int → Option Nat := fun x => if x = q then v else f x
def MapI (w : World) (b N : Nat) (f : Int → Option Nat) : Prop := ∃ n D, w.ownsMap (H := Unit) Tryz.prog 3 (plainElem Tryz.prog 3) b n D ∧ n ≤ N ∧ ∀ x, okI x → Maps.has D (.int .i64 x) = (f x).isSome ∧ ∀ a, f x = some a → D.atKey (.int .i64 x) (.lit (.int .i64 0)) = .lit (.int .i64 (a : Int))
theorem MapI.kept {w w' : World} {b N : Nat} {f : Int → Option Nat} (h : MapI w b N f) (hs : w'.heap[b]? = w.heap[b]?) : MapI w' b N f := by
 obtain ⟨n, D, ⟨es, clock, hb, r⟩, hn, hf⟩ := h
 exact ⟨n, D, ⟨es, clock, hs.trans hb, r⟩, hn, hf⟩
theorem MapI.lt {w : World} {b N : Nat} {f : Int → Option Nat} (h : MapI w b N f) : b < w.heap.size := by
 obtain ⟨n, D, h1, _⟩ := h
 exact h1.lt
theorem MapI.made (w : World) : MapI (w.alloc (.map #[] 0)) w.heap.size 0 (fun _ => none) :=
 ⟨0, .map [], World.ownsMap_made _ _ _ _, Nat.le_refl _, fun x _ => ⟨rfl, fun a h => by cases h⟩⟩
theorem MapI.mono {w : World} {b N N' : Nat} {f : Int → Option Nat} (h : MapI w b N f) (hN : N ≤ N') : MapI w b N' f := by
 obtain ⟨n, D, h1, h2, h3⟩ := h
 exact ⟨n, D, h1, by omega, h3⟩
theorem isKey (x : Int) (h : okI x) : WideAt.IsKeyLit (.int .i64 x) := by
 first
  | trivial
  | exact wf_of_okI h
  | simp [WideAt.IsKeyLit]
theorem int_ne {x q : Int} (h : x ≠ q) : (Lit.int .i64 x) ≠ (Lit.int .i64 q) := fun e => h (by injection e)
section
variable {ops : Array Oper} {rest : List Oper} {o : Oper} {a : Act} {Q : Exit → Act → World → Prop} {w : World} {b N : Nat} {f : Int → Option Nat} {q : Int}
theorem wpList_lookupI (hg : o.guard = none) (m x : Operand) (hop : o.op = Op.lookup 99 m x true) (h : MapI w b N f) (okq : okI q) (hm : a.eval m = .map (some b)) (hx : a.eval x = .int .i64 q)
  (hK : ∀ c : Int, (∀ p, f q = some p → c = (p : Int)) → wpList Tryz.prog ops Q rest (a.put o.dst (.tuple #[.int .i64 c, .bool (f q).isSome])) w) : wpList Tryz.prog ops Q (o :: rest) a w := by
 obtain ⟨n, D, h1, h2, h3⟩ := h
 refine wpList_lookup_own_ok_int w hg m x 99 hop 3 3 .i64 keyLaw Tryz.underlying99 Tryz.underlying3 (zeroI _) b n D hm h1 (.int .i64 q) (.int .i64 q) hx (keyOf_int_mk Tryz.underlying3 (wf_of_okI okq)) (fun c hc _ => ?_)
 rw [(h3 q okq).1]
 refine hK c (fun p hp => ?_)
 have := (h3 q okq).2 p hp
 rw [this] at hc
 injection hc with hc
 injection hc with _ hc
 exact hc.symm
theorem wpList_updateI (hg : o.guard = none) (m x v : Operand) (hop : o.op = Op.mapUpdate 99 m x v) (h : MapI w b N f) (okq : okI q) {p : Nat} (okp : p ≤ 9223372036854775807) (hN : N < maxLen) (hm : a.eval m = .map (some b)) (hx : a.eval x = .int .i64 q) (hv : a.eval v = .int .i64 (p : Int))
  (hK : ∀ w', MapI w' b (N + 1) (upd f q (some p)) → w.grownBy w' (some b) → wpList Tryz.prog ops Q rest (a.put o.dst undef) w') : wpList Tryz.prog ops Q (o :: rest) a w := by
 obtain ⟨n, D, h1, h2, h3⟩ := h
 refine wpList_mapUpdate_own w hg m x v 99 hop 3 3 keyLaw Tryz.underlying99 _ b n D hm h1 (by omega) (.int .i64 q) (.int .i64 (p : Int)) (.int .i64 q) hx hv (keyOf_int_mk Tryz.underlying3 (wf_of_okI okq)) (.lit (.int .i64 (p : Int))) [] (plainElem_int Tryz.underlying3 (WalkArith.wf_i64 (by omega))) (fun w' r1 r2 => hK w' ⟨n + 1, _, r1, by omega, fun x okx => ?_⟩ r2)
 by_cases hxq : x = q
 ·
  subst hxq
  refine ⟨by rw [has_put_same h1.isMap (isKey x okx)]; simp [upd], fun a ha => ?_⟩
  rw [atKey_put_same h1.isMap (isKey x okx)]
  simp [upd] at ha
  rw [ha]
 ·
  rw [has_put_other (int_ne hxq), atKey_put_other (int_ne hxq)]
  simp only [upd, if_neg hxq]
  exact h3 x okx
theorem wpList_deleteI (hg : o.guard = none) (m x : Operand) (hop : o.op = Op.call { callee := Callee.builtin Builtin.delete, args := #[m, x], argTypes := #[99, 3] }) (h : MapI w b N f) (okq : okI q) (hm : a.eval m = .map (some b)) (hx : a.eval x = .int .i64 q)
  (hK : ∀ w', MapI w' b N (upd f q none) → w.grownBy w' (some b) → wpList Tryz.prog ops Q rest (a.put o.dst (.tuple #[])) w') : wpList Tryz.prog ops Q (o :: rest) a w := by
 obtain ⟨n, D, h1, h2, h3⟩ := h
 refine wpList_delete_own w hg m x 99 3 hop 3 keyLaw Tryz.underlying99 _ b n D hm h1 (.int .i64 q) (.int .i64 q) hx (keyOf_int_mk Tryz.underlying3 (wf_of_okI okq)) (fun w' r1 r2 => hK w' ⟨n, _, r1, h2, fun x okx => ?_⟩ r2.grown)
 by_cases hxq : x = q
 ·
  subst hxq
  exact ⟨by rw [has_del_same]; simp [upd], fun a ha => by simp [upd] at ha⟩
 ·
  rw [has_del_other (int_ne hxq), atKey_del_other (int_ne hxq)]
  simp only [upd, if_neg hxq]
  exact h3 x okx
end
end Go.Proofs.YtpehmmdbjakkpaaGreat
namespace Go.Proofs.YtpehmmdbjakkpaaGreat
open Go.RowKit
set_option linter.unusedSimpArgs false
set_option linter.unusedVariables false
structure St where
 out : List CallD
 opn : Int → Option Nat
def step (i : Nat) (x : EvD) (s : St) : Option St :=
 if x.th < 0 ∨ 64 ≤ x.th ∨ (s.opn x.th).isSome ≠ x.done then none
 else if x.done = false then
  if x.res = ResD.nil then some ⟨s.out ++ [⟨x.th, x.op, i, -1, ResD.nil⟩], upd s.opn x.th (some s.out.length)⟩ else none
 else match s.opn x.th with
  | none => none
  | some p => match s.out[p]? with
   | none => none
   | some c => if c.op = x.op then some ⟨s.out.set p ⟨c.th, c.op, c.frm, i, x.res⟩, upd s.opn x.th none⟩ else none
def runF : Nat → List EvD → St → Option St
 | _, [], s => some s
 | i, x :: r, s => (step i x s).bind (runF (i + 1) r)
def St.zero : St := ⟨[], fun _ => none⟩
def runL (l : List EvD) : Option St := runF 0 l St.zero
theorem runF_append (a b : List EvD) : ∀ (i : Nat) (s : St), runF i (a ++ b) s = (runF i a s).bind (runF (i + a.length) b) := by
 induction a with
 | nil => intro i s; rfl
 | cons x a ih =>
  intro i s
  show (step i x s).bind (runF (i + 1) (a ++ b)) = ((step i x s).bind (runF (i + 1) a)).bind _
  cases h : step i x s with
  | none => rfl
  | some s' =>
   show runF (i + 1) (a ++ b) s' = (runF (i + 1) a s').bind _
   rw [ih, show i + 1 + a.length = i + (x :: a).length by simp; omega]
theorem runL_succ {l : List EvD} {k : Nat} {x : EvD} (h : l[k]? = some x) : runL (l.take (k + 1)) = (runL (l.take k)).bind (step k x) := by
 have hk : k < l.length := by
  rcases Nat.lt_or_ge k l.length with h1 | h1
  ·
   exact h1
  ·
   rw [List.getElem?_eq_none h1] at h; cases h
 unfold runL
 rw [List.take_add_one, h, Option.toList_some, runF_append, List.length_take, Nat.min_eq_left (by omega), Nat.zero_add]
 congr 1
 funext s
 show (step k x s).bind (fun s' => some s') = _
 cases step k x s <;> rfl
theorem runL_none {l : List EvD} {k : Nat} (h : runL (l.take k) = none) : runL l = none := by
 have e : l = l.take k ++ l.drop k := (List.take_append_drop k l).symm
 unfold runL at h ⊢
 rw [e, runF_append, h]
 rfl
/-- Each open place lies in the list. -/
def St.fits (s : St) : Prop := ∀ q p, s.opn q = some p → p < s.out.length
theorem step_fits {i : Nat} {x : EvD} {s s' : St} (h : step i x s = some s') (hf : s.fits) : s'.fits := by
 unfold step at h
 split at h
 ·
  cases h
 ·
  split at h
  ·
   split at h
   ·
    injection h with h
    subst h
    intro q p hp
    simp only [upd] at hp
    split at hp
    ·
     injection hp with hp; simp; omega
    ·
     have := hf q p hp; simp; omega
   ·
    cases h
  ·
   split at h
   ·
    cases h
   ·
    split at h
    ·
     cases h
    ·
     split at h
     ·
      injection h with h
      subst h
      intro q p hp
      simp only [upd] at hp
      split at hp
      ·
       cases hp
      ·
       have := hf q p hp; simp; omega
     ·
      cases h
theorem step_len {i : Nat} {x : EvD} {s s' : St} (h : step i x s = some s') : s'.out.length ≤ s.out.length + 1 := by
 unfold step at h
 split at h
 ·
  cases h
 ·
  split at h
  ·
   split at h
   ·
    injection h with h; subst h; simp
   ·
    cases h
  ·
   split at h
   ·
    cases h
   ·
    split at h
    ·
     cases h
    ·
     split at h
     ·
      injection h with h; subst h; simp
     ·
      cases h
def errOf : Option St → Int
 | none => 1
 | some _ => 0
def outOf : Option St → List CallD
 | none => []
 | some s => s.out
theorem step_bad {i : Nat} {x : EvD} {s : St} (h : x.th < 0 ∨ 64 ≤ x.th ∨ (s.opn x.th).isSome ≠ x.done) : step i x s = none := by unfold step; rw [if_pos h]
theorem step_new {i : Nat} {x : EvD} {s : St} (h : ¬ (x.th < 0 ∨ 64 ≤ x.th ∨ (s.opn x.th).isSome ≠ x.done)) (hd : x.done = false) (hr : x.res = ResD.nil) : step i x s = some ⟨s.out ++ [⟨x.th, x.op, i, -1, ResD.nil⟩], upd s.opn x.th (some s.out.length)⟩ := by
 unfold step; rw [if_neg h, if_pos hd, if_pos hr]
theorem step_newBad {i : Nat} {x : EvD} {s : St} (h : ¬ (x.th < 0 ∨ 64 ≤ x.th ∨ (s.opn x.th).isSome ≠ x.done)) (hd : x.done = false) (hr : ¬ x.res = ResD.nil) : step i x s = none := by
 unfold step; rw [if_neg h, if_pos hd, if_neg hr]
theorem step_done {i p : Nat} {x : EvD} {s : St} {c : CallD} (h : ¬ (x.th < 0 ∨ 64 ≤ x.th ∨ (s.opn x.th).isSome ≠ x.done)) (hd : x.done = true) (hp : s.opn x.th = some p) (hc : s.out[p]? = some c) (ho : c.op = x.op) : step i x s = some ⟨s.out.set p ⟨c.th, c.op, c.frm, i, x.res⟩, upd s.opn x.th none⟩ := by
 unfold step; rw [if_neg h, if_neg (by simp [hd]), hp]; simp only [hc]; rw [if_pos ho]
theorem step_doneBad {i p : Nat} {x : EvD} {s : St} {c : CallD} (h : ¬ (x.th < 0 ∨ 64 ≤ x.th ∨ (s.opn x.th).isSome ≠ x.done)) (hd : x.done = true) (hp : s.opn x.th = some p) (hc : s.out[p]? = some c) (ho : ¬ c.op = x.op) : step i x s = none := by
 unfold step; rw [if_neg h, if_neg (by simp [hd]), hp]; simp only [hc]; rw [if_neg ho]
theorem Own.setCall {w : World} {e : TypeId} {S : Nat → Prop} {g n c : Nat} {xs : List CallD} (h : Own tCall e w S (.slice (some ⟨g, 0, none⟩) n c) xs) {p : Nat} {y : CallD} (hy : xs[p]? = some y) (to : Int) (r : ResD) {vp vo vi : Value} (hv : Sl w (fun k => S k ∧ k ≠ g) r vp vo vi) :
  Own tCall e ((((((w.setCell ⟨g, p * 13 + 7, none⟩ (.int .i64 to)).setCell ⟨g, p * 13 + 8, none⟩ (.int .i64 r.st)).setCell ⟨g, p * 13 + 9, none⟩ (.int .i64 r.id)).setCell ⟨g, p * 13 + 10, none⟩ vp).setCell ⟨g, p * 13 + 11, none⟩ vo).setCell ⟨g, p * 13 + 12, none⟩ vi) S (.slice (some ⟨g, 0, none⟩) n c) (xs.set p ⟨y.th, y.op, y.frm, to, r⟩) := by
 obtain ⟨hS, inner, ho, hk⟩ := h
 have hn : n = xs.length := by
  rcases ho.2 with ⟨h1, _⟩ | ⟨_, _, _, h1, _⟩
  ·
   simp at h1
  ·
   injection h1
 subst hn
 have hp : p < xs.length := (List.getElem?_eq_some_iff.1 hy).1
 have hs : Same (fun k => S k ∧ (Value.slice (some ⟨g, 0, none⟩) xs.length c).ownBlock ≠ some k) w ((((((w.setCell ⟨g, p * 13 + 7, none⟩ (.int .i64 to)).setCell ⟨g, p * 13 + 8, none⟩ (.int .i64 r.st)).setCell ⟨g, p * 13 + 9, none⟩ (.int .i64 r.id)).setCell ⟨g, p * 13 + 10, none⟩ vp).setCell ⟨g, p * 13 + 11, none⟩ vo).setCell ⟨g, p * 13 + 12, none⟩ vi) := by
  intro k hk hl
  have hne : k ≠ g := fun e => hk.2 (by rw [e]; rfl)
  rw [Below.heap_setCell _ ⟨g, p * 13 + 12, none⟩ _ k hne, Below.heap_setCell _ ⟨g, p * 13 + 11, none⟩ _ k hne, Below.heap_setCell _ ⟨g, p * 13 + 10, none⟩ _ k hne, Below.heap_setCell _ ⟨g, p * 13 + 9, none⟩ _ k hne, Below.heap_setCell _ ⟨g, p * 13 + 8, none⟩ _ k hne, Below.heap_setCell _ ⟨g, p * 13 + 7, none⟩ _ k hne]
 have ho6 := (((((((ho.stored (p * 13 + 7) (.int .i64 to)).1.stored (p * 13 + 8) (.int .i64 r.st)).1.stored (p * 13 + 9) (.int .i64 r.id)).1).stored (p * 13 + 10) vp).1.stored (p * 13 + 11) vo).1.stored (p * 13 + 12) vi).1
 refine ⟨hS, _, by rw [List.length_set]; exact ho6, fun j x hj => ?_⟩
 have hsz : tCall.sz = 13 := rfl
 rw [hsz]
 rw [List.getElem?_set] at hj
 simp only [drop_take_set]
 by_cases hjp : p = j
 ·
  subst hjp
  rw [if_pos rfl, if_pos hp] at hj
  injection hj with hj
  subst hj
  obtain ⟨p0, o0, i0, _, hc⟩ := hk p y hy
  rw [hsz] at hc
  have f : ∀ q, q < 13 → (p * 13 ≤ p * 13 + q ∧ p * 13 + q < p * 13 + 13) := fun q hq => by omega
  have g' : ∀ q, p * 13 + q - p * 13 = q := fun q => by omega
  rw [if_pos (f 12 (by omega)), if_pos (f 11 (by omega)), if_pos (f 10 (by omega)), if_pos (f 9 (by omega)), if_pos (f 8 (by omega)), if_pos (f 7 (by omega)), g', g', g', g', g', g', hc]
  refine ⟨vp, vo, vi, (hv.mono fun k hk _ => ⟨hk.1, fun e => hk.2 (by have := Option.some.inj e; exact this.symm)⟩).move hs, rfl⟩
 ·
  rw [if_neg hjp] at hj
  have f : ∀ q, q < 13 → ¬ (j * 13 ≤ p * 13 + q ∧ p * 13 + q < j * 13 + 13) := fun q hq => by omega
  rw [if_neg (f 12 (by omega)), if_neg (f 11 (by omega)), if_neg (f 10 (by omega)), if_neg (f 9 (by omega)), if_neg (f 8 (by omega)), if_neg (f 7 (by omega))]
  have := hk j x hj
  rw [hsz] at this
  exact tCall.move hs this
end Go.Proofs.YtpehmmdbjakkpaaGreat
namespace Go.Proofs.YtpehmmdbjakkpaaGreat
open Go.RowKit
set_option linter.unusedSimpArgs false
set_option linter.unusedVariables false
section
variable {ops : Array Oper} {rest : List Oper} {o : Oper} {a : Act} {Q : Exit → Act → World → Prop} {w : World} {g off : Nat}
theorem run_storeI (p v : Operand) (hop : o.op = Op.store 3 p v) (ev : Operand → Value) (hp : ev p = .pointer (some ⟨g, off, none⟩)) {n : Int} (hv : ev v = .int .i64 n) {u : Value} (hc : w.cell? ⟨g, off, none⟩ = some u) (hf : w.frozen? ⟨g, off, none⟩ = false) :
  (execOp ev o).run Tryz.prog w = .ok .skip (w.setCell ⟨g, off, none⟩ (.int .i64 n)) := by
 simp [execOp, hop, hp, hv, go_sem, hc, hf, Result.andThen, stored]
theorem run_storeR (p v : Operand) (hop : o.op = Op.store 50 p v) (ev : Operand → Value) (hp : ev p = .pointer (some ⟨g, off, none⟩)) {n0 n1 : Int} {A1 A2 A3 : Option Addr} {l1 l2 l3 c1 c2 c3 : Nat} (hv : ev v = .agg #[.int .i64 n0, .int .i64 n1, .slice A1 l1 c1, .slice A2 l2 c2, .slice A3 l3 c3])
  {u0 u1 u2 u3 u4 : Value} (h0 : w.cell? ⟨g, off, none⟩ = some u0) (h1 : w.cell? ⟨g, off + 1, none⟩ = some u1) (h2 : w.cell? ⟨g, off + 2, none⟩ = some u2) (h3 : w.cell? ⟨g, off + 3, none⟩ = some u3) (h4 : w.cell? ⟨g, off + 4, none⟩ = some u4)
  (hf : ∀ j, w.frozen? ⟨g, j, none⟩ = false) :
  (execOp ev o).run Tryz.prog w = .ok .skip (((((w.setCell ⟨g, off, none⟩ (.int .i64 n0)).setCell ⟨g, off + 1, none⟩ (.int .i64 n1)).setCell ⟨g, off + 2, none⟩ (.slice A1 l1 c1)).setCell ⟨g, off + 3, none⟩ (.slice A2 l2 c2)).setCell ⟨g, off + 4, none⟩ (.slice A3 l3 c3)) := by
 simp [execOp, hop, hp, hv, go_sem, h0, h1, h2, h3, h4, hf, Result.andThen, stored]
theorem wpList_storeI (hg : o.guard = none) (p v : Operand) (hop : o.op = Op.store 3 p v) (hp : a.eval p = .pointer (some ⟨g, off, none⟩)) {n : Int} (hv : a.eval v = .int .i64 n) {u : Value} (hc : w.cell? ⟨g, off, none⟩ = some u) (hf : w.frozen? ⟨g, off, none⟩ = false)
  (hK : ∀ w', Hid (w' = w.setCell ⟨g, off, none⟩ (.int .i64 n)) → wpList Tryz.prog ops Q rest (a.put o.dst undef) w') : wpList Tryz.prog ops Q (o :: rest) a w := by
 refine wpList_plain hg fun K' hK' => ?_
 unfold Oper.wp
 rw [run_storeI p v hop a.eval hp hv hc hf]
 exact hK' _ _ (hK _ (Lib.hid rfl))
theorem wpList_storeR (hg : o.guard = none) (p v : Operand) (hop : o.op = Op.store 50 p v) (hp : a.eval p = .pointer (some ⟨g, off, none⟩)) {n0 n1 : Int} {A1 A2 A3 : Option Addr} {l1 l2 l3 c1 c2 c3 : Nat} (hv : a.eval v = .agg #[.int .i64 n0, .int .i64 n1, .slice A1 l1 c1, .slice A2 l2 c2, .slice A3 l3 c3])
  {u0 u1 u2 u3 u4 : Value} (h0 : w.cell? ⟨g, off, none⟩ = some u0) (h1 : w.cell? ⟨g, off + 1, none⟩ = some u1) (h2 : w.cell? ⟨g, off + 2, none⟩ = some u2) (h3 : w.cell? ⟨g, off + 3, none⟩ = some u3) (h4 : w.cell? ⟨g, off + 4, none⟩ = some u4)
  (hf : ∀ j, w.frozen? ⟨g, j, none⟩ = false)
  (hK : ∀ w', Hid (w' = ((((w.setCell ⟨g, off, none⟩ (.int .i64 n0)).setCell ⟨g, off + 1, none⟩ (.int .i64 n1)).setCell ⟨g, off + 2, none⟩ (.slice A1 l1 c1)).setCell ⟨g, off + 3, none⟩ (.slice A2 l2 c2)).setCell ⟨g, off + 4, none⟩ (.slice A3 l3 c3)) → wpList Tryz.prog ops Q rest (a.put o.dst undef) w') : wpList Tryz.prog ops Q (o :: rest) a w := by
 refine wpList_plain hg fun K' hK' => ?_
 unfold Oper.wp
 rw [run_storeR p v hop a.eval hp hv h0 h1 h2 h3 h4 hf]
 exact hK' _ _ (hK _ (Lib.hid rfl))
end
theorem cell_far {w : World} {g j i : Nat} {u v : Value} (hne : j ≠ i) (h : w.cell? ⟨g, i, none⟩ = some v) : (w.setCell ⟨g, j, none⟩ u).cell? ⟨g, i, none⟩ = some v := by
 exact (World.cell?_setCell_other w _ _ _ (fun e => hne (by injection e))).trans h
end Go.Proofs.YtpehmmdbjakkpaaGreat
namespace Go.Proofs.YtpehmmdbjakkpaaGreat
open Go.RowKit Go.Maps
set_option linter.unusedSimpArgs false
set_option linter.unusedVariables false
theorem Row.atEv {w : World} {S : Nat → Prop} {A : Option Addr} {n c : Nat} {xs : List EvD} (h : Row tEv w S (.slice A n c) xs) {j : Nat} {x : EvD} (hj : xs[j]? = some x) :
  ∃ b off p o i, A = some ⟨b, off, none⟩ ∧ b < w.heap.size ∧ Sl w S x.res p o i ∧ w.rangeAt b (off + j * 12) [.int .i64 x.th, .bool x.done, .int .i64 x.op.k, .int .i64 x.op.a, .int .i64 x.op.b, .int .i64 x.op.p, .int .i64 x.op.v, .int .i64 x.res.st, .int .i64 x.res.id, p, o, i] := by
 obtain ⟨b, off, cs, hA, _, hl, ⟨p, o, i, hs, rfl⟩, hr⟩ := h.at hj
 exact ⟨b, off, p, o, i, hA, hl, hs, hr⟩
theorem range12 {w : World} {b o : Nat} {v0 v1 v2 v3 v4 v5 v6 v7 v8 v9 v10 v11 : Value} (h : w.rangeAt b o [v0, v1, v2, v3, v4, v5, v6, v7, v8, v9, v10, v11]) : w.cell? ⟨b, o, none⟩ = some v0 ∧ w.cell? ⟨b, o + 1, none⟩ = some v1 ∧ w.cell? ⟨b, o + 2, none⟩ = some v2 ∧ w.cell? ⟨b, o + 3, none⟩ = some v3 ∧ w.cell? ⟨b, o + 4, none⟩ = some v4 ∧ w.cell? ⟨b, o + 5, none⟩ = some v5 ∧ w.cell? ⟨b, o + 6, none⟩ = some v6 ∧ w.cell? ⟨b, o + 7, none⟩ = some v7 ∧ w.cell? ⟨b, o + 8, none⟩ = some v8 ∧ w.cell? ⟨b, o + 9, none⟩ = some v9 ∧ w.cell? ⟨b, o + 10, none⟩ = some v10 ∧ w.cell? ⟨b, o + 11, none⟩ = some v11 :=
 ⟨h 0 _ rfl, h 1 _ rfl, h 2 _ rfl, h 3 _ rfl, h 4 _ rfl, h 5 _ rfl, h 6 _ rfl, h 7 _ rfl, h 8 _ rfl, h 9 _ rfl, h 10 _ rfl, h 11 _ rfl⟩
theorem elemCall : ElemOf Tryz.prog 63 70 tCall.sz 152 (.agg #[.int .i64 0, .int .i64 0, .int .i64 0, .int .i64 0, .int .i64 0, .int .i64 0, .int .i64 0, .int .i64 0, .int .i64 0, .int .i64 0, .slice none 0 0, .slice none 0 0, .slice none 0 0]) := ⟨Tryz.underlying63, by kernel_rfl, rfl⟩
def CallsPost (w : World) (l : List EvD) (e : Ending) (w' : World) : Prop := ∃ v', e = .returned (.tuple #[v', .int .i64 (errOf (runL l))]) ∧ Row tCall w' (fun k => w.heap.size ≤ k) v' (outOf (runL l)) ∧ Below w.heap.size w w'
theorem CallsPost.bad {w w' : World} {l : List EvD} (h : runL l = none) (hb : Below w.heap.size w w') : CallsPost w l (.returned (.tuple #[.slice none 0 0, .int .i64 1])) w' := ⟨_, by rw [h]; rfl, by rw [h]; exact Row.nil _ _ _, hb⟩
theorem Own.atCall {e : TypeId} {w : World} {S : Nat → Prop} {g n c : Nat} {xs : List CallD} (h : Own tCall e w S (.slice (some ⟨g, 0, none⟩) n c) xs) {j : Nat} {y : CallD} (hj : xs[j]? = some y) :
  ∃ p o i, w.cell? ⟨g, j * 13, none⟩ = some (.int .i64 y.th) ∧ w.cell? ⟨g, j * 13 + 1, none⟩ = some (.int .i64 y.op.k) ∧ w.cell? ⟨g, j * 13 + 2, none⟩ = some (.int .i64 y.op.a) ∧ w.cell? ⟨g, j * 13 + 3, none⟩ = some (.int .i64 y.op.b) ∧ w.cell? ⟨g, j * 13 + 4, none⟩ = some (.int .i64 y.op.p) ∧ w.cell? ⟨g, j * 13 + 5, none⟩ = some (.int .i64 y.op.v) ∧ w.cell? ⟨g, j * 13 + 6, none⟩ = some (.int .i64 y.frm) ∧ w.cell? ⟨g, j * 13 + 7, none⟩ = some (.int .i64 y.to) ∧ w.cell? ⟨g, j * 13 + 8, none⟩ = some (.int .i64 y.res.st) ∧ w.cell? ⟨g, j * 13 + 9, none⟩ = some (.int .i64 y.res.id) ∧ w.cell? ⟨g, j * 13 + 10, none⟩ = some p ∧ w.cell? ⟨g, j * 13 + 11, none⟩ = some o ∧ w.cell? ⟨g, j * 13 + 12, none⟩ = some i := by
 obtain ⟨b, off, cs, hA, _, hl, ⟨p, o, i, hs, rfl⟩, hr⟩ := h.row.at hj
 injection hA with hA
 injection hA with h1 h2
 subst h1 h2
 rw [Nat.zero_add] at hr
 have hz : tCall.sz = 13 := rfl
 rw [hz] at hr
 exact ⟨p, o, i, hr 0 _ rfl, hr 1 _ rfl, hr 2 _ rfl, hr 3 _ rfl, hr 4 _ rfl, hr 5 _ rfl, hr 6 _ rfl, hr 7 _ rfl, hr 8 _ rfl, hr 9 _ rfl, hr 10 _ rfl, hr 11 _ rfl, hr 12 _ rfl⟩
set_option maxRecDepth 100000 in
set_option maxHeartbeats 8000000 in
theorem calls_calls (w : World) (S : Nat → Prop) (v : Value) (l : List EvD) (h : Row tEv w S v l) (hlen : l.length ≤ 1000000) (hfew : ∀ x ∈ l, x.res.few) (hok : ∀ x ∈ l, okI x.th) : Calls Tryz.prog 32 #[v] w (CallsPost w l) := by
 obtain ⟨A, c, rfl⟩ := h.slice
 have H := Lib.hid h.bound
 have HF := Lib.hid hfew
 have HO := Lib.hid hok
 clear h hfew hok
 have hmm := @run_makeMap Tryz.prog
 go_enter Tryz.func32, Tryz.ntmps32
 go_wp2
 clear hmm
 go_loopw [4, 13] (fun o i wr => ∃ (k : Nat) (s : St), k ≤ l.length ∧ i = .int .i64 (k : Int) ∧ Hid (runL (l.take k) = some s) ∧ Hid s.fits ∧ s.out.length ≤ k ∧ Hid (Own tCall 70 wr (fun b => w.heap.size < b) o s.out) ∧ Hid (MapI wr w.heap.size k s.opn) ∧ Hid (Below w.heap.size w wr)) (fun _ i _ => l.length - (intOf i).toNat)
 case atStart => exact ⟨0, St.zero, by omega, rfl, Lib.hid rfl, (fun q p h => by cases h), Nat.le_refl _, Own.nil _ _ _ _, MapI.made w, (Below.refl _ _).alloc (Nat.le_refl _) _⟩
 case round =>
  obtain ⟨k, s, hk, rfl, hrun, hfit, hsl, ho, hmap, hb⟩ := hrel
  have hwr := hb.out.size
  have hml := hmap.out.lt
  obtain ⟨A0, c0, rfl⟩ := ho.out.slice
  by_cases hlt : k < l.length
  ·
   obtain ⟨x, hx⟩ := getElem?_of_lt hlt
   have hstep := runL_succ hx
   rw [hrun.out] at hstep
   have HST := Lib.hid (show runL (l.take (k + 1)) = step k x s from hstep)
   obtain ⟨b, off, p, o, i, rfl, hbl, hsl', hr⟩ := (H.out.below hb.out).atEv hx
   obtain ⟨x0, x1, x2, x3, x4, x5, x6, x7, x8, x9, x10, x11⟩ := range12 hr
   have okx := Lib.hid (HO.out x (List.mem_of_getElem? hx))
   have fewx := Lib.hid (HF.out x (List.mem_of_getElem? hx))
   have HSL := Lib.hid hsl'
   clear hx hstep hr hsl'
   obtain ⟨a1, d1, rfl⟩ := HSL.out.1.slice
   obtain ⟨a2, d2, rfl⟩ := HSL.out.2.1.slice
   obtain ⟨a3, d3, rfl⟩ := HSL.out.2.2.slice
   go_wp2_with (at_lookup; refine wpList_lookupI rfl _ _ rfl (hmap.out.kept ?hkept) okx.out rfl rfl ?_)
   case hkept => exact Below.heap_alloc _ _ _ hml
   intro cc hcc
   have HB := Lib.hid (hb.out.alloc hwr (.cells #[.int .i64 x.th, .bool x.done, .int .i64 x.op.k, .int .i64 x.op.a, .int .i64 x.op.b, .int .i64 x.op.p, .int .i64 x.op.v, .int .i64 x.res.st, .int .i64 x.res.id, .slice a1 x.res.ps.length d1, .slice a2 x.res.os.length d2, .slice a3 x.res.is.length d3] 52))
   have HOw := Lib.hid (ho.out.move (Same.of_alloc _ _ (.cells #[.int .i64 x.th, .bool x.done, .int .i64 x.op.k, .int .i64 x.op.a, .int .i64 x.op.b, .int .i64 x.op.p, .int .i64 x.op.v, .int .i64 x.res.st, .int .i64 x.res.id, .slice a1 x.res.ps.length d1, .slice a2 x.res.os.length d2, .slice a3 x.res.is.length d3] 52)))
   have HM := Lib.hid (hmap.out.kept (Below.heap_alloc _ (.cells #[.int .i64 x.th, .bool x.done, .int .i64 x.op.k, .int .i64 x.op.a, .int .i64 x.op.b, .int .i64 x.op.p, .int .i64 x.op.v, .int .i64 x.res.st, .int .i64 x.res.id, .slice a1 x.res.ps.length d1, .slice a2 x.res.os.length d2, .slice a3 x.res.is.length d3] 52) _ hml))
   have HSw := Lib.hid (HSL.out.below (Below.heap1 wr (.cells #[.int .i64 x.th, .bool x.done, .int .i64 x.op.k, .int .i64 x.op.a, .int .i64 x.op.b, .int .i64 x.op.p, .int .i64 x.op.v, .int .i64 x.res.st, .int .i64 x.res.id, .slice a1 x.res.ps.length d1, .slice a2 x.res.os.length d2, .slice a3 x.res.is.length d3] 52)))
   clear hb hmap HSL x0 x1 x2 x3 x4 x5 x6 x7 x8 x9 x10 x11
   have bad : step k x s = none → runL l = none := fun e => runL_none (k := k + 1) (HST.out.trans e)
   have BAD := Lib.hid bad
   clear bad
   by_cases h1 : x.th < 0
   ·
    have HN := Lib.hid (BAD.out (step_bad (.inl h1)))
    go_wp2
    exact bodyPost_ret (v := .tuple #[.slice none 0 0, .int .i64 1]) (by simp [results, Tryz.results32, go_sem]) rfl (CallsPost.bad HN.out HB.out)
   by_cases h2 : 64 ≤ x.th
   ·
    have HN := Lib.hid (BAD.out (step_bad (.inr (.inl h2))))
    go_wp2
    exact bodyPost_ret (v := .tuple #[.slice none 0 0, .int .i64 1]) (by simp [results, Tryz.results32, go_sem]) rfl (CallsPost.bad HN.out HB.out)
   cases hopn : s.opn x.th with
   | none =>
    have HP := Lib.hid hopn
    simp only [Option.isSome_none]
    cases hd : x.done with
    | true =>
     have HN := Lib.hid (BAD.out (step_bad (.inr (.inr (by rw [HP.out, hd]; simp)))))
     have HD := Lib.hid hd
     clear hd hopn hcc
     rw [HD.out] at HB
     go_wp2
     exact bodyPost_ret (v := .tuple #[.slice none 0 0, .int .i64 1]) (by simp [results, Tryz.results32, go_sem]) rfl (CallsPost.bad HN.out HB.out)
    | false =>
     have hgood : ¬ (x.th < 0 ∨ 64 ≤ x.th ∨ (s.opn x.th).isSome ≠ x.done) := by rw [HP.out, hd]; rintro (h | h | h) <;> first | omega | exact h rfl
     have HG := Lib.hid hgood
     have HD := Lib.hid hd
     rw [hd] at HB HOw HM HSw
     clear hd hopn hcc hgood
     go_wp2_with fail
     refine (histSame_calls _ _ x.res ResD.nil _ _ _ _ _ _ HSw.out (Sl.nil _ _)).mono ?_
     rintro e w1 ⟨rfl, hb1⟩
     obtain ⟨hc1, hf1⟩ := bcell hb1
     have hs1 := hb1.size
     have K1 := Lib.hid (HB.out.trans (hb1.mono (by simp; omega)))
     have HO1 := Lib.hid (HOw.out.below hb1)
     have HM1 := Lib.hid (HM.out.kept (hb1.block _ (by simp; omega)))
     clear hb1
     simp only [World.size_alloc] at hs1 hc1 hf1
     have g1 : wr.heap.size < wr.heap.size + 1 := by omega
     have g2 : wr.heap.size < w1.heap.size := by omega
     by_cases hz : x.res = ResD.nil
     case neg =>
      have HN := Lib.hid (BAD.out (step_newBad HG.out HD.out hz))
      rw [decide_eq_false hz]
      clear hz
      go_wp2
      exact bodyPost_ret (v := .tuple #[.slice none 0 0, .int .i64 1]) (by simp [results, Tryz.results32, go_sem]) rfl (CallsPost.bad HN.out K1.out)
     have hst := step_new (i := k) HG.out HD.out hz
     have HN := Lib.hid (HST.out.trans hst)
     have HF2 := Lib.hid (step_fits hst hfit.out)
     rw [decide_eq_true hz]
     clear hz hst
     go_wp2_with (at_mapUpdate; refine wpList_updateI rfl _ _ _ rfl HM1.out okx.out (p := s.out.length) (by omega) (by unfold maxLen; omega) rfl rfl rfl ?_)
     intro w2 hm2 hg2
     have hc2 : ∀ o, w2.cell? ⟨wr.heap.size, o, none⟩ = w1.cell? ⟨wr.heap.size, o, none⟩ := fun o => World.cell?_of_block (w := w1) (hg2.block wr.heap.size g2 (fun e => by have := Option.some.inj e; omega))
     have hs2 := hg2.size
     have K2 := Lib.hid (below_of_grown K1.out hg2 (fun k hk => Nat.le_of_eq (Option.some.inj hk)))
     have HO2 := Lib.hid (HO1.out.move (Same.of_grown hg2 (fun k hk e => by have := Option.some.inj e; omega)))
     have HM2 := Lib.hid hm2
     have HNE := Lib.hid (show ∀ k, k = w.heap.size → some k ≠ (Value.slice A0 s.out.length c0).ownBlock from fun k hk e => by have h1 : w.heap.size < k := HO2.out.1 k e.symm; omega)
     clear hm2 hg2
     have g3 : w.heap.size < w2.heap.size := by omega
     go_wp2_with (at_builtin; refine wpList_own_append1 (ty := tCall) (w := w) (S := fun b => w.heap.size < b) (Sy := fun _ => False) (v := .slice A0 s.out.length c0) (xs := s.out) (x := ⟨x.th, x.op, k, -1, ResD.nil⟩) rfl _ _ 63 70 152 _ rfl elemCall rfl ?hown rfl (by simp) ⟨_, _, _, Sl.nil _ _, rfl⟩ ?hB (fun _ h => Nat.le_of_lt h) (fun _ _ h => Nat.lt_of_lt_of_le g3 h) ?hbytes ?hlen (fun _ h => h.elim) ?_)
     case hown => exact HO2.out
     case hB => exact K2.out
     case hbytes => omega
     case hlen => unfold maxLen; omega
     intro v3 w3 ho3 hb3 hg3 _
     have HO3 := Lib.hid ho3
     have HB3 := Lib.hid hb3
     have HM3 := Lib.hid (HM2.out.kept (hg3.block _ HM2.out.lt (HNE.out _ rfl)))
     clear ho3 hb3 hg3
     go_wp2
     go_roundw
     case rel => exact ⟨k + 1, ⟨s.out ++ [⟨x.th, x.op, k, -1, ResD.nil⟩], upd s.opn x.th (some s.out.length)⟩, by omega, by first | (go_num; done) | (go_num; omega), HN, HF2, by simp; omega, HO3, HM3, HB3⟩
     case measure => simp [intOf]; omega
   | some q =>
    have HP := Lib.hid hopn
    simp only [Option.isSome_some]
    cases hd : x.done with
    | false =>
     have HN := Lib.hid (BAD.out (step_bad (.inr (.inr (by rw [HP.out, hd]; simp)))))
     have HD := Lib.hid hd
     clear hd hopn hcc
     rw [HD.out] at HB
     go_wp2
     exact bodyPost_ret (v := .tuple #[.slice none 0 0, .int .i64 1]) (by simp [results, Tryz.results32, go_sem]) rfl (CallsPost.bad HN.out HB.out)
    | true =>
     have hgood : ¬ (x.th < 0 ∨ 64 ≤ x.th ∨ (s.opn x.th).isSome ≠ x.done) := by rw [HP.out, hd]; rintro (h | h | h) <;> first | omega | exact h rfl
     have HG := Lib.hid hgood
     have HD := Lib.hid hd
     obtain rfl := hcc q hopn
     have hq : q < s.out.length := hfit.out _ _ hopn
     obtain ⟨y, hy⟩ := getElem?_of_lt hq
     have HY := Lib.hid hy
     obtain ⟨g, rfl, hgS, hgl'⟩ := ho.out.head (by omega)
     rw [hd] at HB HOw HM HSw
     obtain ⟨vp, vo, vi, y0, y1, y2, y3, y4, y5, y6, y7, y8, y9, y10, y11, y12⟩ := HOw.out.atCall hy
     clear hd hopn hcc hgood hy
     go_wp2
     refine wp_region_sched [(0, true), (1, true), (2, true), (3, true), (4, true), (5, true), (6, true), (7, true)] (Kept (wr.alloc (.cells #[.int .i64 x.th, .bool true, .int .i64 x.op.k, .int .i64 x.op.a, .int .i64 x.op.b, .int .i64 x.op.p, .int .i64 x.op.v, .int .i64 x.res.st, .int .i64 x.res.id, .slice a1 x.res.ps.length d1, .slice a2 x.res.os.length d2, .slice a3 x.res.is.length d3] 52)) (fun _ => True)) (by kernel_rfl) (by kernel_rfl) ?_
     have HS := Lib.hid (Kept.refl (wr.alloc (.cells #[.int .i64 x.th, .bool true, .int .i64 x.op.k, .int .i64 x.op.a, .int .i64 x.op.b, .int .i64 x.op.p, .int .i64 x.op.v, .int .i64 x.res.st, .int .i64 x.res.id, .slice a1 x.res.ps.length d1, .slice a2 x.res.os.length d2, .slice a3 x.res.is.length d3] 52)) (fun _ => True)).drew
     have g1 : wr.heap.size < wr.heap.size + 1 := by omega
     have g2 : g < wr.heap.size + 1 := by omega
     repeat (refine sched_take (v := ?_) (by simp only [opT, opS, opZ]; rfl) (Or.inl ⟨by rfl, fun W hW => ?_⟩) HS.out ?_; rotate_left; (have hc := fun b o hb => hW.cell b o trivial hb; clear hW; go_simp; with_reducible rfl); simp only [Act.put, putT, putZ, putS])
     refine sched_take (v := .bool (!decide (y.op = x.op))) (by simp only [opT, opS, opZ]; rfl) (Or.inl ⟨by rfl, fun W _ => exec_neqOp W y.op x.op rfl rfl rfl⟩) HS.out ?_
     simp only [Act.put, putT, putZ, putS]
     refine sched_done ?_
     by_cases hz : y.op = x.op
     case neg =>
      have HN := Lib.hid (BAD.out (step_doneBad HG.out HD.out HP.out HY.out hz))
      have e : (!decide (y.op = x.op)) = true := by simp [hz]
      rw [e]
      clear e hz y0 y1 y2 y3 y4 y5 y6 y7 y8 y9 y10 y11 y12
      go_wp2
      exact bodyPost_ret (v := .tuple #[.slice none 0 0, .int .i64 1]) (by simp [results, Tryz.results32, go_sem]) rfl (CallsPost.bad HN.out HB.out.drew)
     have hst := step_done (i := k) HG.out HD.out HP.out HY.out hz
     have HN := Lib.hid (HST.out.trans hst)
     have HF2 := Lib.hid (step_fits hst hfit.out)
     have e : (!decide (y.op = x.op)) = false := by simp [hz]
     rw [e]
     clear e hz hst y0 y1 y2 y3 y4 y5 y6 y7 y8 y9 y10 y11 y12
     have HSd := Lib.hid (HSw.out.below (Below.refl (wr.alloc (.cells #[.int .i64 x.th, .bool true, .int .i64 x.op.k, .int .i64 x.op.a, .int .i64 x.op.b, .int .i64 x.op.p, .int .i64 x.op.v, .int .i64 x.res.st, .int .i64 x.res.id, .slice a1 x.res.ps.length d1, .slice a2 x.res.os.length d2, .slice a3 x.res.is.length d3] 52)).heap.size (wr.alloc (.cells #[.int .i64 x.th, .bool true, .int .i64 x.op.k, .int .i64 x.op.a, .int .i64 x.op.b, .int .i64 x.op.p, .int .i64 x.op.v, .int .i64 x.res.st, .int .i64 x.res.id, .slice a1 x.res.ps.length d1, .slice a2 x.res.os.length d2, .slice a3 x.res.is.length d3] 52))).drew)
     go_wp2_with fail
     refine (histOwn_calls _ _ x.res _ _ _ HSd.out fewx.out).mono ?_
     rintro e w1 ⟨p', o', i', rfl, hsl1, hb1⟩
     obtain ⟨hc1, hf1⟩ := bcell hb1
     have hs1 := hb1.size
     have hbd : Below (wr.alloc (.cells #[.int .i64 x.th, .bool true, .int .i64 x.op.k, .int .i64 x.op.a, .int .i64 x.op.b, .int .i64 x.op.p, .int .i64 x.op.v, .int .i64 x.res.st, .int .i64 x.res.id, .slice a1 x.res.ps.length d1, .slice a2 x.res.os.length d2, .slice a3 x.res.is.length d3] 52)).heap.size (wr.alloc (.cells #[.int .i64 x.th, .bool true, .int .i64 x.op.k, .int .i64 x.op.a, .int .i64 x.op.b, .int .i64 x.op.p, .int .i64 x.op.v, .int .i64 x.res.st, .int .i64 x.res.id, .slice a1 x.res.ps.length d1, .slice a2 x.res.os.length d2, .slice a3 x.res.is.length d3] 52)) w1 := ((Below.refl _ (wr.alloc (.cells #[.int .i64 x.th, .bool true, .int .i64 x.op.k, .int .i64 x.op.a, .int .i64 x.op.b, .int .i64 x.op.p, .int .i64 x.op.v, .int .i64 x.res.st, .int .i64 x.res.id, .slice a1 x.res.ps.length d1, .slice a2 x.res.os.length d2, .slice a3 x.res.is.length d3] 52))).drew).trans hb1
     have K1 := Lib.hid (HB.out.trans (hbd.mono (by simp; omega)))
     have HO1 := Lib.hid (HOw.out.below hbd)
     have HM1 := Lib.hid (HM.out.kept (hbd.block _ (by simp; omega)))
     obtain ⟨e1, f1, rfl⟩ := hsl1.1.slice
     obtain ⟨e2, f2, rfl⟩ := hsl1.2.1.slice
     obtain ⟨e3, f3, rfl⟩ := hsl1.2.2.slice
     have HR1 := Lib.hid hsl1
     clear hb1 hbd hsl1
     simp only [World.size_alloc, World.size_drew] at hs1 hc1 hf1
     have g3 : g < w1.heap.size := by omega
     have g4 : wr.heap.size < w1.heap.size := by omega
     have g5 : w.heap.size < w1.heap.size := by omega
     have g6 : g ≠ wr.heap.size := by omega
     have g7 : ¬ wr.heap.size = g := by omega
     have hcb := hc1 wr.heap.size 0 (by omega)
     clear hc1 hf1
     have hcell : ∃ u7 u8 u9 u10 u11 u12, w1.cell? ⟨g, q * 13 + 7, none⟩ = some u7 ∧ w1.cell? ⟨g, q * 13 + 8, none⟩ = some u8 ∧ w1.cell? ⟨g, q * 13 + 9, none⟩ = some u9 ∧ w1.cell? ⟨g, q * 13 + 10, none⟩ = some u10 ∧ w1.cell? ⟨g, q * 13 + 11, none⟩ = some u11 ∧ w1.cell? ⟨g, q * 13 + 12, none⟩ = some u12 := by
      obtain ⟨vp, vo, vi, _, _, _, _, _, _, _, y7, y8, y9, y10, y11, y12⟩ := HO1.out.atCall HY.out
      exact ⟨_, _, _, _, _, _, y7, y8, y9, y10, y11, y12⟩
     obtain ⟨u7', u8', u9', u10', u11', u12', y7, y8, y9, y10, y11, y12⟩ := hcell
     have FZ := Lib.hid (fun j => HO1.out.frozenC j)
     have Y7 := Lib.hid y7
     have Y8 := Lib.hid (cell_far (u := .int .i64 (k : Int)) (show q * 13 + 7 ≠ q * 13 + 8 by omega) y8)
     have Y9 := Lib.hid (cell_far (u := .int .i64 (k : Int)) (show q * 13 + 7 ≠ q * 13 + 9 by omega) y9)
     have Y10 := Lib.hid (cell_far (u := .int .i64 (k : Int)) (show q * 13 + 7 ≠ q * 13 + 10 by omega) y10)
     have Y11 := Lib.hid (cell_far (u := .int .i64 (k : Int)) (show q * 13 + 7 ≠ q * 13 + 11 by omega) y11)
     have Y12 := Lib.hid (cell_far (u := .int .i64 (k : Int)) (show q * 13 + 7 ≠ q * 13 + 12 by omega) y12)
     clear y7 y8 y9 y10 y11 y12
     have HCB := Lib.hid hcb
     clear hcb
     go_wp2_with (refine wpList_storeI (g := g) (off := q * 13 + 7) rfl _ _ rfl rfl (n := (k : Int)) rfl Y7.out (FZ.out _) ?_)
     intro w2 HW2
     have C8 := Lib.hid (show w2.cell? ⟨g, q * 13 + 8, none⟩ = some u8' from by rw [HW2.out]; exact Y8.out)
     have C9 := Lib.hid (show w2.cell? ⟨g, q * 13 + 8 + 1, none⟩ = some u9' from by rw [HW2.out]; exact Y9.out)
     have C10 := Lib.hid (show w2.cell? ⟨g, q * 13 + 8 + 2, none⟩ = some u10' from by rw [HW2.out]; exact Y10.out)
     have C11 := Lib.hid (show w2.cell? ⟨g, q * 13 + 8 + 3, none⟩ = some u11' from by rw [HW2.out]; exact Y11.out)
     have C12 := Lib.hid (show w2.cell? ⟨g, q * 13 + 8 + 4, none⟩ = some u12' from by rw [HW2.out]; exact Y12.out)
     have FZ2 := Lib.hid (show ∀ j, w2.frozen? ⟨g, j, none⟩ = false from fun j => by rw [HW2.out, World.frozen?_setCell]; exact FZ.out j)
     go_wp2_with (refine wpList_storeR (g := g) (off := q * 13 + 8) rfl _ _ rfl rfl rfl C8.out C9.out C10.out C11.out C12.out FZ2.out ?_)
     intro w3 HW3
     rw [HW2.out] at HW3
     have same3 : ∀ j, j ≠ g → w3.heap[j]? = w1.heap[j]? := fun j hj => by
      rw [HW3.out, Below.heap_setCell _ ⟨g, _, none⟩ _ j hj, Below.heap_setCell _ ⟨g, _, none⟩ _ j hj, Below.heap_setCell _ ⟨g, _, none⟩ _ j hj, Below.heap_setCell _ ⟨g, _, none⟩ _ j hj, Below.heap_setCell _ ⟨g, _, none⟩ _ j hj, Below.heap_setCell _ ⟨g, _, none⟩ _ j hj]
     have HO3 := Lib.hid (show Own tCall 70 w3 (fun b => w.heap.size < b) (.slice (some ⟨g, 0, none⟩) s.out.length c0) (s.out.set q ⟨y.th, y.op, y.frm, k, x.res⟩) from by
      rw [HW3.out]
      exact HO1.out.setCall HY.out k x.res (HR1.out.mono fun j hj _ => by
       have hj' : wr.heap.size + 1 ≤ j := by simpa using hj
       exact ⟨by omega, by omega⟩))
     have hgg : w.heap.size ≤ g := Nat.le_of_lt hgS
     have K3 := Lib.hid (show Below w.heap.size w w3 from by
      rw [HW3.out]
      exact (((((K1.out.setCell (p := ⟨g, _, none⟩) hgg _).setCell (p := ⟨g, _, none⟩) hgg _).setCell (p := ⟨g, _, none⟩) hgg _).setCell (p := ⟨g, _, none⟩) hgg _).setCell (p := ⟨g, _, none⟩) hgg _).setCell (p := ⟨g, _, none⟩) hgg _)
     have HM3 := Lib.hid (HM1.out.kept (same3 _ (by omega)))
     have c3 : w3.cell? ⟨wr.heap.size, 0, none⟩ = some (.int .i64 x.th) := (World.cell?_of_block (w := w1) (same3 _ (by omega))).trans (HCB.out.trans (cell_of_row _ _ 0 _ _ _ (heap_alloc_new wr (.cells #[.int .i64 x.th, .bool true, .int .i64 x.op.k, .int .i64 x.op.a, .int .i64 x.op.b, .int .i64 x.op.p, .int .i64 x.op.v, .int .i64 x.res.st, .int .i64 x.res.id, .slice a1 x.res.ps.length d1, .slice a2 x.res.os.length d2, .slice a3 x.res.is.length d3] 52))))
     clear same3
     go_wp2_with (at_delete; refine wpList_deleteI rfl _ _ rfl HM3.out okx.out rfl rfl ?_)
     intro w4 hm4 hg4
     have K4 := Lib.hid (below_of_grown K3.out hg4 (fun k hk => Nat.le_of_eq (Option.some.inj hk)))
     have HO4 := Lib.hid (HO3.out.move (Same.of_grown hg4 (fun k hk e => by have := Option.some.inj e; omega)))
     have HM4 := Lib.hid (hm4.mono (Nat.le_succ k))
     have HLE := Lib.hid (step_len (show step k x s = some _ from HST.out.symm.trans HN.out))
     rw [show s.out.length = (s.out.set q ⟨y.th, y.op, y.frm, k, x.res⟩).length from by simp]
     clear hm4 hg4 c3
     go_wp2
     go_roundw
     case rel => exact ⟨k + 1, ⟨s.out.set q ⟨y.th, y.op, y.frm, k, x.res⟩, upd s.opn x.th none⟩, by omega, by first | (go_num; done) | (go_num; omega), HN, HF2, by simp; omega, by simpa using HO4, HM4, K4⟩
     case measure => simp [intOf]; omega
  ·
   have hk2 : l.take k = l := List.take_of_length_le (by omega)
   rw [hk2] at hrun
   clear hk2
   go_wp2
   refine bodyPost_ret (v := .tuple #[.slice A0 s.out.length c0, .int .i64 0]) (by simp [results, Tryz.results32, go_sem]) rfl ⟨_, by rw [hrun.out]; rfl, by rw [hrun.out]; exact ho.out.row.mono fun k hk _ => Nat.le_of_lt hk, hb.out⟩
end Go.Proofs.YtpehmmdbjakkpaaGreat
namespace Go.Proofs.YtpehmmdbjakkpaaGreat
open Go.RowKit
set_option linter.unusedSimpArgs false
set_option linter.unusedVariables false
def EvD.small (x : EvD) : Prop := x.res.ps.length ≤ 100 ∧ x.res.os.length ≤ 100 ∧ x.res.is.length ≤ 100
instance (x : EvD) : Decidable x.small := by unfold EvD.small; exact inferInstance
def fewOf (l : List EvD) (n : Int) : Bool := l.all (fun x => decide x.small) && decide ((l.length : Int) ≤ n)
theorem fewOf_bad {l : List EvD} {n : Int} {k : Nat} {x : EvD} (hx : l[k]? = some x) (h : ¬ x.small) : fewOf l n = false := by
 have : l.all (fun x => decide x.small) = false := by
  rw [List.all_eq_false]
  exact ⟨x, List.mem_of_getElem? hx, by simpa using h⟩
 simp [fewOf, this]
theorem fewOf_good {l : List EvD} {n : Int} (h : ∀ j x, j < l.length → l[j]? = some x → x.small) : fewOf l n = decide ((l.length : Int) ≤ n) := by
 have : l.all (fun x => decide x.small) = true := by
  rw [List.all_eq_true]
  intro x hx
  obtain ⟨j, hj, e⟩ := List.getElem_of_mem hx
  simpa using h j x hj (by rw [List.getElem?_eq_getElem hj, e])
 simp [fewOf, this]
theorem Row.atEvF {w : World} {S : Nat → Prop} {A : Option Addr} {n c : Nat} {xs : List EvD} (h : Row tEv w S (.slice A n c) xs) {j : Nat} {x : EvD} (hj : xs[j]? = some x) :
  ∃ b off a1 d1 a2 d2 a3 d3, A = some ⟨b, off, none⟩ ∧ b < w.heap.size ∧ Sl w S x.res (.slice a1 x.res.ps.length d1) (.slice a2 x.res.os.length d2) (.slice a3 x.res.is.length d3) ∧ w.cell? ⟨b, off + j * 12, none⟩ = some (.int .i64 x.th) ∧ w.cell? ⟨b, off + j * 12 + 1, none⟩ = some (.bool x.done) ∧ w.cell? ⟨b, off + j * 12 + 2, none⟩ = some (.int .i64 x.op.k) ∧ w.cell? ⟨b, off + j * 12 + 3, none⟩ = some (.int .i64 x.op.a) ∧ w.cell? ⟨b, off + j * 12 + 4, none⟩ = some (.int .i64 x.op.b) ∧ w.cell? ⟨b, off + j * 12 + 5, none⟩ = some (.int .i64 x.op.p) ∧ w.cell? ⟨b, off + j * 12 + 6, none⟩ = some (.int .i64 x.op.v) ∧ w.cell? ⟨b, off + j * 12 + 7, none⟩ = some (.int .i64 x.res.st) ∧ w.cell? ⟨b, off + j * 12 + 8, none⟩ = some (.int .i64 x.res.id) ∧ w.cell? ⟨b, off + j * 12 + 9, none⟩ = some (.slice a1 x.res.ps.length d1) ∧ w.cell? ⟨b, off + j * 12 + 10, none⟩ = some (.slice a2 x.res.os.length d2) ∧ w.cell? ⟨b, off + j * 12 + 11, none⟩ = some (.slice a3 x.res.is.length d3) := by
 obtain ⟨b, off, cs, hA, _, hl, ⟨p, o, i, hs, rfl⟩, hr⟩ := h.at hj
 obtain ⟨a1, d1, rfl⟩ := hs.1.slice
 obtain ⟨a2, d2, rfl⟩ := hs.2.1.slice
 obtain ⟨a3, d3, rfl⟩ := hs.2.2.slice
 exact ⟨b, off, a1, d1, a2, d2, a3, d3, hA, hl, hs, hr 0 _ rfl, hr 1 _ rfl, hr 2 _ rfl, hr 3 _ rfl, hr 4 _ rfl, hr 5 _ rfl, hr 6 _ rfl, hr 7 _ rfl, hr 8 _ rfl, hr 9 _ rfl, hr 10 _ rfl, hr 11 _ rfl⟩
theorem Row.atCallF {w : World} {S : Nat → Prop} {A : Option Addr} {n c : Nat} {xs : List CallD} (h : Row tCall w S (.slice A n c) xs) {j : Nat} {x : CallD} (hj : xs[j]? = some x) :
  ∃ b off a1 d1 a2 d2 a3 d3, A = some ⟨b, off, none⟩ ∧ b < w.heap.size ∧ Sl w S x.res (.slice a1 x.res.ps.length d1) (.slice a2 x.res.os.length d2) (.slice a3 x.res.is.length d3) ∧ w.cell? ⟨b, off + j * 13, none⟩ = some (.int .i64 x.th) ∧ w.cell? ⟨b, off + j * 13 + 1, none⟩ = some (.int .i64 x.op.k) ∧ w.cell? ⟨b, off + j * 13 + 2, none⟩ = some (.int .i64 x.op.a) ∧ w.cell? ⟨b, off + j * 13 + 3, none⟩ = some (.int .i64 x.op.b) ∧ w.cell? ⟨b, off + j * 13 + 4, none⟩ = some (.int .i64 x.op.p) ∧ w.cell? ⟨b, off + j * 13 + 5, none⟩ = some (.int .i64 x.op.v) ∧ w.cell? ⟨b, off + j * 13 + 6, none⟩ = some (.int .i64 x.frm) ∧ w.cell? ⟨b, off + j * 13 + 7, none⟩ = some (.int .i64 x.to) ∧ w.cell? ⟨b, off + j * 13 + 8, none⟩ = some (.int .i64 x.res.st) ∧ w.cell? ⟨b, off + j * 13 + 9, none⟩ = some (.int .i64 x.res.id) ∧ w.cell? ⟨b, off + j * 13 + 10, none⟩ = some (.slice a1 x.res.ps.length d1) ∧ w.cell? ⟨b, off + j * 13 + 11, none⟩ = some (.slice a2 x.res.os.length d2) ∧ w.cell? ⟨b, off + j * 13 + 12, none⟩ = some (.slice a3 x.res.is.length d3) := by
 obtain ⟨b, off, cs, hA, _, hl, ⟨p, o, i, hs, rfl⟩, hr⟩ := h.at hj
 obtain ⟨a1, d1, rfl⟩ := hs.1.slice
 obtain ⟨a2, d2, rfl⟩ := hs.2.1.slice
 obtain ⟨a3, d3, rfl⟩ := hs.2.2.slice
 exact ⟨b, off, a1, d1, a2, d2, a3, d3, hA, hl, hs, hr 0 _ rfl, hr 1 _ rfl, hr 2 _ rfl, hr 3 _ rfl, hr 4 _ rfl, hr 5 _ rfl, hr 6 _ rfl, hr 7 _ rfl, hr 8 _ rfl, hr 9 _ rfl, hr 10 _ rfl, hr 11 _ rfl, hr 12 _ rfl⟩
def beforeB (a b : CallD) : Bool := decide (0 ≤ a.to) && decide (a.to < b.frm)
set_option maxRecDepth 100000 in
set_option maxHeartbeats 2000000 in
theorem before_calls (w : World) (a b : CallD) (p1 p2 p3 q1 q2 q3 : Value) : Calls Tryz.prog 53 #[.agg #[.int .i64 a.th, .int .i64 a.op.k, .int .i64 a.op.a, .int .i64 a.op.b, .int .i64 a.op.p, .int .i64 a.op.v, .int .i64 a.frm, .int .i64 a.to, .int .i64 a.res.st, .int .i64 a.res.id, p1, p2, p3], .agg #[.int .i64 b.th, .int .i64 b.op.k, .int .i64 b.op.a, .int .i64 b.op.b, .int .i64 b.op.p, .int .i64 b.op.v, .int .i64 b.frm, .int .i64 b.to, .int .i64 b.res.st, .int .i64 b.res.id, q1, q2, q3]] w fun e w' => e = .returned (.bool (beforeB a b)) ∧ Below w.heap.size w w' := by
 have hw : ∀ o1 o2, Below w.heap.size w ((w.alloc o1).alloc o2) := fun o1 o2 => ((Below.refl w.heap.size w).alloc (Nat.le_refl _) _).alloc (by simp) _
 have HW := Lib.hid hw
 clear hw
 by_cases h : 0 ≤ a.to
 ·
  have e : beforeB a b = decide (a.to < b.frm) := by simp [beforeB, h]
  rw [e]
  clear e
  go_enter Tryz.func53, Tryz.ntmps53
  go_wp2
  all_goals (go_ret; exact ⟨by first | rfl | simp_all, HW.out _ _⟩)
 ·
  have e : beforeB a b = false := by simp [beforeB, h]
  rw [e]
  clear e
  go_enter Tryz.func53, Tryz.ntmps53
  go_wp2
  all_goals (go_ret; exact ⟨by first | rfl | simp_all, HW.out _ _⟩)
set_option maxRecDepth 100000 in
set_option maxHeartbeats 4000000 in
theorem few12_calls (w : World) (S : Nat → Prop) (v : Value) (l : List EvD) (n : Int) (h : Row tEv w S v l) : Calls Tryz.prog 6 #[v, .int .i64 n] w fun e w' => e = .returned (.bool (fewOf l n)) ∧ Below w.heap.size w w' := by
 obtain ⟨A, c, rfl⟩ := h.slice
 have hm := h.len
 unfold maxLen at hm
 have H := Lib.hid h
 clear h
 go_enter Tryz.func6, Tryz.ntmps6
 go_wp2
 go_loopw [9] (fun i wr => ∃ k : Nat, k ≤ l.length ∧ i = .int .i64 (k : Int) ∧ Hid (∀ j x, j < k → l[j]? = some x → x.small) ∧ Hid (Below w.heap.size w wr)) (fun i _ => l.length - (intOf i).toNat)
 case atStart => exact ⟨0, Nat.zero_le _, rfl, fun j x hj => absurd hj (by omega), Below.refl _ _⟩
 case round =>
  obtain ⟨k, hk, rfl, he, hb⟩ := hrel
  have hwr := hb.out.size
  by_cases hlt : k < l.length
  ·
   obtain ⟨x, hx⟩ := getElem?_of_lt hlt
   obtain ⟨b, off, a1, d1, a2, d2, a3, d3, rfl, hbl, _, x0, x1, x2, x3, x4, x5, x6, x7, x8, x9, x10, x11⟩ := (H.out.below hb.out).atEvF hx
   have HX := Lib.hid hx
   clear hx
   by_cases q1 : x.res.ps.length ≤ 100
   case neg =>
    have HN := Lib.hid (fewOf_bad (n := n) HX.out (fun h => q1 h.1))
    go_wp2
    go_ret
    exact ⟨by rw [HN.out]; rfl, hb.out.alloc hwr _⟩
   by_cases q2 : x.res.os.length ≤ 100
   case neg =>
    have HN := Lib.hid (fewOf_bad (n := n) HX.out (fun h => q2 h.2.1))
    go_wp2
    go_ret
    exact ⟨by rw [HN.out]; rfl, hb.out.alloc hwr _⟩
   by_cases q3 : x.res.is.length ≤ 100
   case neg =>
    have HN := Lib.hid (fewOf_bad (n := n) HX.out (fun h => q3 h.2.2))
    go_wp2
    go_ret
    exact ⟨by rw [HN.out]; rfl, hb.out.alloc hwr _⟩
   go_wp2
   go_roundw
   case rel => exact ⟨k + 1, by omega, by first | (go_num; done) | (go_num; omega), fun j y hj hy => (by
    rcases Nat.lt_or_ge j k with h | h
    ·
     exact he.out j y h hy
    ·
     obtain rfl : j = k := by omega
     rw [HX.out] at hy
     injection hy with hy
     subst hy
     exact ⟨q1, q2, q3⟩), hb.out.alloc hwr _⟩
   case measure => simp [intOf]; omega
  ·
   obtain rfl : k = l.length := by omega
   have hd := fewOf_good (n := n) he.out
   have HN := Lib.hid hd
   clear hd
   go_wp2
   all_goals (go_ret; exact ⟨by rw [HN.out]; first | rfl | simp_all, hb.out⟩)
end Go.Proofs.YtpehmmdbjakkpaaGreat
namespace Go.Proofs.YtpehmmdbjakkpaaGreat
open Go.RowKit
set_option linter.unusedSimpArgs false
set_option linter.unusedVariables false
def pendOf (l : List CallD) : Int := ((l.filter fun c => decide (c.to < 0)).length : Int)
theorem pendOf_succ {l : List CallD} {k : Nat} {x : CallD} (h : l[k]? = some x) : pendOf (l.take (k + 1)) = pendOf (l.take k) + (if x.to < 0 then 1 else 0) := by
 unfold pendOf
 rw [List.take_add_one, h, Option.toList_some, List.filter_append, List.length_append]
 by_cases hn : x.to < 0
 ·
  simp [hn]
 ·
  simp [hn]
theorem pendOf_nonneg (l : List CallD) : 0 ≤ pendOf l := by unfold pendOf; omega
theorem pendOf_le (l : List CallD) (k : Nat) : pendOf (l.take k) ≤ (k : Int) := by
 unfold pendOf
 have h1 := List.length_filter_le (fun c : CallD => decide (c.to < 0)) (l.take k)
 rw [List.length_take] at h1
 omega
set_option maxRecDepth 100000 in
set_option maxHeartbeats 2000000 in
theorem pending_calls (w : World) (S : Nat → Prop) (v : Value) (l : List CallD) (h : Row tCall w S v l) : Calls Tryz.prog 34 #[v] w fun e w' => e = .returned (.int .i64 (pendOf l)) ∧ Below w.heap.size w w' := by
 obtain ⟨A, c, rfl⟩ := h.slice
 have hm := h.len
 unfold maxLen at hm
 have H := Lib.hid h
 clear h
 go_enter Tryz.func34, Tryz.ntmps34
 go_wp2
 go_loopw [3, 8] (fun o i wr => ∃ k : Nat, k ≤ l.length ∧ i = .int .i64 (k : Int) ∧ o = .int .i64 (pendOf (l.take k)) ∧ Hid (Below w.heap.size w wr)) (fun _ i _ => l.length - (intOf i).toNat)
 case atStart => exact ⟨0, Nat.zero_le _, rfl, rfl, Below.refl _ _⟩
 case round =>
  obtain ⟨k, hk, rfl, rfl, hb⟩ := hrel
  have hwr := hb.out.size
  by_cases hlt : k < l.length
  ·
   obtain ⟨x, hx⟩ := getElem?_of_lt hlt
   obtain ⟨b, off, a1, d1, a2, d2, a3, d3, rfl, hbl, _, x0, x1, x2, x3, x4, x5, x6, x7, x8, x9, x10, x11, x12⟩ := (H.out.below hb.out).atCallF hx
   have HS := Lib.hid (pendOf_succ hx)
   have hp1 := pendOf_nonneg (l.take k)
   have hp2 := pendOf_le l k
   clear hx
   by_cases hn : x.to < 0
   ·
    have HE := Lib.hid (show pendOf (l.take (k + 1)) = pendOf (l.take k) + 1 by rw [HS.out, if_pos hn])
    generalize pendOf (l.take k) = m at *
    go_wp2
    go_roundw
    case rel => exact ⟨k + 1, by omega, by first | (go_num; done) | (go_num; omega), by rw [HE.out], hb.out.alloc hwr _⟩
    case measure => simp [intOf]; omega
   ·
    have HE := Lib.hid (show pendOf (l.take (k + 1)) = pendOf (l.take k) by rw [HS.out, if_neg hn]; omega)
    generalize pendOf (l.take k) = m at *
    go_wp2
    go_roundw
    case rel => exact ⟨k + 1, by omega, by first | (go_num; done) | (go_num; omega), by rw [HE.out], hb.out.alloc hwr _⟩
    case measure => simp [intOf]; omega
  ·
   have hk2 : l.take k = l := List.take_of_length_le (by omega)
   rw [hk2]
   clear hk2
   go_wp2
   go_ret
   exact ⟨rfl, hb.out⟩
end Go.Proofs.YtpehmmdbjakkpaaGreat
namespace Go.Proofs.YtpehmmdbjakkpaaGreat
open Go.RowKit
set_option linter.unusedSimpArgs false
set_option linter.unusedVariables false
structure St.Inv (s : St) (k : Nat) : Prop where
 each : ∀ (i : Nat) (c : CallD), s.out[i]? = some c → 0 ≤ c.frm ∧ c.frm < (k : Int) ∧ c.to < (k : Int) ∧ (0 ≤ c.to → c.frm < c.to)
 asc : ∀ (i j : Nat) (c d : CallD), i < j → s.out[i]? = some c → s.out[j]? = some d → c.frm < d.frm
 same : ∀ (i j : Nat) (c d : CallD), i < j → s.out[i]? = some c → s.out[j]? = some d → c.th = d.th → 0 ≤ c.to ∧ c.to < d.frm
 opened : ∀ (i : Nat) (c : CallD), s.out[i]? = some c → c.to < 0 → s.opn c.th = some i
 open_ : ∀ (q : Int) (p : Nat), s.opn q = some p → ∃ c : CallD, s.out[p]? = some c ∧ c.th = q ∧ c.to < 0
theorem Inv.zero : St.zero.Inv 0 := ⟨fun i c h => by simp [St.zero] at h, fun i j c d _ h => by simp [St.zero] at h, fun i j c d _ h => by simp [St.zero] at h, fun i c h => by simp [St.zero] at h, fun q p h => by cases h⟩
theorem at_append {xs : List CallD} {y c : CallD} {i : Nat} (h : (xs ++ [y])[i]? = some c) : xs[i]? = some c ∨ (i = xs.length ∧ c = y) := by
 rw [List.getElem?_append] at h
 split at h
 ·
  exact .inl h
 ·
  right
  rcases Nat.lt_or_ge (i - xs.length) 1 with h1 | h1
  ·
   have : i = xs.length := by omega
   subst this
   simp at h
   exact ⟨rfl, h.symm⟩
  ·
   rw [List.getElem?_eq_none (by simpa using h1)] at h; cases h
theorem at_lt {xs : List CallD} {c : CallD} {i : Nat} (h : xs[i]? = some c) : i < xs.length := (List.getElem?_eq_some_iff.1 h).1
theorem St.Inv.new {s : St} {k : Nat} (h : s.Inv k) {th : Int} {op : OpD} (ho : s.opn th = none) : St.Inv ⟨s.out ++ [⟨th, op, k, -1, ResD.nil⟩], upd s.opn th (some s.out.length)⟩ (k + 1) := by
 refine ⟨?_, ?_, ?_, ?_, ?_⟩
 ·
  intro i c hc
  rcases at_append hc with hc | ⟨_, rfl⟩
  ·
   have := h.each i c hc; exact ⟨this.1, by omega, by omega, this.2.2.2⟩
  ·
   exact ⟨by simp, by simp; omega, by simp; omega, fun h => by simp at h⟩
 ·
  intro i j c d hij hc hd
  rcases at_append hc with hc | ⟨hi, rfl⟩
  ·
   rcases at_append hd with hd | ⟨_, rfl⟩
   ·
    exact h.asc i j c d hij hc hd
   ·
    exact (h.each i c hc).2.1
  ·
   rcases at_append hd with hd | ⟨hj, _⟩
   ·
    have := at_lt hd; omega
   ·
    omega
 ·
  intro i j c d hij hc hd hth
  rcases at_append hc with hc | ⟨hi, rfl⟩
  ·
   rcases at_append hd with hd | ⟨_, rfl⟩
   ·
    exact h.same i j c d hij hc hd hth
   ·
    refine ⟨?_, (h.each i c hc).2.2.1⟩
    by_cases h1 : c.to < 0
    ·
     have := h.opened i c hc h1
     rw [show c.th = th from hth, ho] at this
     cases this
    ·
     omega
  ·
   rcases at_append hd with hd | ⟨hj, _⟩
   ·
    have := at_lt hd; omega
   ·
    omega
 ·
  intro i c hc hto
  rcases at_append hc with hc | ⟨hi, rfl⟩
  ·
   have h1 := h.opened i c hc hto
   have : c.th ≠ th := fun e => by rw [e, ho] at h1; cases h1
   simp only [upd, if_neg this]
   exact h1
  ·
   simp [upd, hi]
 ·
  intro q p hp
  simp only [upd] at hp
  split at hp
  ·
   injection hp with hp
   subst hp
   exact ⟨⟨th, op, k, -1, ResD.nil⟩, by simp, by simp_all, by simp⟩
  ·
   obtain ⟨c, hc, h1, h2⟩ := h.open_ q p hp
   exact ⟨c, by rw [List.getElem?_append_left (at_lt hc)]; exact hc, h1, h2⟩
theorem at_set {xs : List CallD} {y c : CallD} {p i : Nat} (h : (xs.set p y)[i]? = some c) : (i ≠ p ∧ xs[i]? = some c) ∨ (i = p ∧ c = y) := by
 rw [List.getElem?_set] at h
 split at h
 ·
  subst_vars
  split at h
  ·
   injection h with h; exact .inr ⟨rfl, h.symm⟩
  ·
   cases h
 ·
  exact .inl ⟨by omega, h⟩
theorem St.Inv.done {s : St} {k p : Nat} (h : s.Inv k) {th : Int} {y : CallD} (ho : s.opn th = some p) (hy : s.out[p]? = some y) (r : ResD) : St.Inv ⟨s.out.set p ⟨y.th, y.op, y.frm, k, r⟩, upd s.opn th none⟩ (k + 1) := by
 obtain ⟨y', hy', hyt, hyo⟩ := h.open_ th p ho
 rw [hy] at hy'
 injection hy' with hy'
 subst hy'
 have hye := h.each p y hy
 refine ⟨?_, ?_, ?_, ?_, ?_⟩
 ·
  intro i c hc
  rcases at_set hc with ⟨_, hc⟩ | ⟨_, rfl⟩
  ·
   have := h.each i c hc; exact ⟨this.1, by omega, by omega, this.2.2.2⟩
  ·
   exact ⟨hye.1, by simp only; omega, by simp only; omega, fun _ => hye.2.1⟩
 ·
  intro i j c d hij hc hd
  rcases at_set hc with ⟨_, hc1⟩ | ⟨rfl, rfl⟩
  ·
   rcases at_set hd with ⟨_, hd1⟩ | ⟨rfl, rfl⟩
   ·
    exact h.asc i j c d hij hc1 hd1
   ·
    exact h.asc i _ c y hij hc1 hy
  ·
   rcases at_set hd with ⟨_, hd1⟩ | ⟨rfl, rfl⟩
   ·
    exact h.asc _ j y d hij hy hd1
   ·
    omega
 ·
  intro i j c d hij hc hd hth
  rcases at_set hc with ⟨_, hc1⟩ | ⟨rfl, rfl⟩
  ·
   rcases at_set hd with ⟨_, hd1⟩ | ⟨rfl, rfl⟩
   ·
    exact h.same i j c d hij hc1 hd1 hth
   ·
    exact h.same i _ c y hij hc1 hy hth
  ·
   rcases at_set hd with ⟨_, hd1⟩ | ⟨rfl, rfl⟩
   ·
    have := h.same _ j y d hij hy hd1 hth
    omega
   ·
    omega
 ·
  intro i c hc hto
  rcases at_set hc with ⟨hip, hc⟩ | ⟨rfl, rfl⟩
  ·
   have h1 := h.opened i c hc hto
   have : c.th ≠ th := fun e => by rw [e, ho] at h1; injection h1 with h1; omega
   simp only [upd, if_neg this]
   exact h1
  ·
   simp only at hto; omega
 ·
  intro q p' hp
  simp only [upd] at hp
  split at hp
  ·
   cases hp
  ·
   obtain ⟨c, hc, h1, h2⟩ := h.open_ q p' hp
   have hne : p ≠ p' := by
    rintro rfl
    rw [hy] at hc
    injection hc with hc
    subst hc
    rw [hyt] at h1
    simp_all
   exact ⟨c, by rw [List.getElem?_set_ne hne]; exact hc, h1, h2⟩
theorem step_inv {k : Nat} {x : EvD} {s s' : St} (h : step k x s = some s') (hi : s.Inv k) : s'.Inv (k + 1) := by
 unfold step at h
 split at h
 ·
  cases h
 ·
  rename_i hg
  split at h
  ·
   rename_i hd
   split at h
   ·
    injection h with h
    subst h
    refine hi.new ?_
    cases ho : s.opn x.th with
    | none => rfl
    | some q => exact absurd (.inr (.inr (by rw [ho, hd]; simp))) hg
   ·
    cases h
  ·
   split at h
   ·
    cases h
   ·
    rename_i p hp
    split at h
    ·
     cases h
    ·
     rename_i c hc
     split at h
     ·
      injection h with h
      subst h
      exact hi.done hp hc x.res
     ·
      cases h
theorem runF_inv : ∀ (l : List EvD) (i : Nat) (s s' : St), runF i l s = some s' → s.Inv i → s'.Inv (i + l.length) := by
 intro l
 induction l with
 | nil => intro i s s' h hi; injection h with h; subst h; exact hi
 | cons x l ih =>
  intro i s s' h hi
  have h : (step i x s).bind (runF (i + 1) l) = some s' := h
  cases h1 : step i x s with
  | none => rw [h1] at h; cases h
  | some s1 =>
   rw [h1] at h
   have := ih (i + 1) s1 s' h (step_inv h1 hi)
   rwa [show i + (x :: l).length = i + 1 + l.length by simp; omega]
theorem runL_inv {l : List EvD} {s : St} (h : runL l = some s) : s.Inv l.length := by
 have := runF_inv l 0 St.zero s h Inv.zero
 rwa [Nat.zero_add] at this
end Go.Proofs.YtpehmmdbjakkpaaGreat
namespace Go.Proofs.YtpehmmdbjakkpaaGreat
open Go.RowKit
set_option linter.unusedSimpArgs false
set_option linter.unusedVariables false
def St.blank (s : St) : Prop := ∀ (i : Nat) (c : CallD), s.out[i]? = some c → c.to < 0 → c.to = -1 ∧ c.res = ResD.nil
theorem step_blank {k : Nat} {x : EvD} {s s' : St} (h : step k x s = some s') (hb : s.blank) : s'.blank := by
 unfold step at h
 split at h
 ·
  cases h
 ·
  split at h
  ·
   split at h
   ·
    injection h with h
    subst h
    intro i c hc hto
    rcases at_append hc with hc | ⟨_, rfl⟩
    ·
     exact hb i c hc hto
    ·
     exact ⟨rfl, rfl⟩
   ·
    cases h
  ·
   split at h
   ·
    cases h
   ·
    split at h
    ·
     cases h
    ·
     split at h
     ·
      injection h with h
      subst h
      intro i c hc hto
      rcases at_set hc with ⟨_, hc⟩ | ⟨_, rfl⟩
      ·
       exact hb i c hc hto
      ·
       simp only at hto; omega
     ·
      cases h
def cut (k : Nat) (d : CallD) : CallD := if (k : Int) ≤ d.to then ⟨d.th, d.op, d.frm, -1, ResD.nil⟩ else d
structure Later (k : Nat) (s t : St) : Prop where
 len : s.out.length ≤ t.out.length
 old : ∀ (i : Nat) (c d : CallD), s.out[i]? = some c → t.out[i]? = some d → c = cut k d
 new : ∀ (i : Nat) (d : CallD), s.out.length ≤ i → t.out[i]? = some d → (k : Int) ≤ d.frm
theorem Later.refl {k : Nat} {s : St} (h : s.Inv k) : Later k s s := ⟨Nat.le_refl _, fun i c d hc hd => by
 rw [hc] at hd
 injection hd with hd
 subst hd
 have := (h.each i c hc).2.2.1
 unfold cut
 rw [if_neg (by omega)], fun i d hi hd => by have := at_lt hd; omega⟩
theorem Later.step {k m : Nat} {x : EvD} {s t t' : St} (hm : k ≤ m) (h : Later k s t) (hi : t.Inv m) (hb : t.blank) (hs : step m x t = some t') : Later k s t' := by
 unfold Go.Proofs.YtpehmmdbjakkpaaGreat.step at hs
 split at hs
 ·
  cases hs
 ·
  split at hs
  ·
   split at hs
   ·
    injection hs with hs
    subst hs
    refine ⟨by simp; have := h.len; omega, fun i c d hc hd => ?_, fun i d hi hd => ?_⟩
    ·
     rcases at_append hd with hd | ⟨hl, _⟩
     ·
      exact h.old i c d hc hd
     ·
      have h1 := at_lt hc; have := h.len; omega
    ·
     rcases at_append hd with hd | ⟨_, rfl⟩
     ·
      exact h.new i d hi hd
     ·
      simp only; omega
   ·
    cases hs
  ·
   split at hs
   ·
    cases hs
   ·
    rename_i p hp
    split at hs
    ·
     cases hs
    ·
     rename_i c0 hc0
     split at hs
     ·
      injection hs with hs
      subst hs
      obtain ⟨y, hy, hyt, hyo⟩ := hi.open_ _ _ hp
      rw [hc0] at hy
      injection hy with hy
      subst hy
      obtain ⟨b1, b2⟩ := hb p c0 hc0 hyo
      refine ⟨by simp; exact h.len, fun i c d hc hd => ?_, fun i d hi2 hd => ?_⟩
      ·
       rcases at_set hd with ⟨_, hd1⟩ | ⟨rfl, rfl⟩
       ·
        exact h.old i c d hc hd1
       ·
        have := h.old i c c0 hc hc0
        rw [this]
        unfold cut
        rw [if_neg (by omega), if_pos (by simp only; omega)]
        cases c0; simp_all
      ·
       rcases at_set hd with ⟨_, hd1⟩ | ⟨rfl, rfl⟩
       ·
        exact h.new i d hi2 hd1
       ·
        exact h.new i c0 hi2 hc0
     ·
      cases hs
end Go.Proofs.YtpehmmdbjakkpaaGreat


