/- Whether two edges are the same. Lists of pairs, of ends, of edges: are they the same? -/
import Derived.Test.YtpehmmdbjakkpaaGreatBaseM
import Derived.Laws.StructEq
import Derived.Test.YtpehmmdbjakkpaaGreatLibM
namespace Go.Proofs.YtpehmmdbjakkpaaGreat
open Go.RowKit
set_option linter.unusedSimpArgs false
set_option linter.unusedVariables false
theorem eqInEdge (d : Nat) (w : World) (x y : EdgeD) : (Op.equalIn (d + 2) 75 (.agg #[.int .i64 x.id, .int .i64 x.frm, .int .i64 x.to]) (.agg #[.int .i64 y.id, .int .i64 y.frm, .int .i64 y.to])).run Tryz.prog w = .ok (decide (x = y)) w := by
 have e : decide (x = y) = (x.id == y.id && (x.frm == y.frm && x.to == y.to)) := by
  obtain ⟨x0, x1, x2⟩ := x
  obtain ⟨y0, y1, y2⟩ := y
  simp only [EdgeD.mk.injEq]
  rw [Bool.eq_iff_iff]
  simp
 rw [e]
 clear e
 rw [run_equalIn_struct (P := Tryz.prog) w (d + 1) 75 _ _ (by simp [Program.fieldsOf, Tryz.underlying75]) (by kernel_rfl)]
 simp [Program.fieldsOf, Tryz.underlying75, Op.eqFields, go_sem]
 by_cases h0 : x.id = y.id <;> by_cases h1 : x.frm = y.frm <;> by_cases h2 : x.to = y.to <;> simp [h0, h1, h2]
theorem neqEdge (w : World) (x y : EdgeD) : (binOp .neq 75 (.agg #[.int .i64 x.id, .int .i64 x.frm, .int .i64 x.to]) (.agg #[.int .i64 y.id, .int .i64 y.frm, .int .i64 y.to])).run Tryz.prog w = .ok (.bool (!decide (x = y))) w := by
 simp only [binOp]
 simp [Op.equal, Op.maxDepth, eqInEdge 9998 w x y]
theorem guardEdge (op : BinOp) (p q : Operand) (xs ys : Array Value) (W : World) : (eqGuard op 75 p q (.agg xs) (.agg ys)).run Tryz.prog W = .ok () W := by
 have h : Tryz.prog.eqGuardType Tryz.prog.depth 75 = false := by kernel_rfl
 unfold eqGuard
 split <;> simp [h]
end Go.Proofs.YtpehmmdbjakkpaaGreat
namespace Go.Proofs.YtpehmmdbjakkpaaGreat
open Go.RowKit
set_option linter.unusedSimpArgs false
set_option linter.unusedVariables false
set_option maxRecDepth 20000
theorem eqInPa (d : Nat) (w : World) (x y : P2) : (Op.equalIn (d + 2) 92 (.agg #[.int .i64 x.x, .int .i64 x.y]) (.agg #[.int .i64 y.x, .int .i64 y.y])).run Tryz.prog w = .ok (decide (x = y)) w := by
 have e : decide (x = y) = (x.x == y.x && x.y == y.y) := by
  obtain ⟨x0, x1⟩ := x
  obtain ⟨y0, y1⟩ := y
  simp only [P2.mk.injEq]
  rw [Bool.eq_iff_iff]
  simp
 rw [e]
 clear e
 rw [run_equalIn_struct (P := Tryz.prog) w (d + 1) 92 _ _ (by simp [Program.fieldsOf, Tryz.underlying92]) (by kernel_rfl)]
 simp [Program.fieldsOf, Tryz.underlying92, Op.eqFields, go_sem]
 by_cases h0 : x.x = y.x <;> by_cases h1 : x.y = y.y <;> simp [h0, h1]
theorem neqPa (w : World) (x y : P2) : (binOp .neq 92 (.agg #[.int .i64 x.x, .int .i64 x.y]) (.agg #[.int .i64 y.x, .int .i64 y.y])).run Tryz.prog w = .ok (.bool (!decide (x = y))) w := by
 simp only [binOp]
 simp [Op.equal, Op.maxDepth, eqInPa 9998 w x y]
theorem guardPa (op : BinOp) (p q : Operand) (xs ys : Array Value) (W : World) : (eqGuard op 92 p q (.agg xs) (.agg ys)).run Tryz.prog W = .ok () W := by
 have h : Tryz.prog.eqGuardType Tryz.prog.depth 92 = false := by kernel_rfl
 unfold eqGuard
 split <;> simp [h]
theorem exec_neqPa {o : Oper} {a : Act} {p q : Operand} (W : World) (x y : P2) (ho : o.op = .binOp .neq 92 p q 92) (hp : a.eval p = .agg #[.int .i64 x.x, .int .i64 x.y]) (hq : a.eval q = .agg #[.int .i64 y.x, .int .i64 y.y]) :
  (execOp a.eval o).run Tryz.prog W = .ok (.value (.bool (!decide (x = y)))) W := by
 unfold execOp
 simp [ho, hp, hq, neqPa, guardPa]
theorem eqInPb (d : Nat) (w : World) (x y : P2) : (Op.equalIn (d + 2) 131 (.agg #[.int .i64 x.x, .int .i64 x.y]) (.agg #[.int .i64 y.x, .int .i64 y.y])).run Tryz.prog w = .ok (decide (x = y)) w := by
 have e : decide (x = y) = (x.x == y.x && x.y == y.y) := by
  obtain ⟨x0, x1⟩ := x
  obtain ⟨y0, y1⟩ := y
  simp only [P2.mk.injEq]
  rw [Bool.eq_iff_iff]
  simp
 rw [e]
 clear e
 rw [run_equalIn_struct (P := Tryz.prog) w (d + 1) 131 _ _ (by simp [Program.fieldsOf, Tryz.underlying131]) (by kernel_rfl)]
 simp [Program.fieldsOf, Tryz.underlying131, Op.eqFields, go_sem]
 by_cases h0 : x.x = y.x <;> by_cases h1 : x.y = y.y <;> simp [h0, h1]
theorem neqPb (w : World) (x y : P2) : (binOp .neq 131 (.agg #[.int .i64 x.x, .int .i64 x.y]) (.agg #[.int .i64 y.x, .int .i64 y.y])).run Tryz.prog w = .ok (.bool (!decide (x = y))) w := by
 simp only [binOp]
 simp [Op.equal, Op.maxDepth, eqInPb 9998 w x y]
theorem guardPb (op : BinOp) (p q : Operand) (xs ys : Array Value) (W : World) : (eqGuard op 131 p q (.agg xs) (.agg ys)).run Tryz.prog W = .ok () W := by
 have h : Tryz.prog.eqGuardType Tryz.prog.depth 131 = false := by kernel_rfl
 unfold eqGuard
 split <;> simp [h]
theorem exec_neqPb {o : Oper} {a : Act} {p q : Operand} (W : World) (x y : P2) (ho : o.op = .binOp .neq 131 p q 131) (hp : a.eval p = .agg #[.int .i64 x.x, .int .i64 x.y]) (hq : a.eval q = .agg #[.int .i64 y.x, .int .i64 y.y]) :
  (execOp a.eval o).run Tryz.prog W = .ok (.value (.bool (!decide (x = y)))) W := by
 unfold execOp
 simp [ho, hp, hq, neqPb, guardPb]
theorem exec_neqEdge {o : Oper} {a : Act} {p q : Operand} (W : World) (x y : EdgeD) (ho : o.op = .binOp .neq 75 p q 75) (hp : a.eval p = .agg #[.int .i64 x.id, .int .i64 x.frm, .int .i64 x.to]) (hq : a.eval q = .agg #[.int .i64 y.id, .int .i64 y.frm, .int .i64 y.to]) :
  (execOp a.eval o).run Tryz.prog W = .ok (.value (.bool (!decide (x = y)))) W := by
 unfold execOp
 simp [ho, hp, hq, neqEdge, guardEdge]
set_option maxHeartbeats 2000000 in
theorem eqPairs_calls (w : World) (S : Nat → Prop) (v1 v2 : Value) (xs ys : List P2) (h1 : Row tP w S v1 xs) (h2 : Row tP w S v2 ys) : Calls Tryz.prog 47 #[v1, v2] w fun e w' => e = .returned (.bool (decide (xs = ys))) ∧ Below w.heap.size w w' := by
 obtain ⟨A, c, rfl⟩ := h1.slice
 obtain ⟨B, d, rfl⟩ := h2.slice
 have hm := h1.len
 unfold maxLen at hm
 by_cases hl : xs.length = ys.length
 case neg =>
  have hne : decide (xs = ys) = false := decide_eq_false (by rintro rfl; exact hl rfl)
  rw [hne]
  clear hne
  have hl1 : ((xs.length : Int) == (ys.length : Int)) = false := beq_eq_false_iff_ne.mpr (by omega)
  have hl2 : ((xs.length : Int) != (ys.length : Int)) = true := by rw [bne_iff_ne]; omega
  clear h1 h2
  go_enter Tryz.func47, Tryz.ntmps47
  go_wp2
  go_ret
  exact ⟨rfl, Below.refl _ _⟩
 have H1 := Lib.hid h1
 have H2 := Lib.hid h2
 have hl1 : ((xs.length : Int) == (ys.length : Int)) = true := beq_iff_eq.mpr (by omega)
 have hl2 : ((xs.length : Int) != (ys.length : Int)) = false := by rw [bne_eq_false_iff_eq]; omega
 have HL := Lib.hid hl
 clear h1 h2 hl
 go_enter Tryz.func47, Tryz.ntmps47
 go_wp2
 go_loopw [13] (fun i wr => ∃ k : Nat, k ≤ xs.length ∧ i = .int .i64 k ∧ Hid (∀ j, j < k → xs[j]? = ys[j]?) ∧ Below w.heap.size w wr) (fun i _ => xs.length - (intOf i).toNat)
 case atStart => exact ⟨0, Nat.zero_le _, rfl, fun j hj => absurd hj (by omega), Below.refl _ _⟩
 case round =>
  obtain ⟨k, hk, rfl, he, hb⟩ := hrel
  have HB := Lib.hid hb
  clear hb
  by_cases hlt : k < xs.length
  ·
   obtain ⟨x, hx⟩ := getElem?_of_lt hlt
   obtain ⟨y, hy⟩ := getElem?_of_lt (show k < ys.length by have := HL.out; omega)
   obtain ⟨b1, o1, rfl, _, hb1, x0, x1⟩ := (H1.out.below HB.out).atP hx
   obtain ⟨b2, o2, rfl, _, hb2, y0, y1⟩ := (H2.out.below HB.out).atP hy
   have hlt2 : k < ys.length := by have := HL.out; omega
   have HX := Lib.hid hx
   have HY := Lib.hid hy
   clear hx hy
   go_wp2
   refine wp_region_sched [(0, true), (1, true), (2, true), (3, true), (4, true), (5, true), (6, true), (7, true), (8, true)] (Kept wr (fun _ => True)) (by kernel_rfl) (by kernel_rfl) ?_
   have HS := Lib.hid (Kept.refl wr (fun _ => True)).drew
   repeat (refine sched_take (v := ?_) (by simp only [opT, opS, opZ]; rfl) (Or.inl ⟨by rfl, fun W hW => ?_⟩) HS.out ?_; rotate_left; (have hc := fun b o hb => hW.cell b o trivial hb; clear hW; go_simp; with_reducible rfl); simp only [Act.put, putT, putZ, putS])
   refine sched_take (v := .bool (!decide (x = y))) (by simp only [opT, opS, opZ]; rfl) (Or.inl ⟨by rfl, fun W _ => exec_neqPa W x y rfl rfl rfl⟩) HS.out ?_
   simp only [Act.put, putT, putZ, putS]
   refine sched_done ?_
   by_cases hxy : x = y
   ·
    have hd : (!decide (x = y)) = false := by simp [hxy]
    rw [hd]
    have HE := Lib.hid hxy
    clear hd hxy
    go_wp2
    go_roundw
    case rel => exact ⟨k + 1, by omega, by go_num, fun j hj => (by
     rcases Nat.lt_or_ge j k with h | h
     ·
      exact he.out j h
     ·
      obtain rfl : j = k := by omega
      rw [HX.out, HY.out, HE.out]), HB.out.drew⟩
    case measure => simp [intOf]; omega
   ·
    have hd : (!decide (x = y)) = true := by simp [hxy]
    rw [hd]
    have hne : decide (xs = ys) = false := decide_eq_false (fun e => hxy (by have h1 := HX.out; have h2 := HY.out; rw [e, h2] at h1; injection h1 with h1; exact h1.symm))
    have HN := Lib.hid hne
    clear hd hxy hne
    go_wp2
    go_ret
    exact ⟨by rw [HN.out]; rfl, HB.out.drew⟩
  ·
   obtain rfl : k = xs.length := by omega
   have hy : decide (xs = ys) = true := decide_eq_true (eq_of_getElem? HL.out fun j hj => he.out j hj)
   have HN := Lib.hid hy
   clear hy
   go_wp2
   go_ret
   exact ⟨by rw [HN.out]; rfl, HB.out⟩
set_option maxHeartbeats 2000000 in
theorem eqEnds_calls (w : World) (S : Nat → Prop) (v1 v2 : Value) (xs ys : List P2) (h1 : Row tP w S v1 xs) (h2 : Row tP w S v2 ys) : Calls Tryz.prog 78 #[v1, v2] w fun e w' => e = .returned (.bool (decide (xs = ys))) ∧ Below w.heap.size w w' := by
 obtain ⟨A, c, rfl⟩ := h1.slice
 obtain ⟨B, d, rfl⟩ := h2.slice
 have hm := h1.len
 unfold maxLen at hm
 by_cases hl : xs.length = ys.length
 case neg =>
  have hne : decide (xs = ys) = false := decide_eq_false (by rintro rfl; exact hl rfl)
  rw [hne]
  clear hne
  have hl1 : ((xs.length : Int) == (ys.length : Int)) = false := beq_eq_false_iff_ne.mpr (by omega)
  have hl2 : ((xs.length : Int) != (ys.length : Int)) = true := by rw [bne_iff_ne]; omega
  clear h1 h2
  go_enter Tryz.func78, Tryz.ntmps78
  go_wp2
  go_ret
  exact ⟨rfl, Below.refl _ _⟩
 have H1 := Lib.hid h1
 have H2 := Lib.hid h2
 have hl1 : ((xs.length : Int) == (ys.length : Int)) = true := beq_iff_eq.mpr (by omega)
 have hl2 : ((xs.length : Int) != (ys.length : Int)) = false := by rw [bne_eq_false_iff_eq]; omega
 have HL := Lib.hid hl
 clear h1 h2 hl
 go_enter Tryz.func78, Tryz.ntmps78
 go_wp2
 go_loopw [13] (fun i wr => ∃ k : Nat, k ≤ xs.length ∧ i = .int .i64 k ∧ Hid (∀ j, j < k → xs[j]? = ys[j]?) ∧ Below w.heap.size w wr) (fun i _ => xs.length - (intOf i).toNat)
 case atStart => exact ⟨0, Nat.zero_le _, rfl, fun j hj => absurd hj (by omega), Below.refl _ _⟩
 case round =>
  obtain ⟨k, hk, rfl, he, hb⟩ := hrel
  have HB := Lib.hid hb
  clear hb
  by_cases hlt : k < xs.length
  ·
   obtain ⟨x, hx⟩ := getElem?_of_lt hlt
   obtain ⟨y, hy⟩ := getElem?_of_lt (show k < ys.length by have := HL.out; omega)
   obtain ⟨b1, o1, rfl, _, hb1, x0, x1⟩ := (H1.out.below HB.out).atP hx
   obtain ⟨b2, o2, rfl, _, hb2, y0, y1⟩ := (H2.out.below HB.out).atP hy
   have hlt2 : k < ys.length := by have := HL.out; omega
   have HX := Lib.hid hx
   have HY := Lib.hid hy
   clear hx hy
   go_wp2
   refine wp_region_sched [(0, true), (1, true), (2, true), (3, true), (4, true), (5, true), (6, true), (7, true), (8, true)] (Kept wr (fun _ => True)) (by kernel_rfl) (by kernel_rfl) ?_
   have HS := Lib.hid (Kept.refl wr (fun _ => True)).drew
   repeat (refine sched_take (v := ?_) (by simp only [opT, opS, opZ]; rfl) (Or.inl ⟨by rfl, fun W hW => ?_⟩) HS.out ?_; rotate_left; (have hc := fun b o hb => hW.cell b o trivial hb; clear hW; go_simp; with_reducible rfl); simp only [Act.put, putT, putZ, putS])
   refine sched_take (v := .bool (!decide (x = y))) (by simp only [opT, opS, opZ]; rfl) (Or.inl ⟨by rfl, fun W _ => exec_neqPb W x y rfl rfl rfl⟩) HS.out ?_
   simp only [Act.put, putT, putZ, putS]
   refine sched_done ?_
   by_cases hxy : x = y
   ·
    have hd : (!decide (x = y)) = false := by simp [hxy]
    rw [hd]
    have HE := Lib.hid hxy
    clear hd hxy
    go_wp2
    go_roundw
    case rel => exact ⟨k + 1, by omega, by go_num, fun j hj => (by
     rcases Nat.lt_or_ge j k with h | h
     ·
      exact he.out j h
     ·
      obtain rfl : j = k := by omega
      rw [HX.out, HY.out, HE.out]), HB.out.drew⟩
    case measure => simp [intOf]; omega
   ·
    have hd : (!decide (x = y)) = true := by simp [hxy]
    rw [hd]
    have hne : decide (xs = ys) = false := decide_eq_false (fun e => hxy (by have h1 := HX.out; have h2 := HY.out; rw [e, h2] at h1; injection h1 with h1; exact h1.symm))
    have HN := Lib.hid hne
    clear hd hxy hne
    go_wp2
    go_ret
    exact ⟨by rw [HN.out]; rfl, HB.out.drew⟩
  ·
   obtain rfl : k = xs.length := by omega
   have hy : decide (xs = ys) = true := decide_eq_true (eq_of_getElem? HL.out fun j hj => he.out j hj)
   have HN := Lib.hid hy
   clear hy
   go_wp2
   go_ret
   exact ⟨by rw [HN.out]; rfl, HB.out⟩
set_option maxHeartbeats 2000000 in
theorem samePairs_calls (w : World) (S : Nat → Prop) (v1 v2 : Value) (xs ys : List P2) (h1 : Row tP w S v1 xs) (h2 : Row tP w S v2 ys) : Calls Tryz.prog 26 #[v1, v2] w fun e w' => e = .returned (.bool (decide (xs = ys))) ∧ Below w.heap.size w w' := by
 obtain ⟨A, c, rfl⟩ := h1.slice
 obtain ⟨B, d, rfl⟩ := h2.slice
 have hm := h1.len
 unfold maxLen at hm
 by_cases hl : xs.length = ys.length
 case neg =>
  have hne : decide (xs = ys) = false := decide_eq_false (by rintro rfl; exact hl rfl)
  rw [hne]
  clear hne
  have hl1 : ((xs.length : Int) == (ys.length : Int)) = false := beq_eq_false_iff_ne.mpr (by omega)
  have hl2 : ((xs.length : Int) != (ys.length : Int)) = true := by rw [bne_iff_ne]; omega
  clear h1 h2
  go_enter Tryz.func26, Tryz.ntmps26
  go_wp2
  go_ret
  exact ⟨rfl, Below.refl _ _⟩
 have H1 := Lib.hid h1
 have H2 := Lib.hid h2
 have hl1 : ((xs.length : Int) == (ys.length : Int)) = true := beq_iff_eq.mpr (by omega)
 have hl2 : ((xs.length : Int) != (ys.length : Int)) = false := by rw [bne_eq_false_iff_eq]; omega
 have HL := Lib.hid hl
 clear h1 h2 hl
 go_enter Tryz.func26, Tryz.ntmps26
 go_wp2
 go_loopw [13] (fun i wr => ∃ k : Nat, k ≤ xs.length ∧ i = .int .i64 k ∧ Hid (∀ j, j < k → xs[j]? = ys[j]?) ∧ Below w.heap.size w wr) (fun i _ => xs.length - (intOf i).toNat)
 case atStart => exact ⟨0, Nat.zero_le _, rfl, fun j hj => absurd hj (by omega), Below.refl _ _⟩
 case round =>
  obtain ⟨k, hk, rfl, he, hb⟩ := hrel
  have HB := Lib.hid hb
  clear hb
  by_cases hlt : k < xs.length
  ·
   obtain ⟨x, hx⟩ := getElem?_of_lt hlt
   obtain ⟨y, hy⟩ := getElem?_of_lt (show k < ys.length by have := HL.out; omega)
   obtain ⟨b1, o1, rfl, _, hb1, x0, x1⟩ := (H1.out.below HB.out).atP hx
   obtain ⟨b2, o2, rfl, _, hb2, y0, y1⟩ := (H2.out.below HB.out).atP hy
   have hlt2 : k < ys.length := by have := HL.out; omega
   have HX := Lib.hid hx
   have HY := Lib.hid hy
   clear hx hy
   go_wp2
   refine wp_region_sched [(0, true), (1, true), (2, true), (3, true), (4, true), (5, true), (6, true), (7, true), (8, true)] (Kept wr (fun _ => True)) (by kernel_rfl) (by kernel_rfl) ?_
   have HS := Lib.hid (Kept.refl wr (fun _ => True)).drew
   repeat (refine sched_take (v := ?_) (by simp only [opT, opS, opZ]; rfl) (Or.inl ⟨by rfl, fun W hW => ?_⟩) HS.out ?_; rotate_left; (have hc := fun b o hb => hW.cell b o trivial hb; clear hW; go_simp; with_reducible rfl); simp only [Act.put, putT, putZ, putS])
   refine sched_take (v := .bool (!decide (x = y))) (by simp only [opT, opS, opZ]; rfl) (Or.inl ⟨by rfl, fun W _ => exec_neqPa W x y rfl rfl rfl⟩) HS.out ?_
   simp only [Act.put, putT, putZ, putS]
   refine sched_done ?_
   by_cases hxy : x = y
   ·
    have hd : (!decide (x = y)) = false := by simp [hxy]
    rw [hd]
    have HE := Lib.hid hxy
    clear hd hxy
    go_wp2
    go_roundw
    case rel => exact ⟨k + 1, by omega, by go_num, fun j hj => (by
     rcases Nat.lt_or_ge j k with h | h
     ·
      exact he.out j h
     ·
      obtain rfl : j = k := by omega
      rw [HX.out, HY.out, HE.out]), HB.out.drew⟩
    case measure => simp [intOf]; omega
   ·
    have hd : (!decide (x = y)) = true := by simp [hxy]
    rw [hd]
    have hne : decide (xs = ys) = false := decide_eq_false (fun e => hxy (by have h1 := HX.out; have h2 := HY.out; rw [e, h2] at h1; injection h1 with h1; exact h1.symm))
    have HN := Lib.hid hne
    clear hd hxy hne
    go_wp2
    go_ret
    exact ⟨by rw [HN.out]; rfl, HB.out.drew⟩
  ·
   obtain rfl : k = xs.length := by omega
   have hy : decide (xs = ys) = true := decide_eq_true (eq_of_getElem? HL.out fun j hj => he.out j hj)
   have HN := Lib.hid hy
   clear hy
   go_wp2
   go_ret
   exact ⟨by rw [HN.out]; rfl, HB.out⟩
set_option maxHeartbeats 2000000 in
theorem sameEnds_calls (w : World) (S : Nat → Prop) (v1 v2 : Value) (xs ys : List P2) (h1 : Row tP w S v1 xs) (h2 : Row tP w S v2 ys) : Calls Tryz.prog 109 #[v1, v2] w fun e w' => e = .returned (.bool (decide (xs = ys))) ∧ Below w.heap.size w w' := by
 obtain ⟨A, c, rfl⟩ := h1.slice
 obtain ⟨B, d, rfl⟩ := h2.slice
 have hm := h1.len
 unfold maxLen at hm
 by_cases hl : xs.length = ys.length
 case neg =>
  have hne : decide (xs = ys) = false := decide_eq_false (by rintro rfl; exact hl rfl)
  rw [hne]
  clear hne
  have hl1 : ((xs.length : Int) == (ys.length : Int)) = false := beq_eq_false_iff_ne.mpr (by omega)
  have hl2 : ((xs.length : Int) != (ys.length : Int)) = true := by rw [bne_iff_ne]; omega
  clear h1 h2
  go_enter Tryz.func109, Tryz.ntmps109
  go_wp2
  go_ret
  exact ⟨rfl, Below.refl _ _⟩
 have H1 := Lib.hid h1
 have H2 := Lib.hid h2
 have hl1 : ((xs.length : Int) == (ys.length : Int)) = true := beq_iff_eq.mpr (by omega)
 have hl2 : ((xs.length : Int) != (ys.length : Int)) = false := by rw [bne_eq_false_iff_eq]; omega
 have HL := Lib.hid hl
 clear h1 h2 hl
 go_enter Tryz.func109, Tryz.ntmps109
 go_wp2
 go_loopw [13] (fun i wr => ∃ k : Nat, k ≤ xs.length ∧ i = .int .i64 k ∧ Hid (∀ j, j < k → xs[j]? = ys[j]?) ∧ Below w.heap.size w wr) (fun i _ => xs.length - (intOf i).toNat)
 case atStart => exact ⟨0, Nat.zero_le _, rfl, fun j hj => absurd hj (by omega), Below.refl _ _⟩
 case round =>
  obtain ⟨k, hk, rfl, he, hb⟩ := hrel
  have HB := Lib.hid hb
  clear hb
  by_cases hlt : k < xs.length
  ·
   obtain ⟨x, hx⟩ := getElem?_of_lt hlt
   obtain ⟨y, hy⟩ := getElem?_of_lt (show k < ys.length by have := HL.out; omega)
   obtain ⟨b1, o1, rfl, _, hb1, x0, x1⟩ := (H1.out.below HB.out).atP hx
   obtain ⟨b2, o2, rfl, _, hb2, y0, y1⟩ := (H2.out.below HB.out).atP hy
   have hlt2 : k < ys.length := by have := HL.out; omega
   have HX := Lib.hid hx
   have HY := Lib.hid hy
   clear hx hy
   go_wp2
   refine wp_region_sched [(0, true), (1, true), (2, true), (3, true), (4, true), (5, true), (6, true), (7, true), (8, true)] (Kept wr (fun _ => True)) (by kernel_rfl) (by kernel_rfl) ?_
   have HS := Lib.hid (Kept.refl wr (fun _ => True)).drew
   repeat (refine sched_take (v := ?_) (by simp only [opT, opS, opZ]; rfl) (Or.inl ⟨by rfl, fun W hW => ?_⟩) HS.out ?_; rotate_left; (have hc := fun b o hb => hW.cell b o trivial hb; clear hW; go_simp; with_reducible rfl); simp only [Act.put, putT, putZ, putS])
   refine sched_take (v := .bool (!decide (x = y))) (by simp only [opT, opS, opZ]; rfl) (Or.inl ⟨by rfl, fun W _ => exec_neqPb W x y rfl rfl rfl⟩) HS.out ?_
   simp only [Act.put, putT, putZ, putS]
   refine sched_done ?_
   by_cases hxy : x = y
   ·
    have hd : (!decide (x = y)) = false := by simp [hxy]
    rw [hd]
    have HE := Lib.hid hxy
    clear hd hxy
    go_wp2
    go_roundw
    case rel => exact ⟨k + 1, by omega, by go_num, fun j hj => (by
     rcases Nat.lt_or_ge j k with h | h
     ·
      exact he.out j h
     ·
      obtain rfl : j = k := by omega
      rw [HX.out, HY.out, HE.out]), HB.out.drew⟩
    case measure => simp [intOf]; omega
   ·
    have hd : (!decide (x = y)) = true := by simp [hxy]
    rw [hd]
    have hne : decide (xs = ys) = false := decide_eq_false (fun e => hxy (by have h1 := HX.out; have h2 := HY.out; rw [e, h2] at h1; injection h1 with h1; exact h1.symm))
    have HN := Lib.hid hne
    clear hd hxy hne
    go_wp2
    go_ret
    exact ⟨by rw [HN.out]; rfl, HB.out.drew⟩
  ·
   obtain rfl : k = xs.length := by omega
   have hy : decide (xs = ys) = true := decide_eq_true (eq_of_getElem? HL.out fun j hj => he.out j hj)
   have HN := Lib.hid hy
   clear hy
   go_wp2
   go_ret
   exact ⟨by rw [HN.out]; rfl, HB.out⟩
set_option maxHeartbeats 2000000 in
theorem eqEdges_calls (w : World) (S : Nat → Prop) (v1 v2 : Value) (xs ys : List EdgeD) (h1 : Row tEdge w S v1 xs) (h2 : Row tEdge w S v2 ys) : Calls Tryz.prog 49 #[v1, v2] w fun e w' => e = .returned (.bool (decide (xs = ys))) ∧ Below w.heap.size w w' := by
 obtain ⟨A, c, rfl⟩ := h1.slice
 obtain ⟨B, d, rfl⟩ := h2.slice
 have hm := h1.len
 unfold maxLen at hm
 by_cases hl : xs.length = ys.length
 case neg =>
  have hne : decide (xs = ys) = false := decide_eq_false (by rintro rfl; exact hl rfl)
  rw [hne]
  clear hne
  have hl1 : ((xs.length : Int) == (ys.length : Int)) = false := beq_eq_false_iff_ne.mpr (by omega)
  have hl2 : ((xs.length : Int) != (ys.length : Int)) = true := by rw [bne_iff_ne]; omega
  clear h1 h2
  go_enter Tryz.func49, Tryz.ntmps49
  go_wp2
  go_ret
  exact ⟨rfl, Below.refl _ _⟩
 have H1 := Lib.hid h1
 have H2 := Lib.hid h2
 have hl1 : ((xs.length : Int) == (ys.length : Int)) = true := beq_iff_eq.mpr (by omega)
 have hl2 : ((xs.length : Int) != (ys.length : Int)) = false := by rw [bne_eq_false_iff_eq]; omega
 have HL := Lib.hid hl
 clear h1 h2 hl
 go_enter Tryz.func49, Tryz.ntmps49
 go_wp2
 go_loopw [13] (fun i wr => ∃ k : Nat, k ≤ xs.length ∧ i = .int .i64 k ∧ Hid (∀ j, j < k → xs[j]? = ys[j]?) ∧ Below w.heap.size w wr) (fun i _ => xs.length - (intOf i).toNat)
 case atStart => exact ⟨0, Nat.zero_le _, rfl, fun j hj => absurd hj (by omega), Below.refl _ _⟩
 case round =>
  obtain ⟨k, hk, rfl, he, hb⟩ := hrel
  have HB := Lib.hid hb
  clear hb
  by_cases hlt : k < xs.length
  ·
   obtain ⟨x, hx⟩ := getElem?_of_lt hlt
   obtain ⟨y, hy⟩ := getElem?_of_lt (show k < ys.length by have := HL.out; omega)
   obtain ⟨b1, o1, rfl, _, hb1, x0, x1, x2⟩ := (H1.out.below HB.out).atEdge hx
   obtain ⟨b2, o2, rfl, _, hb2, y0, y1, y2⟩ := (H2.out.below HB.out).atEdge hy
   have hlt2 : k < ys.length := by have := HL.out; omega
   have HX := Lib.hid hx
   have HY := Lib.hid hy
   clear hx hy
   go_wp2
   refine wp_region_sched [(0, true), (1, true), (2, true), (3, true), (4, true), (5, true), (6, true), (7, true), (8, true)] (Kept wr (fun _ => True)) (by kernel_rfl) (by kernel_rfl) ?_
   have HS := Lib.hid (Kept.refl wr (fun _ => True)).drew
   repeat (refine sched_take (v := ?_) (by simp only [opT, opS, opZ]; rfl) (Or.inl ⟨by rfl, fun W hW => ?_⟩) HS.out ?_; rotate_left; (have hc := fun b o hb => hW.cell b o trivial hb; clear hW; go_simp; with_reducible rfl); simp only [Act.put, putT, putZ, putS])
   refine sched_take (v := .bool (!decide (x = y))) (by simp only [opT, opS, opZ]; rfl) (Or.inl ⟨by rfl, fun W _ => exec_neqEdge W x y rfl rfl rfl⟩) HS.out ?_
   simp only [Act.put, putT, putZ, putS]
   refine sched_done ?_
   by_cases hxy : x = y
   ·
    have hd : (!decide (x = y)) = false := by simp [hxy]
    rw [hd]
    have HE := Lib.hid hxy
    clear hd hxy
    go_wp2
    go_roundw
    case rel => exact ⟨k + 1, by omega, by go_num, fun j hj => (by
     rcases Nat.lt_or_ge j k with h | h
     ·
      exact he.out j h
     ·
      obtain rfl : j = k := by omega
      rw [HX.out, HY.out, HE.out]), HB.out.drew⟩
    case measure => simp [intOf]; omega
   ·
    have hd : (!decide (x = y)) = true := by simp [hxy]
    rw [hd]
    have hne : decide (xs = ys) = false := decide_eq_false (fun e => hxy (by have h1 := HX.out; have h2 := HY.out; rw [e, h2] at h1; injection h1 with h1; exact h1.symm))
    have HN := Lib.hid hne
    clear hd hxy hne
    go_wp2
    go_ret
    exact ⟨by rw [HN.out]; rfl, HB.out.drew⟩
  ·
   obtain rfl : k = xs.length := by omega
   have hy : decide (xs = ys) = true := decide_eq_true (eq_of_getElem? HL.out fun j hj => he.out j hj)
   have HN := Lib.hid hy
   clear hy
   go_wp2
   go_ret
   exact ⟨by rw [HN.out]; rfl, HB.out⟩
end Go.Proofs.YtpehmmdbjakkpaaGreat


