/- Graphs, configurations and numbers, read. -/
import Derived.Test.YtpehmmdbjakkpaaGreatLibR
import Derived.Test.YtpehmmdbjakkpaaGreatLibM
import Derived.Test.YtpehmmdbjakkpaaGreatBaseM
namespace Go.Proofs.YtpehmmdbjakkpaaGreat
open Go.RowKit Go.ChangeShapes Go.WideShapes Go.Deep
set_option linter.unusedVariables false
set_option maxRecDepth 100000
def okI (x : Int) : Prop := -9223372036854775808 ≤ x ∧ x ≤ 9223372036854775807
theorem okI_of_wf {x : Int} (h : (Lit.int .i64 x).wf = true) : okI x := by
 simpa [Lit.wf, IntKind.min, IntKind.max, IntKind.signed, IntKind.bits, okI] using h
theorem cellsI : Tryz.prog.cellsOf 3 = 1 := by kernel_rfl
def CfgD.cells (c : CfgD) : List Value := [.int .i64 c.nodes, .int .i64 c.edges, .int .i64 c.props, .int .i64 c.ids, .int .i64 c.eids]
def tCfg : Ty CfgD := Ty.flat 5 (by decide) CfgD.cells (fun _ => rfl) (fun x u hu => by
 simp only [CfgD.cells, List.mem_cons, List.not_mem_nil, or_false] at hu
 rcases hu with rfl | rfl | rfl | rfl | rfl <;> rfl)
theorem readsPair : Reads Tryz.prog tP 92 (fun _ => True) := ⟨by kernel_rfl, fun {H enc w base spare held fuel cs y} h => by
 obtain ⟨xs, n, _, _, hlen, hxl, hf⟩ := DataW.trod_struct Tryz.underlying92 h
 have hC : Tryz.prog.cellsOf 92 = 2 := by kernel_rfl
 rw [hC] at hlen
 match cs, hlen with
 | [c0, c1], _ =>
  match xs, hxl with
  | [y0, y1], _ =>
   have g0 : DataW.trod enc Tryz.prog w base spare held n 3 ((([c0, c1] : List Value).drop 0).take (Tryz.prog.cellsOf 3)) = some y0 := hf 0 _ rfl
   have g1 : DataW.trod enc Tryz.prog w base spare held n 3 ((([c0, c1] : List Value).drop 1).take (Tryz.prog.cellsOf 3)) = some y1 := hf 1 _ rfl
   rw [cellsI] at g0 g1
   obtain ⟨n0, e0, _, w0⟩ := DataW.trod_int Tryz.underlying3 g0
   obtain ⟨n1, e1, _, w1⟩ := DataW.trod_int Tryz.underlying3 g1
   simp at e0 e1
   subst e0 e1
   exact ⟨⟨n0, n1⟩, rfl, trivial⟩⟩
theorem readsEdge : Reads Tryz.prog tEdge 75 (fun _ => True) := ⟨by kernel_rfl, fun {H enc w base spare held fuel cs y} h => by
 obtain ⟨xs, n, _, _, hlen, hxl, hf⟩ := DataW.trod_struct Tryz.underlying75 h
 have hC : Tryz.prog.cellsOf 75 = 3 := by kernel_rfl
 rw [hC] at hlen
 match cs, hlen with
 | [c0, c1, c2], _ =>
  match xs, hxl with
  | [y0, y1, y2], _ =>
   have g0 : DataW.trod enc Tryz.prog w base spare held n 3 ((([c0, c1, c2] : List Value).drop 0).take (Tryz.prog.cellsOf 3)) = some y0 := hf 0 _ rfl
   have g1 : DataW.trod enc Tryz.prog w base spare held n 3 ((([c0, c1, c2] : List Value).drop 1).take (Tryz.prog.cellsOf 3)) = some y1 := hf 1 _ rfl
   have g2 : DataW.trod enc Tryz.prog w base spare held n 3 ((([c0, c1, c2] : List Value).drop 2).take (Tryz.prog.cellsOf 3)) = some y2 := hf 2 _ rfl
   rw [cellsI] at g0 g1 g2
   obtain ⟨n0, e0, _, w0⟩ := DataW.trod_int Tryz.underlying3 g0
   obtain ⟨n1, e1, _, w1⟩ := DataW.trod_int Tryz.underlying3 g1
   obtain ⟨n2, e2, _, w2⟩ := DataW.trod_int Tryz.underlying3 g2
   simp at e0 e1 e2
   subst e0 e1 e2
   exact ⟨⟨n0, n1, n2⟩, rfl, trivial⟩⟩
theorem readsCfg : Reads Tryz.prog tCfg 23 (fun _ => True) := ⟨by kernel_rfl, fun {H enc w base spare held fuel cs y} h => by
 obtain ⟨xs, n, _, _, hlen, hxl, hf⟩ := DataW.trod_struct Tryz.underlying23 h
 have hC : Tryz.prog.cellsOf 23 = 5 := by kernel_rfl
 rw [hC] at hlen
 match cs, hlen with
 | [c0, c1, c2, c3, c4], _ =>
  match xs, hxl with
  | [y0, y1, y2, y3, y4], _ =>
   have g0 : DataW.trod enc Tryz.prog w base spare held n 3 ((([c0, c1, c2, c3, c4] : List Value).drop 0).take (Tryz.prog.cellsOf 3)) = some y0 := hf 0 _ rfl
   have g1 : DataW.trod enc Tryz.prog w base spare held n 3 ((([c0, c1, c2, c3, c4] : List Value).drop 1).take (Tryz.prog.cellsOf 3)) = some y1 := hf 1 _ rfl
   have g2 : DataW.trod enc Tryz.prog w base spare held n 3 ((([c0, c1, c2, c3, c4] : List Value).drop 2).take (Tryz.prog.cellsOf 3)) = some y2 := hf 2 _ rfl
   have g3 : DataW.trod enc Tryz.prog w base spare held n 3 ((([c0, c1, c2, c3, c4] : List Value).drop 3).take (Tryz.prog.cellsOf 3)) = some y3 := hf 3 _ rfl
   have g4 : DataW.trod enc Tryz.prog w base spare held n 3 ((([c0, c1, c2, c3, c4] : List Value).drop 4).take (Tryz.prog.cellsOf 3)) = some y4 := hf 4 _ rfl
   rw [cellsI] at g0 g1 g2 g3 g4
   obtain ⟨n0, e0, _, w0⟩ := DataW.trod_int Tryz.underlying3 g0
   obtain ⟨n1, e1, _, w1⟩ := DataW.trod_int Tryz.underlying3 g1
   obtain ⟨n2, e2, _, w2⟩ := DataW.trod_int Tryz.underlying3 g2
   obtain ⟨n3, e3, _, w3⟩ := DataW.trod_int Tryz.underlying3 g3
   obtain ⟨n4, e4, _, w4⟩ := DataW.trod_int Tryz.underlying3 g4
   simp at e0 e1 e2 e3 e4
   subst e0 e1 e2 e3 e4
   exact ⟨⟨n0, n1, n2, n3, n4⟩, rfl, trivial⟩⟩
theorem cfg_of_arg {H : Type} {enc : TypeId × Value → H} {w : World} {r : Reach} {b0 base : Nat} {spare : Nat → Bool} {held : Bool} {v : Value} {d : DataW H} {p : List MemPlace} (hv : Value.okWide Tryz.prog w r b0 23 v) (h : DataW.Trod enc Tryz.prog w base spare held 23 v d p) :
  ∃ x : CfgD, v = x.val := by
 obtain ⟨cs, rfl, hsz⟩ := okWide_struct Tryz.underlying23 hv
 obtain ⟨fuel, hf⟩ := h
 obtain ⟨x, hk, _⟩ := readsCfg.read hf
 have hk' : cs.toList = x.cells := hk
 refine ⟨x, ?_⟩
 unfold CfgD.val
 congr 1
 apply Array.ext'
 exact hk'
/-- A node as data: its number, its properties. -/
def tNode : Ty NodeD where
 sz := 2
 pos := by decide
 K := fun w S x cs => ∃ A c, Row tP w S (.slice A x.ps.length c) x.ps ∧ cs = [.int .i64 x.id, .slice A x.ps.length c]
 len := by rintro w S x cs ⟨A, c, _, rfl⟩; rfl
 one := by
  rintro w S x cs ⟨A, c, h, rfl⟩ u hu
  simp only [List.mem_cons, List.not_mem_nil, or_false] at hu
  rcases hu with rfl | rfl <;> rfl
 mono := by rintro w S S' x cs hs ⟨A, c, h, rfl⟩; exact ⟨A, c, h.mono hs, rfl⟩
 move := by rintro w w' S x cs hs ⟨A, c, h, rfl⟩; exact ⟨A, c, h.move hs, rfl⟩
theorem readsNode : Reads Tryz.prog tNode 72 (fun _ => True) := ⟨by kernel_rfl, fun {H enc w base spare held fuel cs y} h => by
 obtain ⟨xs, n, _, _, hlen, hxl, hf⟩ := DataW.trod_struct Tryz.underlying72 h
 have hC : Tryz.prog.cellsOf 72 = 2 := by kernel_rfl
 have hP : Tryz.prog.cellsOf 47 = 1 := by kernel_rfl
 rw [hC] at hlen
 match cs, hlen with
 | [c0, c1], _ =>
  match xs, hxl with
  | [y0, y1], _ =>
   have g0 : DataW.trod enc Tryz.prog w base spare held n 3 ((([c0, c1] : List Value).drop 0).take (Tryz.prog.cellsOf 3)) = some y0 := hf 0 _ rfl
   have g1 : DataW.trod enc Tryz.prog w base spare held n 47 ((([c0, c1] : List Value).drop 1).take (Tryz.prog.cellsOf 47)) = some y1 := hf 1 _ rfl
   rw [cellsI] at g0
   rw [hP] at g1
   obtain ⟨n0, e0, _, w0⟩ := DataW.trod_int Tryz.underlying3 g0
   obtain ⟨v1, x1, e1, r1, _⟩ := row_of_trod Tryz.underlying47 readsPair g1
   obtain ⟨A, c, rfl⟩ := r1.slice
   simp at e0 e1
   subst e0 e1
   exact ⟨⟨n0, x1⟩, ⟨A, c, r1, rfl⟩, trivial⟩⟩
theorem nv_of_row {w : World} {S : Nat → Prop} {v : Value} {xs : List NodeD} (h : Row tNode w S v xs) : ∃ nvs, Row tNV w S v nvs ∧ NVs w S nvs xs := by
 obtain ⟨A, c, rfl, h1, h2, h3, h4⟩ := h
 rcases h4 with rfl | ⟨b, off, rfl, hb, hlt, hel⟩
 ·
  exact ⟨[], ⟨A, c, rfl, h1, h2, h3, .inl rfl⟩, NVs.nil _ _⟩
 ·
  obtain ⟨nvs, hl, hn⟩ := choose_list (n := xs.length) (p := fun i (nv : NV) => ∃ x, xs[i]? = some x ∧ nv.id = x.id ∧ Row tP w S (.slice nv.A nv.n nv.c) x.ps ∧ w.rangeAt b (off + i * 2) nv.cells) (by
   intro i hi
   obtain ⟨cs, ⟨A', c', hr, rfl⟩, hrg⟩ := hel i xs[i] (List.getElem?_eq_getElem hi)
   exact ⟨⟨xs[i].id, A', xs[i].ps.length, c'⟩, xs[i], List.getElem?_eq_getElem hi, rfl, hr, hrg⟩)
  refine ⟨nvs, ⟨_, c, by rw [hl], by rw [hl]; exact h1, h2, h3, .inr ⟨b, off, rfl, hb, hlt, fun j nv hj => ?_⟩⟩, hl, fun j nv x hj hx => ?_⟩
  ·
   obtain ⟨x, _, _, _, hrg⟩ := hn j nv hj
   exact ⟨nv.cells, rfl, hrg⟩
  ·
   obtain ⟨x', hx', hid, hr, _⟩ := hn j nv hj
   rw [hx] at hx'
   injection hx' with hx'
   subst hx'
   exact ⟨hid, hr⟩
theorem graph_of_arg {H : Type} {enc : TypeId × Value → H} {w : World} {r : Reach} {b0 base : Nat} {spare : Nat → Bool} {held : Bool} {v : Value} {d : DataW H} {p : List MemPlace} (hv : Value.okWide Tryz.prog w r b0 31 v) (h : DataW.Trod enc Tryz.prog w base spare held 31 v d p) :
  ∃ (g : GraphD) (vn ve : Value), v = .agg #[vn, ve, .int .i64 g.nn, .int .i64 g.ne] ∧ Gr w (fun _ => True) g vn ve := by
 obtain ⟨ca, rfl, hsz⟩ := okWide_struct Tryz.underlying31 hv
 obtain ⟨fuel, hf0⟩ := h
 simp only [Value.cells] at hf0
 obtain ⟨xs, n, _, _, hlen, hxl, hf⟩ := DataW.trod_struct Tryz.underlying31 hf0
 have hC : Tryz.prog.cellsOf 31 = 4 := by kernel_rfl
 have hN : Tryz.prog.cellsOf 28 = 1 := by kernel_rfl
 have hE : Tryz.prog.cellsOf 29 = 1 := by kernel_rfl
 rw [hC] at hlen
 obtain ⟨cl⟩ := ca
 match cl, hlen with
 | [c0, c1, c2, c3], _ =>
  match xs, hxl with
  | [y0, y1, y2, y3], _ =>
   have g0 : DataW.trod enc Tryz.prog w base spare held n 28 ((([c0, c1, c2, c3] : List Value).drop 0).take (Tryz.prog.cellsOf 28)) = some y0 := hf 0 _ rfl
   have g1 : DataW.trod enc Tryz.prog w base spare held n 29 ((([c0, c1, c2, c3] : List Value).drop 1).take (Tryz.prog.cellsOf 29)) = some y1 := hf 1 _ rfl
   have g2 : DataW.trod enc Tryz.prog w base spare held n 3 ((([c0, c1, c2, c3] : List Value).drop 2).take (Tryz.prog.cellsOf 3)) = some y2 := hf 2 _ rfl
   have g3 : DataW.trod enc Tryz.prog w base spare held n 3 ((([c0, c1, c2, c3] : List Value).drop 3).take (Tryz.prog.cellsOf 3)) = some y3 := hf 3 _ rfl
   rw [hN] at g0
   rw [hE] at g1
   rw [cellsI] at g2 g3
   obtain ⟨v0, x0, e0, r0, _⟩ := row_of_trod Tryz.underlying28 readsNode g0
   obtain ⟨v1, x1, e1, r1, _⟩ := row_of_trod Tryz.underlying29 readsEdge g1
   obtain ⟨n2, e2, _, w2⟩ := DataW.trod_int Tryz.underlying3 g2
   obtain ⟨n3, e3, _, w3⟩ := DataW.trod_int Tryz.underlying3 g3
   simp at e0 e1 e2 e3
   subst e0 e1 e2 e3
   exact ⟨⟨x0, x1, n2, n3⟩, _, _, rfl, nv_of_row r0, r1⟩


end Go.Proofs.YtpehmmdbjakkpaaGreat
