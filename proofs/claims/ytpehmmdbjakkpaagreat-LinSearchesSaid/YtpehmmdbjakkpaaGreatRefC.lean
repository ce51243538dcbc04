/- The reference's put. The reference's Set. -/
import Derived.Test.YtpehmmdbjakkpaaGreatRefB
import Derived.Test.YtpehmmdbjakkpaaGreatOwnSet
namespace Go.Proofs.YtpehmmdbjakkpaaGreat
open Go.RowKit Go.Shelf
set_option linter.unusedSimpArgs false
set_option linter.unusedVariables false
def loQ (k : Int) (p : P2) : Bool := decide (p.x < k)
def hiQ (k : Int) (p : P2) : Bool := decide (k < p.x)
theorem putP_eq (ps : List P2) (p : P2) : putP ps p.x p.y = ps.filter (loQ p.x) ++ [p] ++ ps.filter (hiQ p.x) := by
 rw [List.append_assoc]
 rfl
set_option maxRecDepth 20000 in
set_option maxHeartbeats 8000000 in
theorem put_calls (w : World) (S : Nat → Prop) (v : Value) (ps : List P2) (p : P2) (h : Row tP w S v ps) (hs : ps.length ≤ 1000000) : Calls Tryz.prog 106 #[v, .agg #[.int .i64 p.x, .int .i64 p.y]] w (RetOwn tP 92 w (putP ps p.x p.y)) := by
 obtain ⟨A, c, rfl⟩ := h.slice
 have H := Lib.hid h
 have HPE := Lib.hid (putP_eq ps p)
 have KB := Lib.hid (Below.heap1 w (.cells #[.int .i64 p.x, .int .i64 p.y] 92))
 have b0 : (w.alloc (.cells #[.int .i64 p.x, .int .i64 p.y] 92)).cell? ⟨w.heap.size, 0, none⟩ = some (.int .i64 p.x) := by simp [go_sem]
 have b1 : (w.alloc (.cells #[.int .i64 p.x, .int .i64 p.y] 92)).cell? ⟨w.heap.size, 1, none⟩ = some (.int .i64 p.y) := by simp [go_sem]
 have B0 := Lib.hid (And.intro b0 b1)
 clear h b0 b1
 go_enter Tryz.func106, Tryz.ntmps106
 go_wp2
 go_loopw [5, 12] (fun t q wr => ∃ j : Nat, j ≤ ps.length ∧ q = .int .i64 (j : Int) ∧ Hid (Own tP 92 wr (fun k => w.heap.size + 1 ≤ k) t ((ps.take j).filter (loQ p.x))) ∧ Hid (Below (w.heap.size + 1) (w.alloc (.cells #[.int .i64 p.x, .int .i64 p.y] 92)) wr)) (fun _ q _ => ps.length - (intOf q).toNat)
 case atStart => exact ⟨0, by omega, rfl, Own.nil _ _ _ _, Lib.hid (Below.refl _ _)⟩
 case round =>
  obtain ⟨wa, rfl⟩ : ∃ wa, wa = wr := ⟨wr, rfl⟩
  obtain ⟨j, hj, rfl, ho, hb⟩ := hrel
  have hwa := hb.out.size
  simp only [World.size_alloc] at hwa
  have KA := Lib.hid (KB.out.trans (hb.out.mono (by omega)))
  have a0 : wa.cell? ⟨w.heap.size, 0, none⟩ = some (.int .i64 p.x) := (hb.out.cell (p := ⟨w.heap.size, 0, none⟩) (by simp)).trans B0.out.1
  have a1 : wa.cell? ⟨w.heap.size, 1, none⟩ = some (.int .i64 p.y) := (hb.out.cell (p := ⟨w.heap.size, 1, none⟩) (by simp)).trans B0.out.2
  have g0 : w.heap.size < wa.heap.size := by omega
  by_cases hlt : j < ps.length
  case pos =>
   obtain ⟨x, hx⟩ := getElem?_of_lt hlt
   obtain ⟨be, oe, hAe, _, hbl, z0, z1⟩ := (H.out.below KA.out).atP hx
   have HSU := Lib.hid (filter_take_succ hx (loQ p.x))
   have hfl := filter_take_len ps j (loQ p.x)
   subst hAe
   clear hx
   have q1 : wa.heap.size < wa.heap.size + 1 := by omega
   have q2 : be < wa.heap.size + 1 := by omega
   have q3 : w.heap.size < wa.heap.size + 1 := by omega
   have KX := Lib.hid (Below.heap1 wa (.cells #[.int .i64 x.x, .int .i64 x.y] 92))
   have HBX := Lib.hid (hb.out.trans (KX.out.mono (by omega)))
   by_cases hn : x.x < p.x
   ·
    have HF := Lib.hid (show (ps.take (j + 1)).filter (loQ p.x) = (ps.take j).filter (loQ p.x) ++ [x] by rw [HSU.out, if_pos (by simp [loQ, hn])])
    have HOA := Lib.hid (ho.out.below KX.out)
    go_wp2_with (at_builtin; refine wpList_own_appendS (ty := tP) (w := w) (S := fun k => w.heap.size + 1 ≤ k) (Sy := fun _ => False) (v := u5) (xs := (ps.take j).filter (loQ p.x)) (x := x) rfl _ _ 47 92 16 _ rfl elemPairs rfl ?hown rfl (by simp) rfl ?hB ?hge ?hSn ?hbytes ?hlen (fun _ h => h.elim) ?_)
    case hown => exact HOA.out
    case hB => exact KA.out.trans (KX.out.mono (by omega))
    case hge => exact fun k hk => by have := ho.out.1 k hk; omega
    case hSn => intro k hk; simp at hk; show _ ≤ k; omega
    case hbytes => omega
    case hlen => unfold maxLen; omega
    intro v2 w4 ho2 hb2 hge2 hg2
    have HO2 := Lib.hid ho2
    have HB4 := Lib.hid (HBX.out.grown hg2 (by simp; omega) (fun k hk => ho.out.1 k hk))
    clear ho2 hb2 hge2 hg2 a0 a1 z0 z1
    go_wp2
    go_roundw
    case rel => exact ⟨j + 1, by omega, by first | (go_num; done) | (go_num; omega), Lib.hid (by rw [HF.out]; exact HO2.out), HB4⟩
    case measure => simp [intOf]; omega
   ·
    have HF := Lib.hid (show (ps.take (j + 1)).filter (loQ p.x) = (ps.take j).filter (loQ p.x) by rw [HSU.out, if_neg (by simp [loQ]; omega), List.append_nil])
    have HOA := Lib.hid (ho.out.below KX.out)
    go_wp2
    go_roundw
    case rel => exact ⟨j + 1, by omega, by first | (go_num; done) | (go_num; omega), Lib.hid (by rw [HF.out]; exact HOA.out), HBX⟩
    case measure => simp [intOf]; omega
  obtain rfl : j = ps.length := by omega
  have HO := Lib.hid (show Own tP 92 wa (fun k => w.heap.size + 1 ≤ k) u5 (ps.filter (loQ p.x)) by have h9 := ho.out; rw [List.take_length] at h9; exact h9)
  have hl0 := List.length_filter_le (loQ p.x) ps
  clear ho
  go_wp2_with (at_builtin; refine wpList_own_appendS (ty := tP) (w := w) (S := fun k => w.heap.size + 1 ≤ k) (Sy := fun _ => False) (v := u5) (xs := ps.filter (loQ p.x)) (x := p) rfl _ _ 47 92 16 _ rfl elemPairs rfl ?hown rfl (by simp) rfl ?hB ?hge ?hSn ?hbytes ?hlen (fun _ h => h.elim) ?_)
  case hown => exact HO.out
  case hB => exact KA.out
  case hge => exact fun k hk => by have := HO.out.1 k hk; omega
  case hSn => intro k hk; show _ ≤ k; omega
  case hbytes => omega
  case hlen => unfold maxLen; omega
  intro v2 w4 ho2 hb2 hge2 hg2
  have HO2 := Lib.hid ho2
  have s4 := hg2.size
  have HB4 := Lib.hid (hb.out.grown hg2 (by omega) (fun k hk => HO.out.1 k hk))
  have c0 : w4.cell? ⟨w.heap.size, 0, none⟩ = some (.int .i64 p.x) := (HB4.out.cell (p := ⟨w.heap.size, 0, none⟩) (by simp)).trans B0.out.1
  have C0 := Lib.hid c0
  clear ho2 hb2 hge2 hg2 a0 a1 hb KA c0
  go_wp2
  go_loopw [5, 32] (fun t q wr => ∃ j : Nat, j ≤ ps.length ∧ q = .int .i64 (j : Int) ∧ Hid (Own tP 92 wr (fun k => w.heap.size + 1 ≤ k) t (ps.filter (loQ p.x) ++ [p] ++ (ps.take j).filter (hiQ p.x))) ∧ Hid (Below (w.heap.size + 1) (w.alloc (.cells #[.int .i64 p.x, .int .i64 p.y] 92)) wr)) (fun _ q _ => ps.length - (intOf q).toNat)
  case atStart => exact ⟨0, by omega, rfl, Lib.hid (by simpa using HO2.out), HB4⟩
  case round =>
   obtain ⟨wb, rfl⟩ : ∃ wb, wb = wr := ⟨wr, rfl⟩
   obtain ⟨j, hj, rfl, ho, hb⟩ := hrel
   have hwb := hb.out.size
   simp only [World.size_alloc] at hwb
   have KA := Lib.hid (KB.out.trans (hb.out.mono (by omega)))
   have a0 : wb.cell? ⟨w.heap.size, 0, none⟩ = some (.int .i64 p.x) := (hb.out.cell (p := ⟨w.heap.size, 0, none⟩) (by simp)).trans B0.out.1
   have g0 : w.heap.size < wb.heap.size := by omega
   by_cases hlt : j < ps.length
   case neg =>
    obtain rfl : j = ps.length := by omega
    have HO3 := Lib.hid (show Own tP 92 wb (fun k => w.heap.size + 1 ≤ k) u5 (putP ps p.x p.y) by have h9 := ho.out; rw [List.take_length] at h9; rw [HPE.out]; exact h9)
    clear ho
    go_wp2
    go_ret
    exact RetOwn.mk (HO3.out.mono fun k hk _ => by omega) KA.out
   obtain ⟨x, hx⟩ := getElem?_of_lt hlt
   obtain ⟨be, oe, hAe, _, hbl, z0, z1⟩ := (H.out.below KA.out).atP hx
   have HSU := Lib.hid (filter_take_succ hx (hiQ p.x))
   have hfl := filter_take_len ps j (hiQ p.x)
   subst hAe
   clear hx
   have q1 : wb.heap.size < wb.heap.size + 1 := by omega
   have q2 : be < wb.heap.size + 1 := by omega
   have q3 : w.heap.size < wb.heap.size + 1 := by omega
   have KX := Lib.hid (Below.heap1 wb (.cells #[.int .i64 x.x, .int .i64 x.y] 92))
   have HBX := Lib.hid (hb.out.trans (KX.out.mono (by omega)))
   by_cases hn : p.x < x.x
   ·
    have HF := Lib.hid (show (ps.take (j + 1)).filter (hiQ p.x) = (ps.take j).filter (hiQ p.x) ++ [x] by rw [HSU.out, if_pos (by simp [hiQ, hn])])
    have HOA := Lib.hid (ho.out.below KX.out)
    obtain ⟨ys, hys⟩ : ∃ ys, ys = ps.filter (loQ p.x) ++ [p] ++ (ps.take j).filter (hiQ p.x) := ⟨_, rfl⟩
    have hyl : ys.length ≤ 2 * ps.length + 1 := by rw [hys]; simp; omega
    rw [← hys] at HOA
    have HYS := Lib.hid hys
    clear hys
    go_wp2_with (at_builtin; refine wpList_own_appendS (ty := tP) (w := w) (S := fun k => w.heap.size + 1 ≤ k) (Sy := fun _ => False) (v := u5) (xs := ys) (x := x) rfl _ _ 47 92 16 _ rfl elemPairs rfl ?hown rfl (by simp) rfl ?hB ?hge ?hSn ?hbytes ?hlen (fun _ h => h.elim) ?_)
    case hown => exact HOA.out
    case hB => exact KA.out.trans (KX.out.mono (by omega))
    case hge => exact fun k hk => by have := ho.out.1 k hk; omega
    case hSn => intro k hk; simp at hk; show _ ≤ k; omega
    case hbytes => omega
    case hlen => unfold maxLen; omega
    intro v2 w4 ho2 hb2 hge2 hg2
    have HO2 := Lib.hid ho2
    have HB4 := Lib.hid (HBX.out.grown hg2 (by simp; omega) (fun k hk => ho.out.1 k hk))
    clear ho2 hb2 hge2 hg2 a0 z0 z1
    go_wp2
    go_roundw
    case rel => exact ⟨j + 1, by omega, by first | (go_num; done) | (go_num; omega), Lib.hid (by rw [HF.out, ← List.append_assoc, ← HYS.out]; exact HO2.out), HB4⟩
    case measure => simp [intOf]; omega
   ·
    have HF := Lib.hid (show (ps.take (j + 1)).filter (hiQ p.x) = (ps.take j).filter (hiQ p.x) by rw [HSU.out, if_neg (by simp [hiQ]; omega), List.append_nil])
    have HOA := Lib.hid (ho.out.below KX.out)
    go_wp2
    go_roundw
    case rel => exact ⟨j + 1, by omega, by first | (go_num; done) | (go_num; omega), Lib.hid (by rw [HF.out]; exact HOA.out), HBX⟩
    case measure => simp [intOf]; omega
end Go.Proofs.YtpehmmdbjakkpaaGreat
namespace Go.Proofs.YtpehmmdbjakkpaaGreat
open Go.RowKit Go.Shelf
set_option linter.unusedSimpArgs false
set_option linter.unusedVariables false
theorem RefG.putPairs {w : World} {B : Nat} {g : GraphD} {gN n c : Nat} {ve : Value} {nvs : List NV} (h : RefG w B g (.slice (some ⟨gN, 0, none⟩) n c) ve nvs) {i : Nat} {v : NV} {x : NodeD} (hv : nvs[i]? = some v) (hx : g.nodes[i]? = some x)
  {A' : Option Addr} {n' c' : Nat} {ys : List P2} (hr : Row tP w (fun k => B ≤ k ∧ k ≠ gN ∧ ve.ownBlock ≠ some k) (.slice A' n' c') ys) :
  RefG (w.setCell ⟨gN, i * 2 + 1, none⟩ (.slice A' n' c')) B ⟨g.nodes.set i ⟨x.id, ys⟩, g.edges, g.nn, g.ne⟩ (.slice (some ⟨gN, 0, none⟩) n c) ve (nvs.set i ⟨v.id, A', n', c'⟩) := by
 have hs : ∀ k, k ≠ gN → (w.setCell ⟨gN, i * 2 + 1, none⟩ (.slice A' n' c')).heap[k]? = w.heap[k]? := fun k hk => Below.heap_setCell w ⟨gN, i * 2 + 1, none⟩ _ k hk
 have hp : NVs (w.setCell ⟨gN, i * 2 + 1, none⟩ (.slice A' n' c')) (fun j => B ≤ j ∧ (Value.slice (some ⟨gN, 0, none⟩) n c).ownBlock ≠ some j ∧ ve.ownBlock ≠ some j) nvs g.nodes := h.pairs.move fun k hk _ => hs k (fun e => hk.2.1 (by rw [e]; rfl))
 refine ⟨h.nodes.setFlat (p := i) (i := 1) (y := v) (y' := ⟨v.id, A', n', c'⟩) hv (by decide) rfl, h.edges.keepFlat fun k hk => hs k (fun e => h.ne k hk (by rw [e]; rfl)), ⟨by rw [List.length_set, List.length_set]; exact h.pairs.len, ?_⟩, h.ne⟩
 intro j u y hu hy
 rcases set_cases hu with ⟨rfl, rfl⟩ | ⟨hne, hu⟩
 ·
  rcases set_cases hy with ⟨_, rfl⟩ | ⟨hne, _⟩
  ·
   refine ⟨(h.pairs.each i v x hv hx).1, (hr.move fun k hk _ => hs k hk.2.1).mono fun k hk _ => ⟨hk.1, fun e => hk.2.1 ?_, hk.2.2⟩⟩
   have : some gN = some k := e
   injection this with this
   exact this.symm
  ·
   exact absurd rfl hne
 ·
  rcases set_cases hy with ⟨e, _⟩ | ⟨_, hy⟩
  ·
   exact absurd e hne
  ·
   exact hp.each j u y hu hy
theorem RefG.zero (w : World) (B : Nat) (n m : Int) : RefG w B ⟨[], [], n, m⟩ (.slice none 0 0) (.slice none 0 0) [] := ⟨Own.nil _ _ _ _, Own.nil _ _ _ _, NVs.nil _ _, fun j h => by simp [Value.ownBlock] at h⟩
theorem getOf_at1 {g : GraphD} {n : Int} {i : Nat} {x : NodeD} (h : atOf g.nodes n = (i : Int)) (hx : g.nodes[i]? = some x) : (getOf g n).1 = x.ps := by rw [getOf_some h hx]
def Ret2R (w : World) (r : GraphD × Int) (e : Ending) (w' : World) : Prop := ∃ vn ve nvs, e = .returned (.tuple #[.agg #[vn, ve, .int .i64 r.1.nn, .int .i64 r.1.ne], .int .i64 r.2]) ∧ RefG w' w.heap.size r.1 vn ve nvs ∧ Below w.heap.size w w'
theorem Ret2R.ret2 {w : World} {r : GraphD × Int} {e : Ending} {w' : World} (h : Ret2R w r e w') : Ret2 w r e w' := by
 obtain ⟨vn, ve, nvs, he, hr, hb⟩ := h
 exact ⟨vn, ve, he, hr.gr, hb⟩
set_option maxRecDepth 20000 in
set_option maxHeartbeats 8000000 in
theorem refSetR_calls (w : World) (S : Nat → Prop) (g : GraphD) (vn ve : Value) (n k v : Int) (h : Gr w S g vn ve) (hs : g.small) : Calls Tryz.prog 68 #[.agg #[vn, ve, .int .i64 g.nn, .int .i64 g.ne], .int .i64 n, .int .i64 k, .int .i64 v] w (Ret2R w (setOf g n k v)) := by
 obtain ⟨⟨A1, c1, rfl⟩, ⟨A2, c2, rfl⟩⟩ := h.slices
 have H := Lib.hid h
 have HS := Lib.hid hs
 have hs2 := hs.2.1
 have hs1 := hs.1
 clear h hs
 go_enter Tryz.func68, Tryz.ntmps68
 go_wp2_with fail
 obtain ⟨W0, hW⟩ : ∃ W0, W0 = ((w.alloc (.cells #[.slice A1 g.nodes.length c1, .slice A2 g.edges.length c2, .int .i64 g.nn, .int .i64 g.ne] 31)).alloc (.cells #[.slice none 0 0, .slice none 0 0, .int .i64 0, .int .i64 0] 31)) := ⟨_, rfl⟩
 have KW := Lib.hid (show Below w.heap.size w W0 by rw [hW]; exact ((Below.refl w.heap.size w).alloc (Nat.le_refl _) _).alloc (by simp) _)
 have BX := Lib.hid (show Box4 W0 w.heap.size (.slice A1 g.nodes.length c1) (.slice A2 g.edges.length c2) (.int .i64 g.nn) (.int .i64 g.ne) by
  rw [hW]
  exact (Box4.made w 31 (.slice A1 g.nodes.length c1) (.slice A2 g.edges.length c2) (.int .i64 g.nn) (.int .i64 g.ne)).keep (by rw [Below.heap_alloc _ _ _ (by simp)]))
 have BR := Lib.hid (show Box4 W0 (w.heap.size + 1) (.slice none 0 0) (.slice none 0 0) (.int .i64 0) (.int .i64 0) by
  rw [hW]
  have := (Box4.made (w.alloc (.cells #[.slice A1 g.nodes.length c1, .slice A2 g.edges.length c2, .int .i64 g.nn, .int .i64 g.ne] 31)) 31 (.slice none 0 0) (.slice none 0 0) (.int .i64 0) (.int .i64 0))
  simp only [World.size_alloc] at this
  exact this)
 have s0 : W0.heap.size = w.heap.size + 1 + 1 := by rw [hW]; simp
 rw [← hW]
 clear hW
 refine (refAt_calls W0 S g _ _ n (H.out.below KW.out) hs1).mono ?_
 rintro e wA ⟨rfl, hbA⟩
 have sA := hbA.size
 have KA := Lib.hid (KW.out.trans (hbA.mono KW.out.size))
 have BXA := Lib.hid (BX.out.keep (hbA.block _ (by omega)))
 have BRA := Lib.hid (BR.out.keep (hbA.block _ (by omega)))
 clear hbA BX BR KW
 have ga : w.heap.size < wA.heap.size := by omega
 have gb : w.heap.size + 1 < wA.heap.size := by omega
 obtain ⟨x0, x1, x2, x3, xf⟩ := BXA.out
 by_cases ha : atOf g.nodes n < 0
 ·
  have HE := Lib.hid (show setOf g n k v = (GraphD.zero, 2) by unfold setOf; rw [if_pos ha])
  have hd : decide (atOf g.nodes n < 0) = true := decide_eq_true ha
  clear ha
  generalize atOf g.nodes n = p at *
  obtain ⟨y0, y1, y2, y3, yf⟩ := BRA.out
  go_wp2
  refine bodyPost_ret (v := .tuple #[.agg #[.slice none 0 0, .slice none 0 0, .int .i64 0, .int .i64 0], .int .i64 2]) (by simp [results, Tryz.results68, go_sem, y0, y1, y2, y3]; try rfl) rfl ?_
  rw [HE.out]
  exact ⟨_, _, [], rfl, RefG.zero _ _ _ _, set4_below KA.out (by omega) _ _ _ _⟩
 obtain ⟨i, x, hi, hx, hid⟩ := atOf_at ha
 have HE := Lib.hid (show setOf g n k v = (⟨g.nodes.set i ⟨x.id, putP x.ps k v⟩, g.edges, g.nn, g.ne⟩, 0) by unfold setOf; rw [if_neg ha, getOf_at1 hi hx, setN_at hi hx hid])
 rw [hi]
 have hil : i < g.nodes.length := (List.getElem?_eq_some_iff.1 hx).1
 have HX := Lib.hid hx
 clear ha hi hx hid
 go_wp2_with fail
 refine (copyR_calls wA S g _ _ (H.out.below KA.out) HS.out).mono ?_
 rintro e w1 ⟨vn1, ve1, nvs, rfl, ho1, hb1⟩
 obtain ⟨⟨B1, d1, rfl⟩, ⟨B2, d2, rfl⟩⟩ := ho1.gr.slices
 have s1 := hb1.size
 have K1 := Lib.hid (KA.out.trans (hb1.mono KA.out.size))
 have BR1 := Lib.hid (BRA.out.keep (hb1.block _ (by omega)))
 have hnl : nvs.length = g.nodes.length := ho1.pairs.len
 obtain ⟨gN, hB1, hgB, hgl⟩ := ho1.nodes.head (by omega)
 subst hB1
 have HO1 := Lib.hid ho1
 obtain ⟨vi, hvi⟩ := getElem?_of_lt (show i < nvs.length by omega)
 obtain ⟨b', off', hA, _, _, _, y1⟩ := ho1.nodes.row.atNV hvi
 injection hA with hA
 injection hA with h1 h2
 subst h1 h2
 simp only [Nat.zero_add] at y1
 have hrx := (ho1.pairs.each i vi x hvi HX.out).2
 have hvn : vi.n = x.ps.length := hrx.n_eq.1
 have HVI := Lib.hid hvi
 obtain ⟨vA, vc, hvA, hvc⟩ : ∃ A c, A = vi.A ∧ c = vi.c := ⟨_, _, rfl, rfl⟩
 rw [hvn, ← hvA, ← hvc] at y1 hrx
 have HRX := Lib.hid hrx
 have hf0 := ho1.nodes.frozenC (i * 2 + 1)
 have hpx := HS.out.2.2 x (List.mem_of_getElem? HX.out)
 clear hb1 ho1 BXA BRA x0 x1 x2 x3 xf hvi hrx hvA hvc hvn hnl
 have KB := Lib.hid (Below.heap1 w1 (.cells #[.slice (some ⟨gN, 0, none⟩) g.nodes.length d1, .slice B2 g.edges.length d2, .int .i64 g.nn, .int .i64 g.ne] 31))
 have BO := Lib.hid (Box4.made w1 31 (.slice (some ⟨gN, 0, none⟩) g.nodes.length d1) (.slice B2 g.edges.length d2) (.int .i64 g.nn) (.int .i64 g.ne))
 have y1' := (KB.out.cell (p := ⟨gN, i * 2 + 1, none⟩) hgl).trans y1
 have hf1 : (w1.alloc (.cells #[.slice (some ⟨gN, 0, none⟩) g.nodes.length d1, .slice B2 g.edges.length d2, .int .i64 g.nn, .int .i64 g.ne] 31)).frozen? ⟨gN, i * 2 + 1, none⟩ = false := (KB.out.frozen (p := ⟨gN, i * 2 + 1, none⟩) hgl).trans hf0
 obtain ⟨z0, z1, z2, z3, zf⟩ := BO.out
 have q1 : gN < w1.heap.size + 1 := by omega
 have q2 : w1.heap.size < w1.heap.size + 1 := by omega
 have q3 : ¬ w1.heap.size = gN := by omega
 go_wp2_with fail
 refine wp_region_sched2 [(0, true), (1, true), (2, true), (3, true), (4, true), (5, true), (6, true), (7, true), (8, true), (9, true), (10, true), (11, true), (12, false), (13, false), (14, true)] 15 [] (Kept (w1.alloc (.cells #[.slice (some ⟨gN, 0, none⟩) g.nodes.length d1, .slice B2 g.edges.length d2, .int .i64 g.nn, .int .i64 g.ne] 31)) (fun _ => True)) (fun _ => True) (by kernel_rfl) (by kernel_rfl) (by kernel_rfl) ?_
 have HK := Lib.hid (Kept.refl (w1.alloc (.cells #[.slice (some ⟨gN, 0, none⟩) g.nodes.length d1, .slice B2 g.edges.length d2, .int .i64 g.nn, .int .i64 g.ne] 31)) (fun _ => True)).drew
 repeat (refine sched2_take (v := ?_) (by simp only [opT, opS, opZ]; rfl) (Or.inl ⟨by rfl, fun W hW => ?_⟩) HK.out ?_; rotate_left; (have hc := fun b o hb => hW.cell b o trivial hb; clear hW; go_simp; with_reducible rfl); simp only [Act.put, putT, putZ, putS])
 refine sched2_step (by simp only [opT, opS, opZ]; rfl) ?_
 go_wp2_with fail
 have HRB := Lib.hid (HRX.out.below KB.out.drew)
 refine (put_calls _ _ _ x.ps ⟨k, v⟩ HRB.out (by omega)).mono ?_
 rintro e w4 ⟨v4, rfl, ho4, hb4⟩
 obtain ⟨A4, c4, rfl⟩ := ho4.slice
 have s4 := hb4.size
 simp only [World.size_alloc, World.size_drew] at s4
 have HK4 := Lib.hid (HK.out.below hb4)
 have K4 := Lib.hid (KB.out.drew.trans (hb4.mono (by simp)))
 have HO4 := Lib.hid (ho4.row.bound)
 have y4 := (K4.out.cell (p := ⟨gN, i * 2 + 1, none⟩) hgl).trans y1
 have hf4 : w4.frozen? ⟨gN, i * 2 + 1, none⟩ = false := (K4.out.frozen (p := ⟨gN, i * 2 + 1, none⟩) hgl).trans hf0
 have BO4 := Lib.hid (BO.out.keep (hb4.block w1.heap.size (by simp)))
 have BR4 := Lib.hid (BR1.out.keep (K4.out.block _ (by omega)))
 have HRG := Lib.hid ((HO1.out.below K4.out).putPairs HVI.out HX.out (A' := A4) (n' := (putP x.ps k v).length) (c' := c4) (ys := putP x.ps k v) (HO4.out.mono fun j hj _ => by
  have h1 := hj.1
  simp only [World.size_alloc, World.size_drew] at h1
  refine ⟨by omega, by omega, fun e => ?_⟩
  have := HO1.out.edges.lt j e
  omega))
 obtain ⟨L, hL⟩ : ∃ L, L = (putP x.ps k v).length := ⟨_, rfl⟩
 simp only at ho4
 rw [← hL] at HRG ⊢
 clear ho4 hb4 hL y1 y1' hf0 hf1
 have q4 : gN < w4.heap.size := by omega
 go_wp2_with fail
 refine sched2_on HK4.out ?_
 refine sched2_step (by simp only [opT, opS, opZ]; rfl) ?_
 go_wp2_with fail
 refine sched2_on HK4.out ?_
 repeat (refine sched2_take (v := ?_) (by simp only [opT, opS, opZ]; rfl) (Or.inl ⟨by rfl, fun W hW => ?_⟩) HK4.out ?_; rotate_left; (have hc := fun b o hb => hW.cell b o trivial hb; clear hW; go_simp; with_reducible rfl); simp only [Act.put, putT, putZ, putS])
 refine sched2_go (by simp only [opT, opS, opZ]; rfl) ?_
 go_wp2_with fail
 refine sched_on trivial ?_
 refine sched_done ?_
 have BO5 := Lib.hid (BO4.out.other (b' := gN) q3 (i * 2 + 1) (.slice A4 L c4))
 have BR5 := Lib.hid (BR4.out.other (b' := gN) (by omega) (i * 2 + 1) (.slice A4 L c4))
 have K5 := Lib.hid ((K1.out.trans (K4.out.mono (by omega))).setCell (p := ⟨gN, i * 2 + 1, none⟩) (by simp only; omega) (.slice A4 L c4))
 have s5 : (w4.setCell ⟨gN, i * 2 + 1, none⟩ (.slice A4 L c4)).heap.size = w4.heap.size := by simp
 clear y4 hf4 BO4 BR4 z0 z1 z2 z3 zf HK HK4 HO4 K4
 generalize hw5 : w4.setCell ⟨gN, i * 2 + 1, none⟩ (.slice A4 L c4) = w5 at *
 clear hw5
 have q5 : w1.heap.size < w5.heap.size := by omega
 have q6 : w.heap.size + 1 < w5.heap.size := by omega
 obtain ⟨y0, y1, y2, y3, yf⟩ := BR5.out
 obtain ⟨z0, z1, z2, z3, zf⟩ := BO5.out
 go_wp2
 refine bodyPost_ret (v := .tuple #[.agg #[.slice (some ⟨gN, 0, none⟩) g.nodes.length d1, .slice B2 g.edges.length d2, .int .i64 g.nn, .int .i64 g.ne], .int .i64 0]) (by simp [results, Tryz.results68, go_sem, y0, y1, y2, y3]; try rfl) rfl ?_
 rw [HE.out]
 have hSm : Same (fun k => wA.heap.size ≤ k) w5 (set4 w5 (w.heap.size + 1) (.slice (some ⟨gN, 0, none⟩) g.nodes.length d1) (.slice B2 g.edges.length d2) (.int .i64 g.nn) (.int .i64 g.ne)) := fun k hk hl => set4_heap _ _ _ _ _ _ k (by omega)
 exact ⟨_, _, _, rfl, (HRG.out.move hSm).mono (by omega), set4_below K5.out (by omega) _ _ _ _⟩
theorem refSet_calls (w : World) (S : Nat → Prop) (g : GraphD) (vn ve : Value) (n k v : Int) (h : Gr w S g vn ve) (hs : g.small) : Calls Tryz.prog 68 #[.agg #[vn, ve, .int .i64 g.nn, .int .i64 g.ne], .int .i64 n, .int .i64 k, .int .i64 v] w (Ret2 w (setOf g n k v)) :=
 (refSetR_calls w S g vn ve n k v h hs).mono fun _ _ h => h.ret2
end Go.Proofs.YtpehmmdbjakkpaaGreat

