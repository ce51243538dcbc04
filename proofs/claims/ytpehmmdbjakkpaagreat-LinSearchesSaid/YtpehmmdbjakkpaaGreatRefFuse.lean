/- The reference's Fuse. -/
import Derived.Test.YtpehmmdbjakkpaaGreatRefC
import Derived.Test.YtpehmmdbjakkpaaGreatLiveM
namespace Go.Proofs.YtpehmmdbjakkpaaGreat
open Go.RowKit Go.Shelf
set_option linter.unusedSimpArgs false
set_option linter.unusedVariables false
theorem findIdx_ids (n : Int) : ∀ {xs ys : List NodeD}, xs.map NodeD.id = ys.map NodeD.id → xs.findIdx? (fun x => x.id == n) = ys.findIdx? (fun x => x.id == n) := by
 intro xs
 induction xs with
 | nil => intro ys h; cases ys with
  | nil => rfl
  | cons y ys => simp at h
 | cons x xs ih =>
  intro ys h
  cases ys with
  | nil => simp at h
  | cons y ys =>
   simp only [List.map_cons, List.cons.injEq] at h
   rw [List.findIdx?_cons, List.findIdx?_cons, h.1, ih h.2]
theorem atOf_ids {xs ys : List NodeD} (h : xs.map NodeD.id = ys.map NodeD.id) (n : Int) : atOf xs n = atOf ys n := by
 unfold atOf idxB
 rw [findIdx_ids n h]
theorem atOf_setN {xs : List NodeD} {a : Int} (ha : 0 ≤ atOf xs a) (ps : List P2) (n : Int) : atOf (setN xs a ps) n = atOf xs n := atOf_ids (setN_ids xs a ps ha) n
theorem setN_setN {xs : List NodeD} {a : Int} (ha : 0 ≤ atOf xs a) (ps qs : List P2) : setN (setN xs a ps) a qs = setN xs a qs := by
 unfold setN
 rw [show atOf (xs.set (atOf xs a).toNat ⟨a, ps⟩) a = atOf xs a from atOf_setN ha ps a, List.set_set]
theorem getOf_setN {g : GraphD} {a : Int} (ha : 0 ≤ atOf g.nodes a) (ps : List P2) (es : List EdgeD) (n m : Int) : getOf ⟨setN g.nodes a ps, es, n, m⟩ a = (ps, 0) := by
 obtain ⟨i, x, hi, hx, hid⟩ := atOf_at (xs := g.nodes) (n := a) (by omega)
 have h1 : atOf (setN g.nodes a ps) a = (i : Int) := by rw [atOf_setN ha, hi]
 refine getOf_some (g := ⟨setN g.nodes a ps, es, n, m⟩) (x := ⟨a, ps⟩) h1 ?_
 show (setN g.nodes a ps)[i]? = _
 unfold setN
 rw [hi, Int.toNat_natCast, List.getElem?_set, if_pos rfl, if_pos (List.getElem?_eq_some_iff.1 hx).1]
theorem setN_len (xs : List NodeD) (a : Int) (ps : List P2) : (setN xs a ps).length = xs.length := by simp [setN]
theorem setN_self {g : GraphD} {a : Int} (ha : 0 ≤ atOf g.nodes a) : setN g.nodes a (getOf g a).1 = g.nodes := by
 obtain ⟨i, x, hi, hx, hid⟩ := atOf_at (xs := g.nodes) (n := a) (by omega)
 rw [getOf_some hi hx]
 unfold setN
 rw [hi, Int.toNat_natCast, ← hid]
 obtain ⟨h1, rfl⟩ := List.getElem?_eq_some_iff.1 hx
 exact List.set_getElem_self h1
theorem setN_small {g : GraphD} (hs : g.small) {a : Int} {ps : List P2} (hp : ps.length ≤ 1000000) (es : List EdgeD) (he : es.length ≤ 1000000) (n m : Int) : (⟨setN g.nodes a ps, es, n, m⟩ : GraphD).small := by
 refine ⟨by rw [setN_len]; exact hs.1, he, fun x hx => ?_⟩
 unfold setN at hx
 rcases List.mem_or_eq_of_mem_set hx with h | rfl
 ·
  exact hs.2.2 x h
 ·
  exact hp
/-- A graph of the reference's own, in blocks of S. -/
structure RefS (w : World) (S : Nat → Prop) (g : GraphD) (vn ve : Value) (nvs : List NV) : Prop where
 nodes : Own tNV 72 w S vn nvs
 edges : Own tEdge 75 w S ve g.edges
 pairs : NVs w (fun j => S j ∧ vn.ownBlock ≠ some j ∧ ve.ownBlock ≠ some j) nvs g.nodes
 ne : ∀ j, ve.ownBlock = some j → vn.ownBlock ≠ some j
theorem RefG.refS {w : World} {B : Nat} {g : GraphD} {vn ve : Value} {nvs : List NV} (h : RefG w B g vn ve nvs) : RefS w (fun k => B ≤ k ∧ k < w.heap.size) g vn ve nvs := ⟨h.nodes.bound, h.edges.bound, h.pairs.mono fun k h hl => ⟨⟨h.1, hl⟩, h.2⟩, h.ne⟩
theorem RefS.gr {w : World} {S : Nat → Prop} {g : GraphD} {vn ve : Value} {nvs : List NV} (h : RefS w S g vn ve nvs) : Gr w S g vn ve := ⟨⟨nvs, h.nodes.row, h.pairs.mono fun _ h _ => h.1⟩, h.edges.row⟩
theorem RefS.move {w w' : World} {S : Nat → Prop} {g : GraphD} {vn ve : Value} {nvs : List NV} (h : RefS w S g vn ve nvs) (hs : Same S w w') : RefS w' S g vn ve nvs := ⟨h.nodes.move hs, h.edges.move hs, h.pairs.move (hs.mono fun _ h => h.1), h.ne⟩
theorem RefS.mono {w : World} {S S' : Nat → Prop} {g : GraphD} {vn ve : Value} {nvs : List NV} (h : RefS w S g vn ve nvs) (hs : ∀ k, S k → k < w.heap.size → S' k) : RefS w S' g vn ve nvs := ⟨h.nodes.mono hs, h.edges.mono hs, h.pairs.mono fun k h hl => ⟨hs k h.1 hl, h.2⟩, h.ne⟩
set_option maxRecDepth 20000 in
set_option maxHeartbeats 8000000 in
theorem refFuse_calls (w : World) (S : Nat → Prop) (g : GraphD) (vn ve : Value) (a b : Int) (h : Gr w S g vn ve) (hs : g.small) (hp : ∀ x ∈ g.nodes, x.ps.length ≤ 100) : Calls Tryz.prog 73 #[.agg #[vn, ve, .int .i64 g.nn, .int .i64 g.ne], .int .i64 a, .int .i64 b] w (Ret2 w (fuseOf g a b)) := by
 obtain ⟨⟨A1, c1, rfl⟩, ⟨A2, c2, rfl⟩⟩ := h.slices
 have H := Lib.hid h
 have HS := Lib.hid hs
 have HPF := Lib.hid hp
 have hs2 := hs.2.1
 have hs1 := hs.1
 clear h hs hp
 obtain ⟨W0, hW⟩ : ∃ W0, W0 = ((w.alloc (.cells #[.slice A1 g.nodes.length c1, .slice A2 g.edges.length c2, .int .i64 g.nn, .int .i64 g.ne] 31)).alloc (.cells #[.slice none 0 0, .slice none 0 0, .int .i64 0, .int .i64 0] 31)) := ⟨_, rfl⟩
 have KW := Lib.hid (show Below w.heap.size w W0 by rw [hW]; exact ((Below.refl w.heap.size w).alloc (Nat.le_refl _) _).alloc (by simp) _)
 have BX := Lib.hid (show Box4 W0 w.heap.size (.slice A1 g.nodes.length c1) (.slice A2 g.edges.length c2) (.int .i64 g.nn) (.int .i64 g.ne) by
  rw [hW]
  exact (Box4.made w 31 (.slice A1 g.nodes.length c1) (.slice A2 g.edges.length c2) (.int .i64 g.nn) (.int .i64 g.ne)).keep (by rw [Below.heap_alloc _ _ _ (by simp)]))
 have BR := Lib.hid (show Box4 W0 (w.heap.size + 1) (.slice none 0 0) (.slice none 0 0) (.int .i64 0) (.int .i64 0) by
  rw [hW]
  have := (Box4.made (w.alloc (.cells #[.slice A1 g.nodes.length c1, .slice A2 g.edges.length c2, .int .i64 g.nn, .int .i64 g.ne] 31)) 31 (.slice none 0 0) (.slice none 0 0) (.int .i64 0) (.int .i64 0))
  simp only [World.size_alloc] at this
  exact this)
 have s0 : W0.heap.size = w.heap.size + 1 + 1 := by rw [hW]; simp
 have HW := Lib.hid hW
 clear hW
 by_cases hab : a = b
 ·
  have HE := Lib.hid (show fuseOf g a b = (GraphD.zero, 5) by unfold fuseOf; rw [if_pos hab])
  replace hab : (a == b) = true := beq_iff_eq.mpr hab
  go_enter Tryz.func73, Tryz.ntmps73
  go_wp2
  refine bodyPost_ret (v := .tuple #[.agg #[.slice none 0 0, .slice none 0 0, .int .i64 0, .int .i64 0], .int .i64 5]) (by simp [results, Tryz.results73, go_sem]; try rfl) rfl ?_
  rw [HE.out]
  exact ⟨_, _, rfl, Gr.zero _ _ _ _, (by repeat (first | (with_reducible exact Below.refl _ _) | (with_reducible exact Below.refl _ _) | (with_reducible refine Below.drew ?_) | (with_reducible refine Below.alloc ?_ (by simp; try omega) _) | (with_reducible refine Below.setCell ?_ (by simp; try omega) _)))⟩
 have habd : (a == b) = false := beq_eq_false_iff_ne.mpr hab
 go_enter Tryz.func73, Tryz.ntmps73
 go_wp2_with fail
 rw [← HW.out]
 refine (refAt_calls W0 S g _ _ b (H.out.below KW.out) hs1).mono ?_
 rintro e wB ⟨rfl, hb⟩
 have sB := hb.size
 have KB := Lib.hid (KW.out.trans (hb.mono KW.out.size))
 have BXB := Lib.hid (BX.out.keep (hb.block _ (by omega)))
 have BRB := Lib.hid (BR.out.keep (hb.block _ (by omega)))
 clear hb BX BR KW HW
 have ga : w.heap.size < wB.heap.size := by omega
 obtain ⟨x0, x1, x2, x3, xf⟩ := BXB.out
 go_wp2_with fail
 refine (refAt_calls wB S g _ _ a (H.out.below KB.out) hs1).mono ?_
 rintro e wA ⟨rfl, hb⟩
 have sA := hb.size
 have KA := Lib.hid (KB.out.trans (hb.mono KB.out.size))
 have BXA := Lib.hid (BXB.out.keep (hb.block _ (by omega)))
 have BRA := Lib.hid (BRB.out.keep (hb.block _ (by omega)))
 clear hb BXB BRB KB x0 x1 x2 x3 xf ga
 have ga : w.heap.size < wA.heap.size := by omega
 have gb : w.heap.size + 1 < wA.heap.size := by omega
 by_cases hn : atOf g.nodes a < 0 ∨ atOf g.nodes b < 0
 ·
  have HE := Lib.hid (show fuseOf g a b = (GraphD.zero, 2) by unfold fuseOf; rw [if_neg hab, if_pos hn])
  obtain ⟨y0, y1, y2, y3, yf⟩ := BRA.out
  generalize atOf g.nodes a = p at *
  generalize atOf g.nodes b = q at *
  by_cases hp : p < 0
  ·
   have hd : decide (p < 0) = true := decide_eq_true hp
   clear hp hn
   go_wp2
   refine bodyPost_ret (v := .tuple #[.agg #[.slice none 0 0, .slice none 0 0, .int .i64 0, .int .i64 0], .int .i64 2]) (by simp [results, Tryz.results73, go_sem, y0, y1, y2, y3]; try rfl) rfl ?_
   rw [HE.out]
   exact ⟨_, _, rfl, Gr.zero _ _ _ _, set4_below KA.out (by omega) _ _ _ _⟩
  ·
   have hd : decide (p < 0) = false := decide_eq_false hp
   have hd2 : decide (q < 0) = true := decide_eq_true (hn.resolve_left hp)
   clear hp hn
   go_wp2
   refine bodyPost_ret (v := .tuple #[.agg #[.slice none 0 0, .slice none 0 0, .int .i64 0, .int .i64 0], .int .i64 2]) (by simp [results, Tryz.results73, go_sem, y0, y1, y2, y3]; try rfl) rfl ?_
   rw [HE.out]
   exact ⟨_, _, rfl, Gr.zero _ _ _ _, set4_below KA.out (by omega) _ _ _ _⟩
 have HE := Lib.hid (show fuseOf g a b = (⟨(setN g.nodes a (fuseP (getOf g a).1 (getOf g b).1)).filter (fun x => !(x.id == b)), g.edges.map (subE a b), g.nn, g.ne⟩, 0) by unfold fuseOf; rw [if_neg hab, if_neg hn])
 have hd : decide (atOf g.nodes a < 0) = false := decide_eq_false (fun e => hn (.inl e))
 have HA0 := Lib.hid (show 0 ≤ atOf g.nodes a from by omega)
 obtain ⟨i, x, hi, hx, hid⟩ := atOf_at (xs := g.nodes) (n := b) (by omega)
 have HGB := Lib.hid (getOf_at1 hi hx)
 rw [hi]
 have hpa : (getOf g a).1.length ≤ 100 := by
  obtain ⟨i', x', hi', hx', _⟩ := atOf_at (xs := g.nodes) (n := a) (by omega)
  rw [getOf_at1 hi' hx']
  exact HPF.out x' (List.mem_of_getElem? hx')
 have hpx := HPF.out x (List.mem_of_getElem? hx)
 have hil : i < g.nodes.length := (List.getElem?_eq_some_iff.1 hx).1
 have HX := Lib.hid hx
 clear hn hi hx hid
 obtain ⟨x0, x1, x2, x3, xf⟩ := BXA.out
 generalize atOf g.nodes a = p at hd
 go_wp2_with fail
 refine (copyR_calls wA S g _ _ (H.out.below KA.out) HS.out).mono ?_
 rintro e w1 ⟨vn1, ve1, nvs, rfl, ho1, hb1⟩
 obtain ⟨⟨B1, d1, rfl⟩, ⟨B2, d2, rfl⟩⟩ := ho1.gr.slices
 have s1 := hb1.size
 have K1 := Lib.hid (KA.out.trans (hb1.mono KA.out.size))
 have BX1 := Lib.hid (BXA.out.keep (hb1.block _ (by omega)))
 have BR1 := Lib.hid (BRA.out.keep (hb1.block _ (by omega)))
 have KO := Lib.hid (Below.heap1 w1 (.cells #[.slice B1 g.nodes.length d1, .slice B2 g.edges.length d2, .int .i64 g.nn, .int .i64 g.ne] 31))
 have HR1 := Lib.hid (((ho1.refS).move (w' := w1.alloc (.cells #[.slice B1 g.nodes.length d1, .slice B2 g.edges.length d2, .int .i64 g.nn, .int .i64 g.ne] 31)) fun k hk hl => KO.out.block k hl).mono (S' := fun k => wA.heap.size ≤ k ∧ k ≠ w1.heap.size) fun k hk _ => ⟨hk.1, by have := hk.2; omega⟩)
 have BO := Lib.hid (Box4.made w1 31 (.slice B1 g.nodes.length d1) (.slice B2 g.edges.length d2) (.int .i64 g.nn) (.int .i64 g.ne))
 have KW2 := Lib.hid (K1.out.alloc (by omega) (.cells #[.slice B1 g.nodes.length d1, .slice B2 g.edges.length d2, .int .i64 g.nn, .int .i64 g.ne] 31))
 have BX2 := Lib.hid (BX1.out.keep (KO.out.block _ (by omega)))
 have BR2 := Lib.hid (BR1.out.keep (KO.out.block _ (by omega)))
 clear hb1 ho1 BXA BRA BX1 BR1 x0 x1 x2 x3 xf
 obtain ⟨x0, x1, x2, x3, xf⟩ := BX2.out
 obtain ⟨bn, on, ap, dp, hAN, _, hbl, hr, z0, z1⟩ := (H.out.bound.below KW2.out).atN HX.out
 subst hAN
 have HRX := Lib.hid hr
 clear hr
 have q0 : w.heap.size < w1.heap.size + 1 := by omega
 have q1 : bn < w1.heap.size + 1 := by simpa using hbl
 have s2 : (w1.alloc (.cells #[.slice B1 g.nodes.length d1, .slice B2 g.edges.length d2, .int .i64 g.nn, .int .i64 g.ne] 31)).heap.size = w1.heap.size + 1 := by simp
 go_wp2
 clear x0 x1 x2 x3 xf z0 z1
 obtain ⟨W2, hW2⟩ : ∃ W2, W2 = w1.alloc (.cells #[.slice B1 g.nodes.length d1, .slice B2 g.edges.length d2, .int .i64 g.nn, .int .i64 g.ne] 31) := ⟨_, rfl⟩
 rw [← hW2] at HR1 BO KW2 BX2 BR2 HRX s2 ⊢
 clear hW2 KO
 go_loopw [38] (fun p wr => ∃ (k : Nat) (A3 : Option Addr) (d3 : Nat) (A4 : Option Addr) (d4 : Nat) (nvs' : List NV), k ≤ x.ps.length ∧ p = .int .i64 (k : Int) ∧ Hid (RefS wr (fun k => wA.heap.size ≤ k ∧ k ≠ w1.heap.size) ⟨setN g.nodes a (fuseP (getOf g a).1 (x.ps.take k)), g.edges, g.nn, g.ne⟩ (.slice A3 g.nodes.length d3) (.slice A4 g.edges.length d4) nvs') ∧ Hid (Box4 wr w1.heap.size (.slice A3 g.nodes.length d3) (.slice A4 g.edges.length d4) (.int .i64 g.nn) (.int .i64 g.ne)) ∧ Hid (Same (fun k => k < wA.heap.size) W2 wr) ∧ Hid (Below w.heap.size w wr) ∧ w1.heap.size + 1 ≤ wr.heap.size) (fun p _ => x.ps.length - (intOf p).toNat)
 case atStart => exact ⟨0, B1, d1, B2, d2, nvs, by omega, rfl, Lib.hid (by
  have e : setN g.nodes a (fuseP (getOf g a).1 (x.ps.take 0)) = g.nodes := setN_self HA0.out
  rw [e]
  exact HR1.out), BO, Lib.hid (fun _ _ _ => rfl), KW2, by omega⟩
 case round =>
  obtain ⟨W5, rfl⟩ : ∃ W5, W5 = wr := ⟨wr, rfl⟩
  obtain ⟨k, A3, d3, A4, d4, nvs', hk, rfl, hrs, hbo, hsm, hb, hsz⟩ := hrel
  have hw5 := hb.out.size
  have q2 : w1.heap.size < W5.heap.size := by omega
  obtain ⟨z0, z1, z2, z3, zf⟩ := hbo.out
  by_cases hlt : k < x.ps.length
  case neg =>
   obtain rfl : k = x.ps.length := by omega
   obtain ⟨gn, hgn⟩ : ∃ gn, gn = setN g.nodes a (fuseP (getOf g a).1 (getOf g b).1) := ⟨_, rfl⟩
   have HRS := Lib.hid (show RefS W5 (fun k => wA.heap.size ≤ k ∧ k ≠ w1.heap.size) ⟨gn, g.edges, g.nn, g.ne⟩ (.slice A3 g.nodes.length d3) (.slice A4 g.edges.length d4) nvs' by rw [hgn]; have h9 := hrs.out; rw [List.take_length, ← HGB.out] at h9; exact h9)
   have HGL := Lib.hid (show gn.length = g.nodes.length by rw [hgn, setN_len])
   have HSG := Lib.hid (show ∀ es : List EdgeD, es.length ≤ 1000000 → (⟨gn, es, g.nn, g.ne⟩ : GraphD).small by
    intro es he
    rw [hgn]
    refine setN_small HS.out ?_ es he g.nn g.ne
    have h1 := fuseP_len (getOf g b).1 (getOf g a).1
    rw [HGB.out] at h1 ⊢
    omega)
   rw [← hgn] at HE
   clear hgn hrs
   have NE := Lib.hid HRS.out.ne
   have hEB := Lib.hid (fun k e => HRS.out.edges.1 k e)
   have BR5 := Lib.hid (BR2.out.keep (hsm.out (w.heap.size + 1) (by omega) (by omega)))
   go_wp2
   clear z0 z1 z2 z3 zf
   go_loopw [62] (fun p wr => ∃ (k : Nat) (ys : List EdgeD), k ≤ g.edges.length ∧ p = .int .i64 (k : Int) ∧ Hid (ys = (g.edges.take k).map (subE a b) ++ g.edges.drop k) ∧ Hid (Own tEdge 75 wr (fun k => wA.heap.size ≤ k ∧ k ≠ w1.heap.size) (.slice A4 g.edges.length d4) ys) ∧ Hid (Same (fun k => (Value.slice A4 g.edges.length d4).ownBlock ≠ some k) W5 wr) ∧ W5.heap.size ≤ wr.heap.size ∧ Hid (Below w.heap.size w wr)) (fun p _ => g.edges.length - (intOf p).toNat)
   case atStart => exact ⟨0, g.edges, by omega, rfl, Lib.hid (by simp), Lib.hid HRS.out.edges, (fun _ _ _ => rfl), Nat.le_refl _, hb⟩
   case round =>
    obtain ⟨wa, rfl⟩ : ∃ wa, wa = wr := ⟨wr, rfl⟩
    obtain ⟨k, ys, hk, rfl, hys, ho, hsa, hsz2, hba⟩ := hrel
    have hwa := hba.out.size
    have BOa := Lib.hid (hbo.out.keep (hsa.out w1.heap.size (fun e => by have := hEB.out _ e; omega) q2))
    have q3 : w1.heap.size < wa.heap.size := by omega
    obtain ⟨z0, z1, z2, z3, zf⟩ := BOa.out
    by_cases hlt2 : k < g.edges.length
    case neg =>
     obtain rfl : k = g.edges.length := by omega
     have HEM := Lib.hid (show ys = g.edges.map (subE a b) by rw [hys.out, List.take_length, List.drop_length, List.append_nil])
     have BRa := Lib.hid (BR5.out.keep (hsa.out (w.heap.size + 1) (fun e => by have := hEB.out _ e; omega) (by omega)))
     have HNa := Lib.hid (HRS.out.nodes.keepFlat (w' := wa) fun k hk => hsa.out k (fun e => NE.out k e hk) (HRS.out.nodes.lt k hk))
     have HPa := Lib.hid (HRS.out.pairs.keepG (w' := wa) (S' := fun k => wA.heap.size ≤ k ∧ k ≠ w1.heap.size) fun k hk hl => ⟨hsa.out k hk.2.2 hl, hk.1⟩)
     have HGa := Lib.hid (show Gr wa (fun k => wA.heap.size ≤ k ∧ k ≠ w1.heap.size) ⟨gn, ys, g.nn, g.ne⟩ (.slice A3 g.nodes.length d3) (.slice A4 g.edges.length d4) from ⟨⟨nvs', HNa.out.row, HPa.out⟩, ho.out.row⟩)
     have hyl : ys.length = g.edges.length := by rw [HEM.out, List.length_map]
     go_wp2_with fail
     refine (refWithout_calls wa _ ⟨gn, ys, g.nn, g.ne⟩ _ _ b HGa.out (HSG.out ys (by omega))).mono ?_
     rintro e w9 ⟨vn9, ve9, rfl, hg9, hb9⟩
     have s9 := hb9.size
     have BR9 := Lib.hid (BRa.out.keep (hb9.block _ (by omega)))
     have K9 := Lib.hid (hba.out.trans (hb9.mono hwa))
     simp only at hg9 ⊢
     rw [HEM.out] at hg9
     obtain ⟨⟨A9, d9, rfl⟩, ⟨A10, d10, rfl⟩⟩ := hg9.slices
     have HG9 := Lib.hid hg9
     clear hg9 hb9 z0 z1 z2 z3 zf hyl
     obtain ⟨y0, y1, y2, y3, yf⟩ := BR9.out
     have q4 : w.heap.size + 1 < w9.heap.size := by omega
     simp only [List.length_map] at HG9 ⊢
     obtain ⟨L, hL⟩ : ∃ L, L = (gn.filter fun x => !(x.id == b)).length := ⟨_, rfl⟩
     rw [← hL] at HG9 ⊢
     clear hL
     go_wp2
     refine bodyPost_ret (v := .tuple #[.agg #[.slice A9 L d9, .slice A10 g.edges.length d10, .int .i64 g.nn, .int .i64 g.ne], .int .i64 0]) (by simp [results, Tryz.results73, go_sem, y0, y1, y2, y3]; try rfl) rfl ?_
     rw [HE.out]
     have hSm : Same (fun k => wa.heap.size ≤ k) w9 (set4 w9 (w.heap.size + 1) (.slice A9 L d9) (.slice A10 g.edges.length d10) (.int .i64 g.nn) (.int .i64 g.ne)) := fun k hk hl => set4_heap _ _ _ _ _ _ k (by omega)
     exact ⟨_, _, rfl, (HG9.out.move hSm).mono (fun k hk _ => by omega), set4_below K9.out (by omega) _ _ _ _⟩
    have hyl : ys.length = g.edges.length := by rw [hys.out]; simp; omega
    have hkl : k < ys.length := by omega
    obtain ⟨y, hy⟩ := getElem?_of_lt hlt2
    have hyk : ys[k]? = some y := by
     rw [hys.out, List.getElem?_append_right (by simp; omega), List.getElem?_drop, ← hy]
     congr 1
     simp
     omega
    obtain ⟨gE, hB2, hgEB, hgEl⟩ := ho.out.head (by omega)
    subst hB2
    obtain ⟨b9, off9, hA, _, _, t0, t1, t2⟩ := ho.out.row.atEdge hyk
    injection hA with hA
    injection hA with h1 h2
    subst h1 h2
    simp only [Nat.zero_add] at t0 t1 t2
    have hfz := fun o => ho.out.frozenC o
    have HY := Lib.hid hy
    have HYK := Lib.hid hyk
    have HNX := Lib.hid (show ∀ z : EdgeD, z = subE a b y → ys.set k z = (g.edges.take (k + 1)).map (subE a b) ++ g.edges.drop (k + 1) from fun z hz => by
     rw [hz, hys.out, List.take_add_one, HY.out, Option.toList_some, List.map_append, List.set_append_right _ _ (by simp; omega)]
     have e : k - ((g.edges.take k).map (subE a b)).length = 0 := by simp; omega
     rw [e, List.drop_eq_getElem_cons hlt2]
     have e2 : g.edges[k] = y := by have h := HY.out; rw [List.getElem?_eq_getElem hlt2] at h; injection h
     simp [e2])
    clear hy hyk hyl
    have q5 : gE < wa.heap.size := by omega
    have q6 : ¬ w1.heap.size = gE := by have := hgEB; omega
    have q7 : ¬ gE = w1.heap.size := by omega
    have hSd : ∀ (o : Nat) (u : Value), Same (fun k => (Value.slice (some ⟨gE, 0, none⟩) g.edges.length d4).ownBlock ≠ some k) wa (wa.setCell ⟨gE, o, none⟩ u) := fun o u => Same.of_setCell _ ⟨gE, o, none⟩ _ (fun k' hk' e => hk' (by rw [e]; rfl))
    by_cases hf : y.frm = b
    ·
     have N1 := ho.out.setFlat (p := k) (i := 1) (y := y) (y' := ⟨y.id, a, y.to⟩) (u := .int .i64 a) HYK.out (by decide) rfl
     have HS1 := hSd (k * 3 + 1) (.int .i64 a)
     by_cases ht : y.to = b
     ·
      have N2 := N1.setFlat (p := k) (i := 2) (y := ⟨y.id, a, y.to⟩) (y' := ⟨y.id, a, a⟩) (u := .int .i64 a) (by rw [List.getElem?_set, if_pos rfl, if_pos hkl]) (by decide) rfl
      rw [List.set_set] at N2
      have N := Lib.hid N2
      have HN := Lib.hid (HNX.out ⟨y.id, a, a⟩ (by unfold subE; rw [if_pos hf, if_pos ht]))
      replace hf : (y.frm == b) = true := beq_iff_eq.mpr hf
      replace ht : (y.to == b) = true := beq_iff_eq.mpr ht
      have N3 := Lib.hid ((hsa.out.trans hsz2 HS1).trans (by simp; omega) (Same.of_setCell _ ⟨gE, k * 3 + 2, none⟩ (.int .i64 a) (fun k' (hk' : (Value.slice (some ⟨gE, 0, none⟩) g.edges.length d4).ownBlock ≠ some k') e => hk' (by rw [e]; rfl))))
      clear N1 N2 HS1 hSd
      go_wp2
      go_roundw
      case rel => exact ⟨k + 1, _, by omega, by first | (go_num; done) | (go_num; omega), HN, N, N3, by simp; omega, Lib.hid ((hba.out.setCell (p := ⟨gE, k * 3 + 1, none⟩) (by simp only; omega) _).setCell (p := ⟨gE, k * 3 + 2, none⟩) (by simp only; omega) _)⟩
      case measure => simp [intOf]; omega
     ·
      have N := Lib.hid N1
      have HN := Lib.hid (HNX.out ⟨y.id, a, y.to⟩ (by unfold subE; rw [if_pos hf, if_neg ht]))
      replace hf : (y.frm == b) = true := beq_iff_eq.mpr hf
      replace ht : (y.to == b) = false := beq_eq_false_iff_ne.mpr ht
      have N3 := Lib.hid (hsa.out.trans hsz2 HS1)
      clear N1 HS1 hSd
      go_wp2
      go_roundw
      case rel => exact ⟨k + 1, _, by omega, by first | (go_num; done) | (go_num; omega), HN, N, N3, by simp; omega, Lib.hid (hba.out.setCell (p := ⟨gE, k * 3 + 1, none⟩) (by simp only; omega) _)⟩
      case measure => simp [intOf]; omega
    ·
     by_cases ht : y.to = b
     ·
      have N := Lib.hid (ho.out.setFlat (p := k) (i := 2) (y := y) (y' := ⟨y.id, y.frm, a⟩) (u := .int .i64 a) HYK.out (by decide) rfl)
      have HN := Lib.hid (HNX.out ⟨y.id, y.frm, a⟩ (by unfold subE; rw [if_neg hf, if_pos ht]))
      replace hf : (y.frm == b) = false := beq_eq_false_iff_ne.mpr hf
      replace ht : (y.to == b) = true := beq_iff_eq.mpr ht
      have N3 := Lib.hid (hsa.out.trans hsz2 (hSd (k * 3 + 2) (.int .i64 a)))
      clear hSd
      go_wp2
      go_roundw
      case rel => exact ⟨k + 1, _, by omega, by first | (go_num; done) | (go_num; omega), HN, N, N3, by simp; omega, Lib.hid (hba.out.setCell (p := ⟨gE, k * 3 + 2, none⟩) (by simp only; omega) _)⟩
      case measure => simp [intOf]; omega
     ·
      have HSE := Lib.hid (show ys.set k y = ys by
       apply List.ext_getElem?
       intro m
       rw [List.getElem?_set]
       split
       ·
        rename_i e
        rw [← e]
        first | exact HYK.out.symm | (rw [if_pos hkl]; exact HYK.out.symm)
       ·
        rfl)
      have HN := Lib.hid (show ys = (g.edges.take (k + 1)).map (subE a b) ++ g.edges.drop (k + 1) from HSE.out.symm.trans (HNX.out y (by unfold subE; rw [if_neg hf, if_neg ht])))
      replace hf : (y.frm == b) = false := beq_eq_false_iff_ne.mpr hf
      replace ht : (y.to == b) = false := beq_eq_false_iff_ne.mpr ht
      clear hSd
      go_wp2
      go_roundw
      case rel => exact ⟨k + 1, ys, by omega, by first | (go_num; done) | (go_num; omega), HN, ho, hsa, hsz2, hba⟩
      case measure => simp [intOf]; omega
  obtain ⟨p, hp⟩ := getElem?_of_lt hlt
  obtain ⟨bp, op, hAp, _, hbpl, u0, u1⟩ := (HRX.out.move (w' := W5) (hsm.out.mono fun k hk => by have := hk.2; omega)).atP hp
  subst hAp
  obtain ⟨cur, hcur⟩ : ∃ cur, cur = fuseP (getOf g a).1 (x.ps.take k) := ⟨_, rfl⟩
  have hcl : cur.length ≤ 200 := by
   have h1 := fuseP_len (x.ps.take k) (getOf g a).1
   rw [List.length_take] at h1
   rw [hcur]
   omega
  have HFS := Lib.hid (show fuseP (getOf g a).1 (x.ps.take (k + 1)) = addP cur p by rw [fuseP_take hp, hcur])
  rw [← hcur] at hrs
  have HSM := Lib.hid (setN_small (a := a) (ps := cur) HS.out (by omega) g.edges hs2 g.nn g.ne)
  have HGO := Lib.hid (getOf_setN HA0.out cur g.edges g.nn g.ne)
  clear hp hcur
  have KP := Lib.hid (Below.heap1 W5 (.cells #[.int .i64 p.x, .int .i64 p.y] 92))
  have r1 : W5.heap.size < W5.heap.size + 1 := by omega
  have r2 : bp < W5.heap.size + 1 := by omega
  have r3 : w1.heap.size < W5.heap.size + 1 := by omega
  have HGP := Lib.hid (hrs.out.gr.below KP.out)
  go_wp2_with fail
  refine (has_calls _ _ ⟨setN g.nodes a cur, g.edges, g.nn, g.ne⟩ _ _ a p.x HGP.out HSM.out).mono ?_
  rintro e w6 ⟨bb, rfl, hbb, hb6⟩
  have HBB := Lib.hid (show bb = hasP cur p.x by rw [Bool.eq_iff_iff, hbb, has_iff, HGO.out])
  have s6 := hb6.size
  simp only [World.size_alloc] at s6
  have K6 := Lib.hid (KP.out.trans (hb6.mono (by simp)))
  have hc6 := (bcell hb6).1
  have BO6 := Lib.hid (hbo.out.keep (K6.out.block _ q2))
  have HG6 := Lib.hid (hrs.out.gr.below K6.out)
  have HRS6 := Lib.hid (hrs.out.move (Same.of_below K6.out |>.mono fun _ _ => trivial))
  have HB6 := Lib.hid (hb.out.trans (K6.out.mono hw5))
  have HSM6 := Lib.hid (hsm.out.trans (by omega) (Same.of_below' K6.out (fun k (hk : k < wA.heap.size) => by omega)))
  simp only [World.size_alloc] at hc6
  clear hb6 hbb u0 u1 z0 z1 z2 z3 zf
  have r4 : w1.heap.size < w6.heap.size := by omega
  cases bb
  case true =>
   have HE2 := Lib.hid (show fuseP (getOf g a).1 (x.ps.take (k + 1)) = cur by rw [HFS.out]; unfold addP; rw [if_pos HBB.out.symm])
   clear hc6
   go_wp2
   go_roundw
   case rel => exact ⟨k + 1, A3, d3, A4, d4, nvs', by omega, by first | (go_num; done) | (go_num; omega), Lib.hid (by rw [HE2.out]; exact HRS6.out), BO6, HSM6, HB6, by omega⟩
   case measure => simp [intOf]; omega
  case false =>
  have HE2 := Lib.hid (show fuseP (getOf g a).1 (x.ps.take (k + 1)) = putP cur p.x p.y by rw [HFS.out]; unfold addP; rw [if_neg (by rw [← HBB.out]; exact Bool.false_ne_true)])
  have HSE := Lib.hid (show setOf ⟨setN g.nodes a cur, g.edges, g.nn, g.ne⟩ a p.x p.y = (⟨setN g.nodes a (putP cur p.x p.y), g.edges, g.nn, g.ne⟩, 0) by
   unfold setOf
   simp only
   rw [if_neg (by rw [atOf_setN HA0.out]; have := HA0.out; omega), HGO.out, setN_setN HA0.out])
  obtain ⟨y0, y1, y2, y3, yf⟩ := BO6.out
  have e1 : w6.cell? ⟨W5.heap.size, 0, none⟩ = some (.int .i64 p.x) := by rw [hc6 _ _ r1]; simp [go_sem]
  have e2 : w6.cell? ⟨W5.heap.size, 1, none⟩ = some (.int .i64 p.y) := by rw [hc6 _ _ r1]; simp [go_sem]
  have r6 : W5.heap.size < w6.heap.size := by omega
  clear hc6
  go_wp2_with fail
  refine (refSetR_calls w6 _ ⟨setN g.nodes a cur, g.edges, g.nn, g.ne⟩ _ _ a p.x p.y HG6.out HSM.out).mono ?_
  rw [HSE.out]
  rintro e w7 ⟨vn7, ve7, nvs7, rfl, hr7, hb7⟩
  have hsl := hr7.gr.slices
  simp only [setN_len] at hsl
  obtain ⟨⟨A7, d7, rfl⟩, ⟨A8, d8, rfl⟩⟩ := hsl
  have s7 := hb7.size
  have BO7 := Lib.hid (BO6.out.keep (hb7.block _ r4))
  have HB7 := Lib.hid (HB6.out.trans (hb7.mono (by omega)))
  have HSM7 := Lib.hid (HSM6.out.trans (by omega) (Same.of_below' hb7 (fun k (hk : k < wA.heap.size) => by omega)))
  have HR7 := Lib.hid hr7.refS
  clear hr7 hb7 y0 y1 y2 y3 yf e1 e2
  obtain ⟨y0, y1, y2, y3, yf⟩ := BO7.out
  have r5 : w1.heap.size < w7.heap.size := by omega
  have N1 := Lib.hid ((HR7.out.move (w' := set4 w7 w1.heap.size (.slice A7 g.nodes.length d7) (.slice A8 g.edges.length d8) (.int .i64 g.nn) (.int .i64 g.ne)) fun k hk hl => set4_heap _ _ _ _ _ _ k (by have := hk.1; omega)).mono (S' := fun k => wA.heap.size ≤ k ∧ k ≠ w1.heap.size) fun k hk _ => by have := hk.1; omega)
  have N2 := Lib.hid (BO7.out.set (.slice A7 g.nodes.length d7) (.slice A8 g.edges.length d8) (.int .i64 g.nn) (.int .i64 g.ne))
  have N3 := Lib.hid (HSM7.out.trans (by omega) (fun k (hk : k < wA.heap.size) hl => set4_heap w7 w1.heap.size (.slice A7 g.nodes.length d7) (.slice A8 g.edges.length d8) (.int .i64 g.nn) (.int .i64 g.ne) k (by omega)))
  have N4 := Lib.hid (set4_below HB7.out (by omega : w.heap.size ≤ w1.heap.size) (.slice A7 g.nodes.length d7) (.slice A8 g.edges.length d8) (.int .i64 g.nn) (.int .i64 g.ne))
  have N5 : w1.heap.size + 1 ≤ (set4 w7 w1.heap.size (.slice A7 g.nodes.length d7) (.slice A8 g.edges.length d8) (.int .i64 g.nn) (.int .i64 g.ne)).heap.size := by rw [set4_size]; omega
  unfold set4 at N1 N2 N3 N4 N5
  go_wp2
  go_roundw
  case rel => exact ⟨k + 1, A7, d7, A8, d8, nvs7, by omega, by first | (go_num; done) | (go_num; omega), Lib.hid (by rw [HE2.out]; exact N1.out), N2, N3, N4, N5⟩
  case measure => simp [intOf]; omega

end Go.Proofs.YtpehmmdbjakkpaaGreat
