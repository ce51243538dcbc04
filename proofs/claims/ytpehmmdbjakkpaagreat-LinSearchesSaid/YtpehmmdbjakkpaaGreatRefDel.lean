/- The reference's Get and Del. -/
import Derived.Test.YtpehmmdbjakkpaaGreatRefB
import Derived.Test.YtpehmmdbjakkpaaGreatOwnSet
namespace Go.Proofs.YtpehmmdbjakkpaaGreat
open Go.RowKit Go.Shelf
set_option linter.unusedSimpArgs false
set_option linter.unusedVariables false
theorem NVs.setG {w : World} {S : Nat → Prop} {nvs : List NV} {xs : List NodeD} (h : NVs w S nvs xs) {i : Nat} {v : NV} {x : NodeD} (hv : nvs[i]? = some v) (hx : xs[i]? = some x) {A : Option Addr} {n c : Nat} {ys : List P2} (hr : Row tP w S (.slice A n c) ys) :
  NVs w S (nvs.set i ⟨v.id, A, n, c⟩) (xs.set i ⟨x.id, ys⟩) := by
 refine ⟨by rw [List.length_set, List.length_set]; exact h.len, fun j u y hu hy => ?_⟩
 rcases set_cases hu with ⟨rfl, rfl⟩ | ⟨hne, hu⟩
 ·
  rcases set_cases hy with ⟨_, rfl⟩ | ⟨hne, _⟩
  ·
   exact ⟨(h.each i v x hv hx).1, hr⟩
  ·
   exact absurd rfl hne
 ·
  rcases set_cases hy with ⟨e, _⟩ | ⟨_, hy⟩
  ·
   exact absurd e hne
  ·
   exact h.each j u y hu hy
set_option maxRecDepth 20000 in
set_option maxHeartbeats 8000000 in
theorem refGet_calls (w : World) (S : Nat → Prop) (g : GraphD) (vn ve : Value) (n : Int) (h : Gr w S g vn ve) (hs : g.small) : Calls Tryz.prog 70 #[.agg #[vn, ve, .int .i64 g.nn, .int .i64 g.ne], .int .i64 n] w fun e w' => ∃ v, e = .returned (.tuple #[v, .int .i64 (getOf g n).2]) ∧ Own tP 92 w' (fun k => w.heap.size ≤ k) v (getOf g n).1 ∧ Below w.heap.size w w' := by
 obtain ⟨⟨A1, c1, rfl⟩, ⟨A2, c2, rfl⟩⟩ := h.slices
 have HS := Lib.hid hs
 have hs1 := hs.1
 have H0 := Lib.hid (h.below (Below.heap1 w (.cells #[.slice A1 g.nodes.length c1, .slice A2 g.edges.length c2, .int .i64 g.nn, .int .i64 g.ne] 31)))
 have BX0 := Lib.hid (Box4.made w 31 (.slice A1 g.nodes.length c1) (.slice A2 g.edges.length c2) (.int .i64 g.nn) (.int .i64 g.ne))
 clear h hs
 go_enter Tryz.func70, Tryz.ntmps70
 go_wp2_with fail
 refine (refAt_calls _ S g _ _ n H0.out hs1).mono ?_
 rintro e w1 ⟨rfl, hb1⟩
 have s1 := hb1.size
 have K1 := Lib.hid ((Below.heap1 w (.cells #[.slice A1 g.nodes.length c1, .slice A2 g.edges.length c2, .int .i64 g.nn, .int .i64 g.ne] 31)).trans (hb1.mono (by simp)))
 have BX1 := Lib.hid (BX0.out.keep (hb1.block _ (by simp)))
 have H1 := Lib.hid (H0.out.below hb1)
 clear hb1 BX0 H0
 simp only [World.size_alloc] at s1
 by_cases ha : atOf g.nodes n < 0
 ·
  have HE := Lib.hid (getOf_none ha)
  have hd : decide (atOf g.nodes n < 0) = true := decide_eq_true ha
  clear ha
  generalize atOf g.nodes n = p at *
  go_wp2
  refine bodyPost_ret (v := .tuple #[.slice none 0 0, .int .i64 2]) (by simp [results, Tryz.results70, go_sem]; try rfl) rfl ?_
  rw [HE.out]
  exact ⟨_, rfl, Own.nil _ _ _ _, K1.out⟩
 obtain ⟨i, x, hi, hx, _⟩ := atOf_at ha
 have HE := Lib.hid (getOf_some hi hx)
 rw [hi]
 have hil : i < g.nodes.length := (List.getElem?_eq_some_iff.1 hx).1
 obtain ⟨bn, on, ap, dp, rfl, _, hbl, hr, z0, z1⟩ := H1.out.atN hx
 have hpx := HS.out.2.2 x (List.mem_of_getElem? hx)
 have HRP := Lib.hid hr.bound
 obtain ⟨x0, x1, x2, x3, xf⟩ := BX1.out
 clear ha hi hx hr
 go_wp2_with (at_builtin; refine wpList_own_append (ty := tP) (W := w1) (S := fun k => True) (Sy := fun k => S k ∧ k < w1.heap.size) (v := .slice none 0 0) (xs := []) (ys := x.ps) rfl _ _ 47 92 16 _ rfl elemPairs rfl (Own.nil _ _ _ _) ap x.ps.length dp rfl HRP.out rfl ?b1 ?b2 trivial (fun k h _ => ⟨trivial, fun e => by simp [Value.ownBlock] at e⟩) ?_)
 case b1 => simp; omega
 case b2 => unfold maxLen; simp; omega
 intro v2 w2 ho2 hg2 hor2
 have hb2 := below_of_grown (Below.refl w1.heap.size w1) hg2 (fun k hk => by simp [Value.ownBlock] at hk)
 have ho3 : Own tP 92 w2 (fun k => w.heap.size ≤ k) v2 x.ps := by
  obtain ⟨_, inner, r1, r2⟩ := ho2
  refine ⟨fun k hk => ?_, inner, r1, fun j x hj => r2 j x hj⟩
  rcases hor2 with h | h
  ·
   rw [h] at hk; simp [Value.ownBlock] at hk
  ·
   have e := Option.some.inj (h.symm.trans hk); omega
 have HO2 := Lib.hid ho3
 have K2 := Lib.hid (K1.out.trans (hb2.mono (by omega)))
 clear ho2 hb2 hg2 hor2 ho3
 go_wp2
 refine bodyPost_ret (v := .tuple #[v2, .int .i64 0]) (by simp [results, Tryz.results70, go_sem]; try rfl) rfl ?_
 rw [HE.out]
 exact ⟨_, rfl, HO2.out, K2.out⟩
def delQ (k : Int) (p : P2) : Bool := !(p.x == k)
set_option maxRecDepth 20000 in
set_option maxHeartbeats 8000000 in
theorem refDel_calls (w : World) (S : Nat → Prop) (g : GraphD) (vn ve : Value) (n k : Int) (h : Gr w S g vn ve) (hs : g.small) : Calls Tryz.prog 69 #[.agg #[vn, ve, .int .i64 g.nn, .int .i64 g.ne], .int .i64 n, .int .i64 k] w (Ret2 w (delOf g n k)) := by
 obtain ⟨⟨A1, c1, rfl⟩, ⟨A2, c2, rfl⟩⟩ := h.slices
 have H := Lib.hid h.bound
 have HS := Lib.hid hs
 have hs2 := hs.2.1
 have hs1 := hs.1
 clear h hs
 go_enter Tryz.func69, Tryz.ntmps69
 go_wp2_with fail
 obtain ⟨W0, hW⟩ : ∃ W0, W0 = ((w.alloc (.cells #[.slice A1 g.nodes.length c1, .slice A2 g.edges.length c2, .int .i64 g.nn, .int .i64 g.ne] 31)).alloc (.cells #[.slice none 0 0, .slice none 0 0, .int .i64 0, .int .i64 0] 31)) := ⟨_, rfl⟩
 have KW := Lib.hid (show Below w.heap.size w W0 by rw [hW]; exact ((Below.refl w.heap.size w).alloc (Nat.le_refl _) _).alloc (by simp) _)
 have BX := Lib.hid (show Box4 W0 w.heap.size (.slice A1 g.nodes.length c1) (.slice A2 g.edges.length c2) (.int .i64 g.nn) (.int .i64 g.ne) by
  rw [hW]
  exact (Box4.made w 31 (.slice A1 g.nodes.length c1) (.slice A2 g.edges.length c2) (.int .i64 g.nn) (.int .i64 g.ne)).keep (by rw [Below.heap_alloc _ _ _ (by simp)]))
 have BR := Lib.hid (show Box4 W0 (w.heap.size + 1) (.slice none 0 0) (.slice none 0 0) (.int .i64 0) (.int .i64 0) by
  rw [hW]
  have := (Box4.made (w.alloc (.cells #[.slice A1 g.nodes.length c1, .slice A2 g.edges.length c2, .int .i64 g.nn, .int .i64 g.ne] 31)) 31 (.slice none 0 0) (.slice none 0 0) (.int .i64 0) (.int .i64 0))
  simp only [World.size_alloc] at this
  exact this)
 have s0 : W0.heap.size = w.heap.size + 1 + 1 := by rw [hW]; simp
 rw [← hW]
 clear hW
 refine (has_calls W0 _ g _ _ n k (H.out.below KW.out) HS.out).mono ?_
 rintro e wA ⟨bb, rfl, hbb, hbA⟩
 have sA := hbA.size
 have KA := Lib.hid (KW.out.trans (hbA.mono KW.out.size))
 have BXA := Lib.hid (BX.out.keep (hbA.block _ (by omega)))
 have BRA := Lib.hid (BR.out.keep (hbA.block _ (by omega)))
 have HBB := Lib.hid (show bb = hasP (getOf g n).1 k by rw [Bool.eq_iff_iff, hbb, has_iff])
 clear hbA BX BR KW hbb
 have ga : w.heap.size < wA.heap.size := by omega
 have gb : w.heap.size + 1 < wA.heap.size := by omega
 obtain ⟨x0, x1, x2, x3, xf⟩ := BXA.out
 cases bb
 case false =>
  have HE := Lib.hid (show delOf g n k = (GraphD.zero, 2) by unfold delOf; rw [← HBB.out]; rfl)
  obtain ⟨y0, y1, y2, y3, yf⟩ := BRA.out
  go_wp2
  refine bodyPost_ret (v := .tuple #[.agg #[.slice none 0 0, .slice none 0 0, .int .i64 0, .int .i64 0], .int .i64 2]) (by simp [results, Tryz.results69, go_sem, y0, y1, y2, y3]; try rfl) rfl ?_
  rw [HE.out]
  exact ⟨_, _, rfl, Gr.zero _ _ _ _, set4_below KA.out (by omega) _ _ _ _⟩
 case true =>
 have hat : ¬ atOf g.nodes n < 0 := fun e => by have h9 := HBB.out; rw [getOf_none e] at h9; simp [hasP] at h9
 obtain ⟨i, x, hi, hx, hid⟩ := atOf_at hat
 have HE := Lib.hid (show delOf g n k = (⟨g.nodes.set i ⟨x.id, x.ps.filter (delQ k)⟩, g.edges, g.nn, g.ne⟩, 0) by
  have e : (getOf g n).1 = x.ps := by rw [getOf_some hi hx]
  unfold delOf
  rw [← HBB.out, e, setN_at hi hx hid]
  rfl)
 have HI := Lib.hid hi
 have HX := Lib.hid hx
 have hil : i < g.nodes.length := (List.getElem?_eq_some_iff.1 hx).1
 have hpx := HS.out.2.2 x (List.mem_of_getElem? hx)
 clear hat hi hx hid
 go_wp2_with fail
 refine (copyR_calls wA _ g _ _ (H.out.below KA.out) HS.out).mono ?_
 rintro e w1 ⟨vn1, ve1, nvs, rfl, ho1, hb1⟩
 obtain ⟨⟨B1, d1, rfl⟩, ⟨B2, d2, rfl⟩⟩ := ho1.gr.slices
 have s1 := hb1.size
 have K1 := Lib.hid (KA.out.trans (hb1.mono KA.out.size))
 have BX1 := Lib.hid (BXA.out.keep (hb1.block _ ga))
 have BR1 := Lib.hid (BRA.out.keep (hb1.block _ gb))
 have hnl : nvs.length = g.nodes.length := ho1.pairs.len
 obtain ⟨gN, hB1, hgB, hgl⟩ := ho1.nodes.head (by omega)
 subst hB1
 obtain ⟨vi, hvi⟩ := getElem?_of_lt (show i < nvs.length by omega)
 have HVI := Lib.hid hvi
 have HO1 := Lib.hid ho1
 clear hb1 BXA BRA x0 x1 x2 x3 xf ho1 hvi
 have KB := Lib.hid (Below.heap1 w1 (.cells #[.slice (some ⟨gN, 0, none⟩) g.nodes.length d1, .slice B2 g.edges.length d2, .int .i64 g.nn, .int .i64 g.ne] 31))
 have BO := Lib.hid (Box4.made w1 31 (.slice (some ⟨gN, 0, none⟩) g.nodes.length d1) (.slice B2 g.edges.length d2) (.int .i64 g.nn) (.int .i64 g.ne))
 have BX2 := Lib.hid (BX1.out.keep (KB.out.block _ (by omega)))
 have K2 := Lib.hid (K1.out.trans (KB.out.mono K1.out.size))
 obtain ⟨x0, x1, x2, x3, xf⟩ := BX2.out
 have q0 : w.heap.size < w1.heap.size + 1 := by omega
 go_wp2_with fail
 refine (refAt_calls _ _ g _ _ n (H.out.below K2.out) hs1).mono ?_
 rintro e w2 ⟨rfl, hb⟩
 rw [HI.out]
 have s2 := hb.size
 simp only [World.size_alloc] at s2
 have KB2 := Lib.hid (KB.out.trans (hb.mono (by simp)))
 have BO2 := Lib.hid (BO.out.keep (hb.block _ (by simp)))
 have BX3 := Lib.hid (BX1.out.keep (KB2.out.block _ (by omega)))
 have BR3 := Lib.hid (BR1.out.keep (KB2.out.block _ (by omega)))
 have K3 := Lib.hid (K1.out.trans (KB2.out.mono K1.out.size))
 have HO2 := Lib.hid (HO1.out.below KB2.out)
 clear hb BX2 K2 x0 x1 x2 x3 xf KB BO BX1 BR1
 obtain ⟨b', off', hA, _, _, _, y1⟩ := HO2.out.nodes.row.atNV HVI.out
 injection hA with hA
 injection hA with h1 h2
 subst h1 h2
 simp only [Nat.zero_add] at y1
 have hf0 := HO2.out.nodes.frozenC (i * 2 + 1)
 obtain ⟨bn, on, ap, dp, hAN, hSb, hbl, hr, t0, t1⟩ := (H.out.below K3.out).atN HX.out
 have hbn : bn < w.heap.size := hSb.2
 subst hAN
 have HRX := Lib.hid hr
 clear hr
 obtain ⟨x0, x1, x2, x3, xf⟩ := BX3.out
 obtain ⟨z0, z1, z2, z3, zf⟩ := BO2.out
 have q1 : w.heap.size < w2.heap.size := by omega
 have q2 : w1.heap.size < w2.heap.size := by omega
 have q3 : gN < w2.heap.size := by omega
 have q4 : ¬ gN = w.heap.size := by omega
 have q5 : ¬ w.heap.size = gN := by omega
 have q6 : ¬ gN = bn := by omega
 have q7 : ¬ bn = gN := by omega
 have q8 : ¬ gN = w1.heap.size := by omega
 have q9 : ¬ w1.heap.size = gN := by omega
 have N0 := Lib.hid (HO2.out.nodes.setFlat (p := i) (i := 1) (y := vi) (y' := ⟨vi.id, none, 0, 0⟩) (u := .slice none 0 0) HVI.out (by decide) rfl)
 have q10 : ¬ w.heap.size + 1 = gN := by omega
 have q11 : ¬ gN = w.heap.size + 1 := by omega
 go_wp2
 clear x0 x1 x2 x3 xf z0 z1 z2 z3 zf t0 t1 y1
 obtain ⟨W4, hW4⟩ : ∃ W4, W4 = w2.setCell ⟨gN, i * 2 + 1, none⟩ (.slice none 0 0) := ⟨_, rfl⟩
 have hk4 : ∀ k, k ≠ gN → W4.heap[k]? = w2.heap[k]? := fun k hk => by rw [hW4]; exact Below.heap_setCell w2 ⟨gN, i * 2 + 1, none⟩ _ k hk
 have s4 : W4.heap.size = w2.heap.size := by rw [hW4]; simp
 have hf4 : W4.frozen? ⟨gN, i * 2 + 1, none⟩ = false := by rw [hW4, World.frozen?_setCell]; exact hf0
 have K4 := Lib.hid (show Below w.heap.size w W4 by rw [hW4]; exact K3.out.setCell (p := ⟨gN, i * 2 + 1, none⟩) (by simp only; omega) _)
 have BO4 := Lib.hid (BO2.out.keep (hk4 _ (by omega)))
 have BR4 := Lib.hid (BR3.out.keep (hk4 _ (by omega)))
 rw [← hW4] at N0 ⊢
 have HE4 := Lib.hid (HO2.out.edges.keepFlat (w' := W4) fun k hk => hk4 k (fun e => HO2.out.ne k hk (by rw [e]; rfl)))
 have HEB := Lib.hid (show ∀ k, (Value.slice B2 g.edges.length d2).ownBlock = some k → wA.heap.size ≤ k ∧ k < w2.heap.size ∧ k ≠ gN from fun k hk => ⟨HO2.out.edges.1 k hk, HO2.out.edges.lt k hk, fun e => HO2.out.ne k hk (by rw [e]; rfl)⟩)
 have HP4 := Lib.hid (HO2.out.pairs.keepG (w' := W4) (S' := fun k => (wA.heap.size ≤ k ∧ k ≠ gN) ∧ k < w2.heap.size) fun k hk hl => ⟨hk4 k (fun e => hk.2.1 (by rw [e]; rfl)), ⟨hk.1, fun e => hk.2.1 (by rw [e]; rfl)⟩, hl⟩)
 have HRX4 := Lib.hid (HRX.out.move (w' := W4) fun k hk _ => hk4 k (by have := hk.2; omega))
 clear hW4 hk4 hf0 BO2 BR3 HRX K3
 go_loopw [35] (fun p wr => ∃ (j : Nat) (A : Option Addr) (nn cc : Nat), j ≤ x.ps.length ∧ p = .int .i64 (j : Int) ∧ Hid (Own tP 92 wr (fun k => w2.heap.size ≤ k) (.slice A nn cc) ((x.ps.take j).filter (delQ k))) ∧ Hid (Own tNV 72 wr (fun k => wA.heap.size ≤ k) (.slice (some ⟨gN, 0, none⟩) g.nodes.length d1) (nvs.set i ⟨vi.id, A, nn, cc⟩)) ∧ Hid (Same (fun k => k < w2.heap.size ∧ k ≠ gN) W4 wr) ∧ Hid (Below w.heap.size w wr) ∧ w2.heap.size ≤ wr.heap.size) (fun p _ => x.ps.length - (intOf p).toNat)
 case atStart => exact ⟨0, none, 0, 0, by omega, rfl, Own.nil _ _ _ _, N0, Lib.hid (fun _ _ _ => rfl), K4, by omega⟩
 case round =>
  obtain ⟨wa, rfl⟩ : ∃ wa, wa = wr := ⟨wr, rfl⟩
  obtain ⟨j, A, nn, cc, hj, rfl, ho, hon, hsm, hb, hsz⟩ := hrel
  have hwa := hb.out.size
  have BOa := Lib.hid (BO4.out.keep (hsm.out w1.heap.size ⟨q2, q9⟩ (by omega)))
  by_cases hlt : j < x.ps.length
  case neg =>
   obtain rfl : j = x.ps.length := by omega
   have ho := Lib.hid (show Own tP 92 wa (fun k => w2.heap.size ≤ k) (.slice A nn cc) (x.ps.filter (delQ k)) by have h9 := ho.out; rw [List.take_length] at h9; exact h9)
   have BRa := Lib.hid (BR4.out.keep (hsm.out (w.heap.size + 1) ⟨by omega, by omega⟩ (by omega)))
   have hnn : nn = (x.ps.filter (delQ k)).length := ho.out.n_eq
   have HEa := Lib.hid (HE4.out.keepFlat (w' := wa) fun k hk => hsm.out k ⟨(HEB.out k hk).2.1, (HEB.out k hk).2.2⟩ (by have := HEB.out k hk; omega))
   have HPa := Lib.hid ((HP4.out.keepG (w' := wa) (S' := fun k => wA.heap.size ≤ k) fun k hk hl => ⟨hsm.out k ⟨hk.2, hk.1.2⟩ hl, hk.1.1⟩).setG HVI.out HX.out (A := A) (n := nn) (c := cc) (ho.out.row.mono fun k hk _ => by omega))
   have HGF := Lib.hid (show Gr wa (fun k => wA.heap.size ≤ k) ⟨g.nodes.set i ⟨x.id, x.ps.filter (delQ k)⟩, g.edges, g.nn, g.ne⟩ (.slice (some ⟨gN, 0, none⟩) g.nodes.length d1) (.slice B2 g.edges.length d2) from ⟨⟨_, hon.out.row, HPa.out⟩, HEa.out.row⟩)
   clear hnn
   obtain ⟨y0, y1, y2, y3, yf⟩ := BRa.out
   obtain ⟨z0, z1, z2, z3, zf⟩ := BOa.out
   have r1 : w1.heap.size < wa.heap.size := by omega
   have r2 : w.heap.size + 1 < wa.heap.size := by omega
   go_wp2
   refine bodyPost_ret (v := .tuple #[.agg #[.slice (some ⟨gN, 0, none⟩) g.nodes.length d1, .slice B2 g.edges.length d2, .int .i64 g.nn, .int .i64 g.ne], .int .i64 0]) (by simp [results, Tryz.results69, go_sem, y0, y1, y2, y3]; try rfl) rfl ?_
   rw [HE.out]
   have hSm : Same (fun k => wA.heap.size ≤ k) wa (set4 wa (w.heap.size + 1) (.slice (some ⟨gN, 0, none⟩) g.nodes.length d1) (.slice B2 g.edges.length d2) (.int .i64 g.nn) (.int .i64 g.ne)) := fun k hk hl => set4_heap _ _ _ _ _ _ k (by omega)
   exact ⟨_, _, rfl, (HGF.out.move hSm).mono (fun k hk _ => by omega), set4_below hb.out (by omega) _ _ _ _⟩
  obtain ⟨p, hp⟩ := getElem?_of_lt hlt
  obtain ⟨bp, op, hAp, hSp, hbpl, u0, u1⟩ := (HRX4.out.move (w' := wa) (hsm.out.mono fun k hk => ⟨by have := hk.2; omega, by have := hk.2; omega⟩)).atP hp
  subst hAp
  have HSU := Lib.hid (filter_take_succ hp (delQ k))
  have hfl := filter_take_len x.ps j (delQ k)
  clear hp
  have KA := Lib.hid (Below.heap1 wa (.cells #[.int .i64 p.x, .int .i64 p.y] 92))
  have r1 : wa.heap.size < wa.heap.size + 1 := by omega
  have r2 : bp < wa.heap.size + 1 := by omega
  have r3 : w1.heap.size < wa.heap.size + 1 := by omega
  have r4 : gN < wa.heap.size + 1 := by omega
  by_cases hn : p.x = k
  ·
   have HF := Lib.hid (show (x.ps.take (j + 1)).filter (delQ k) = (x.ps.take j).filter (delQ k) by rw [HSU.out, if_neg (by simp [delQ, hn]), List.append_nil])
   replace hn : (p.x == k) = true := beq_iff_eq.mpr hn
   go_wp2
   go_roundw
   case rel => exact ⟨j + 1, A, nn, cc, by omega, by first | (go_num; done) | (go_num; omega), Lib.hid (by rw [HF.out]; exact ho.out.below KA.out), Lib.hid (hon.out.below KA.out), Lib.hid (hsm.out.trans (by omega) (Same.of_below' KA.out (fun k hk => by have := hk.1; omega))), Lib.hid (hb.out.trans (KA.out.mono hwa)), by simp; omega⟩
   case measure => simp [intOf]; omega
  have HF := Lib.hid (show (x.ps.take (j + 1)).filter (delQ k) = (x.ps.take j).filter (delQ k) ++ [p] by rw [HSU.out, if_pos (by simp [delQ, hn])])
  replace hn : (p.x == k) = false := beq_eq_false_iff_ne.mpr hn
  obtain ⟨Wp, hWp⟩ : ∃ Wp, Wp = wa.alloc (.cells #[.int .i64 p.x, .int .i64 p.y] 92) := ⟨_, rfl⟩
  have HOp := Lib.hid (show Own tP 92 Wp (fun k => w2.heap.size ≤ k) (.slice A nn cc) ((x.ps.take j).filter (delQ k)) by rw [hWp]; exact ho.out.below KA.out)
  have HNp := Lib.hid (show Own tNV 72 Wp (fun k => wA.heap.size ≤ k) (.slice (some ⟨gN, 0, none⟩) g.nodes.length d1) (nvs.set i ⟨vi.id, A, nn, cc⟩) by rw [hWp]; exact hon.out.below KA.out)
  have BOp := Lib.hid (show Box4 Wp w1.heap.size (.slice (some ⟨gN, 0, none⟩) g.nodes.length d1) (.slice B2 g.edges.length d2) (.int .i64 g.nn) (.int .i64 g.ne) by rw [hWp]; exact BOa.out.keep (KA.out.block _ (by omega)))
  have sp : Wp.heap.size = wa.heap.size + 1 := by rw [hWp]; simp
  have e0 : Wp.cell? ⟨wa.heap.size, 0, none⟩ = some (.int .i64 p.x) := by rw [hWp]; simp [go_sem]
  have e1 : Wp.cell? ⟨wa.heap.size, 1, none⟩ = some (.int .i64 p.y) := by rw [hWp]; simp [go_sem]
  have KP := Lib.hid (show Below w.heap.size w Wp by rw [hWp]; exact hb.out.trans (KA.out.mono hwa))
  have SP := Lib.hid (show Same (fun k => k < w2.heap.size ∧ k ≠ gN) W4 Wp by rw [hWp]; exact hsm.out.trans (by omega) (Same.of_below' KA.out (fun k hk => by have := hk.1; omega)))
  obtain ⟨b', off', hA, _, _, _, y1⟩ := HNp.out.row.atNV (j := i) (x := ⟨vi.id, A, nn, cc⟩) (by rw [List.getElem?_set, if_pos rfl, if_pos (by omega)])
  injection hA with hA
  injection hA with h1 h2
  subst h1 h2
  simp only [Nat.zero_add] at y1
  have hfp := HNp.out.frozenC (i * 2 + 1)
  obtain ⟨z0, z1, z2, z3, zf⟩ := BOp.out
  have T1 := Lib.hid (show (Value.slice A nn cc).ownBlock ≠ some gN from fun e => by have := ho.out.1 _ e; omega)
  have T2 := Lib.hid (show (Value.slice A nn cc).ownBlock ≠ some w1.heap.size from fun e => by have := ho.out.1 _ e; omega)
  have T3 := Lib.hid (show (Value.slice A nn cc).ownBlock ≠ some wa.heap.size from fun e => by have := ho.out.lt _ e; omega)
  have v1 : gN < Wp.heap.size := by omega
  have v2 : w1.heap.size < Wp.heap.size := by omega
  have v3 : wa.heap.size < Wp.heap.size := by omega
  go_wp2_with fail
  rw [← hWp]
  clear hWp
  refine wp_region_sched2 [(0, true), (1, true), (2, true), (3, true), (4, true), (5, true), (6, true), (7, true), (8, true), (9, true), (10, false), (11, false), (12, false), (13, true)] 14 [] (Kept Wp (fun k => (Value.slice A nn cc).ownBlock ≠ some k)) (fun _ => True) (by kernel_rfl) (by kernel_rfl) (by kernel_rfl) ?_
  have HK := Lib.hid (Kept.refl Wp (fun k => (Value.slice A nn cc).ownBlock ≠ some k)).drew
  repeat (refine sched2_take (v := ?_) (by simp only [opT, opS, opZ]; rfl) (Or.inl ⟨by rfl, fun W hW => ?_⟩) HK.out ?_; rotate_left; (have hc1 := hW.cell gN (i * 2 + 1) T1.out v1 ; have hc2 := hW.cell w1.heap.size 0 T2.out v2 ; have hc3 := hW.cell wa.heap.size 0 T3.out v3 ; have hc4 := hW.cell wa.heap.size 1 T3.out v3; clear hW; go_simp; with_reducible rfl); simp only [Act.put, putT, putZ, putS])
  refine sched2_step (by simp only [opT, opS, opZ]; rfl) ?_
  go_wp2_with fail
  have HKa := Lib.hid (HK.out.alloc (.cells #[.int .i64 p.x, .int .i64 p.y] 92))
  refine sched2_on HKa.out ?_
  refine sched2_step (by simp only [opT, opS, opZ]; rfl) ?_
  refine wpList_own_appendS (ty := tP) (w := w) (W := Wp.drew) (S := fun k => w2.heap.size ≤ k) (Sy := fun _ => False) (v := .slice A nn cc) (xs := (x.ps.take j).filter (delQ k)) (x := p) rfl _ _ 47 92 16 _ rfl elemPairs rfl ?hown rfl (by rw [World.size_drew]; exact sp) rfl ?hB ?hge ?hSn ?hbytes ?hlen (fun _ h => h.elim) ?_
  case hown => exact HOp.out.below (Below.refl Wp.heap.size Wp).drew
  case hB => exact KP.out.drew
  case hge => exact fun k hk => by have := HOp.out.1 k hk; omega
  case hSn => intro k hk; simp at hk; show _ ≤ k; omega
  case hbytes => omega
  case hlen => unfold maxLen; omega
  intro v2 w4 ho2 hb2 hge2 hg2
  have s5 := hg2.size
  simp only [World.size_drew] at s5
  obtain ⟨A4, L4, c4, hv4⟩ : ∃ A L c, v2 = .slice A L c := by obtain ⟨A, c, h⟩ := ho2.slice; exact ⟨A, _, c, h⟩
  subst hv4
  have hg2' : Wp.grownBy w4 (Value.slice A nn cc).ownBlock := ⟨hg2.os, hg2.tape, hg2.output, hg2.size, hg2.block⟩
  have HK5 := Lib.hid (HK.out.grown hg2 (fun k hk => .inr fun hT => hT hk))
  have y5 : w4.cell? ⟨gN, i * 2 + 1, none⟩ = some (.slice A nn cc) := (World.cell?_of_block (HK5.out.2 gN T1.out v1)).trans y1
  have hf5 : w4.frozen? ⟨gN, i * 2 + 1, none⟩ = false := (World.frozen?_of_block (HK5.out.2 gN T1.out v1)).trans hfp
  have NN := Lib.hid ((HNp.out.keepFlat (w' := w4) fun k hk => by injection hk with hk; subst hk; exact HK5.out.2 gN T1.out v1).setFlat (p := i) (i := 1) (y := ⟨vi.id, A, nn, cc⟩) (y' := ⟨vi.id, A4, L4, c4⟩) (u := .slice A4 L4 c4) (by rw [List.getElem?_set, if_pos rfl, if_pos (by omega)]) (by decide) rfl)
  rw [List.set_set] at NN
  have hv2 : ∀ k, (Value.slice A4 L4 c4).ownBlock = some k → w2.heap.size ≤ k := fun k hk => ho2.1 k hk
  have NO := Lib.hid (ho2.keepFlat (w' := w4.setCell ⟨gN, i * 2 + 1, none⟩ (.slice A4 L4 c4)) fun k hk => Below.heap_setCell _ ⟨gN, i * 2 + 1, none⟩ _ k (by have := hv2 k hk; simp only; omega))
  have NS := Lib.hid (show Same (fun k => k < w2.heap.size ∧ k ≠ gN) W4 (w4.setCell ⟨gN, i * 2 + 1, none⟩ (.slice A4 L4 c4)) from SP.out.trans (by omega) (fun k (hk : k < w2.heap.size ∧ k ≠ gN) hl => (Below.heap_setCell _ ⟨gN, i * 2 + 1, none⟩ _ k hk.2).trans (hg2'.block k hl (fun e => by have := ho.out.1 _ e.symm; omega))))
  have NBe := Lib.hid (hb2.setCell (p := ⟨gN, i * 2 + 1, none⟩) (by simp only; omega) (.slice A4 L4 c4))
  have q5 : gN < w4.heap.size := by omega
  clear ho2 hb2 hge2 hg2 hg2' hv2 z0 z1 z2 z3 zf e0 e1 y1 HKa
  refine sched2_on HK5.out ?_
  refine sched2_step (by simp only [opT, opS, opZ]; rfl) ?_
  go_wp2_with fail
  refine sched2_on HK5.out ?_
  repeat (refine sched2_take (v := ?_) (by simp only [opT, opS, opZ]; rfl) (Or.inl ⟨by rfl, fun W hW => ?_⟩) HK5.out ?_; rotate_left; (skip; clear hW; go_simp; with_reducible rfl); simp only [Act.put, putT, putZ, putS])
  refine sched2_go (by simp only [opT, opS, opZ]; rfl) ?_
  go_wp2_with fail
  refine sched_on trivial ?_
  refine sched_done ?_
  clear y5 hf5 HK HK5
  go_wp2
  go_roundw
  case rel => exact ⟨j + 1, A4, L4, c4, by omega, by first | (go_num; done) | (go_num; omega), Lib.hid (by rw [HF.out]; exact NO.out), NN, NS, NBe, by simp; omega⟩
  case measure => simp [intOf]; omega

end Go.Proofs.YtpehmmdbjakkpaaGreat
