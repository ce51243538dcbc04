/- graph.Fuse, whole. graph.Fuse: what it hands back, whatever the nodes. -/
import Derived.Test.YtpehmmdbjakkpaaGreatLiveM
import Derived.Test.YtpehmmdbjakkpaaGreatOwnSet
import Derived.Test.YtpehmmdbjakkpaaGreatLibM
import Derived.Test.YtpehmmdbjakkpaaGreatGetM
namespace Go.Proofs.YtpehmmdbjakkpaaGreat
open Go.RowKit Go.Shelf
set_option linter.unusedSimpArgs false
set_option linter.unusedVariables false
set_option maxRecDepth 20000 in
set_option maxHeartbeats 8000000 in
theorem fuseS_calls (w : World) (S : Nat → Prop) (g : GraphD) (vn ve : Value) (a b : Int) (h : Gr w S g vn ve) (hs : g.small) (hab : a ≠ b) {i j : Nat} (hi : atOf g.nodes a = (i : Int)) (hj : atOf g.nodes b = (j : Int)) {xi xj : NodeD} (hxi : g.nodes[i]? = some xi) (hxj : g.nodes[j]? = some xj) (hri : Rises xi.ps xi.ps.length) (hpi : xi.ps.length ≤ 100) (hpj : xj.ps.length ≤ 100) (hij : i ≠ j) :
  Calls Tryz.prog 99 #[.agg #[vn, ve, .int .i64 g.nn, .int .i64 g.ne], .int .i64 a, .int .i64 b] w fun e w' => ∃ vn' ve', e = .returned (.tuple #[.agg #[vn', ve', .int .i64 g.nn, .int .i64 g.ne], .int .i64 0]) ∧ Gr w' (fun k => w.heap.size ≤ k) ⟨(g.nodes.set i ⟨xi.id, fuseP xi.ps xj.ps⟩).filter (fun x => !(x.id == b)), g.edges.map (subE a b), g.nn, g.ne⟩ vn' ve' ∧ Below w.heap.size w w' := by
 obtain ⟨⟨A1, c1, rfl⟩, ⟨A2, c2, rfl⟩⟩ := h.slices
 have HG := Lib.hid h
 have HS := Lib.hid hs
 have hs1 := hs.1
 have hs2 := hs.2.1
 have hil : i < g.nodes.length := (List.getElem?_eq_some_iff.1 hxi).1
 have hjl : j < g.nodes.length := (List.getElem?_eq_some_iff.1 hxj).1
 have HXI := Lib.hid hxi
 have HXJ := Lib.hid hxj
 have HRI := Lib.hid hri
 have HI := Lib.hid hi
 have HJ := Lib.hid hj
 have habd : (a == b) = false := beq_eq_false_iff_ne.mpr hab
 have hW0 : Below w.heap.size w (((w.alloc (.cells #[.slice A1 g.nodes.length c1, .slice A2 g.edges.length c2, .int .i64 g.nn, .int .i64 g.ne] 31)).alloc (.cells #[.int .i64 b] 3)).alloc (.cells #[.slice none 0 0, .slice none 0 0, .int .i64 0, .int .i64 0] 31)) := (((Below.refl w.heap.size w).alloc (Nat.le_refl _) _).alloc (by simp) _).alloc (by simp; omega) _
 have KW := Lib.hid hW0.drew
 have BX := Lib.hid ((Box4.made w 31 (.slice A1 g.nodes.length c1) (.slice A2 g.edges.length c2) (.int .i64 g.nn) (.int .i64 g.ne)).keep (W' := (((w.alloc (.cells #[.slice A1 g.nodes.length c1, .slice A2 g.edges.length c2, .int .i64 g.nn, .int .i64 g.ne] 31)).alloc (.cells #[.int .i64 b] 3)).alloc (.cells #[.slice none 0 0, .slice none 0 0, .int .i64 0, .int .i64 0] 31))) (by rw [Below.heap_alloc _ _ _ (by simp; omega), Below.heap_alloc _ _ _ (by simp)]))
 have BR := Lib.hid (Box4.made ((w.alloc (.cells #[.slice A1 g.nodes.length c1, .slice A2 g.edges.length c2, .int .i64 g.nn, .int .i64 g.ne] 31)).alloc (.cells #[.int .i64 b] 3)) 31 (.slice none 0 0) (.slice none 0 0) (.int .i64 0) (.int .i64 0))
 have CB := Lib.hid (show (((w.alloc (.cells #[.slice A1 g.nodes.length c1, .slice A2 g.edges.length c2, .int .i64 g.nn, .int .i64 g.ne] 31)).alloc (.cells #[.int .i64 b] 3)).alloc (.cells #[.slice none 0 0, .slice none 0 0, .int .i64 0, .int .i64 0] 31)).cell? ⟨w.heap.size + 1, 0, none⟩ = some (.int .i64 b) by simp [go_sem])
 have H0 := Lib.hid (HG.out.below hW0.drew)
 clear hW0 h hs hi hj hxi hxj hri hab
 simp only [World.size_alloc] at BR
 go_enter Tryz.func99, Tryz.ntmps99
 go_wp2_with fail
 refine wp_region_schedK (fun _ => True) [(0, true), (1, true), (3, true), (4, true), (2, false), (5, false), (6, true), (7, true)] (by kernel_rfl) (by kernel_rfl) (fun hS => ?_)
 have HK := Lib.hid hS
 clear hS
 have g0 : w.heap.size < w.heap.size + 1 + 1 + 1 := by omega
 have g0' : w.heap.size + 1 < w.heap.size + 1 + 1 + 1 := by omega
 repeat (refine sched_take (v := ?_) (by simp only [opT, opS, opZ]; rfl) (Or.inl ⟨by rfl, fun W hW => ?_⟩) HK.out ?_; rotate_left; (have hc := fun b o hb => hW.cell b o trivial hb; clear hW; go_simp; with_reducible rfl); simp only [Act.put, putT, putZ, putS])
 refine sched_step (by simp only [opT, opS, opZ]; rfl) ?_
 go_wp2_with fail
 refine (at_calls _ S g _ _ a H0.out hs1).mono ?_
 rintro e w1 ⟨rfl, hb1⟩
 rw [HI.out]
 have s1 := hb1.size
 have K1 := Lib.hid (KW.out.trans (hb1.mono (by simp; omega)))
 have HK1 := Lib.hid (HK.out.below hb1)
 have H1 := Lib.hid (H0.out.below hb1)
 have BX1 := Lib.hid (BX.out.keep (hb1.block w.heap.size (by simp; omega)))
 have BR1 := Lib.hid (BR.out.keep (hb1.block (w.heap.size + 1 + 1) (by simp)))
 have CB1 := Lib.hid ((hb1.cell (p := ⟨w.heap.size + 1, 0, none⟩) (by simp)).trans CB.out)
 clear hb1 BX BR CB KW H0
 simp only [World.size_alloc, World.size_drew] at s1
 go_wp2_with fail
 refine sched_on HK1.out ?_
 repeat (refine sched_take (v := ?_) (by simp only [opT, opS, opZ]; rfl) (Or.inl ⟨by rfl, fun W hW => ?_⟩) HK1.out ?_; rotate_left; (have hc := fun b o hb => hW.cell b o trivial hb; clear hW; go_simp; with_reducible rfl); simp only [Act.put, putT, putZ, putS])
 refine sched_step (by simp only [opT, opS, opZ]; rfl) ?_
 go_wp2_with fail
 refine (at_calls _ S g _ _ b H1.out hs1).mono ?_
 rintro e w2 ⟨rfl, hb2⟩
 rw [HJ.out]
 have s2 := hb2.size
 have K2 := Lib.hid (K1.out.trans (hb2.mono (by omega)))
 have HK2 := Lib.hid (HK1.out.below hb2)
 have H2 := Lib.hid (H1.out.below hb2)
 have BX2 := Lib.hid (BX1.out.keep (hb2.block w.heap.size (by omega)))
 have BR2 := Lib.hid (BR1.out.keep (hb2.block (w.heap.size + 1 + 1) (by omega)))
 have CB2 := Lib.hid ((hb2.cell (p := ⟨w.heap.size + 1, 0, none⟩) (by simp only; omega)).trans CB1.out)
 clear hb2 BX1 BR1 CB1 K1 H1
 go_wp2_with fail
 refine sched_on HK2.out ?_
 repeat (refine sched_take (v := ?_) (by simp only [opT, opS, opZ]; rfl) (Or.inl ⟨by rfl, fun W hW => ?_⟩) HK2.out ?_; rotate_left; (have hc := fun b o hb => hW.cell b o trivial hb; clear hW; go_simp; with_reducible rfl); simp only [Act.put, putT, putZ, putS])
 refine sched_done ?_
 clear HK HK1 HK2 g0 g0'
 have g1 : w.heap.size < w2.heap.size := by omega
 have g2 : w.heap.size + 1 < w2.heap.size := by omega
 have g3 : w.heap.size + 1 + 1 < w2.heap.size := by omega
 obtain ⟨x0, x1, x2, x3, xf⟩ := BX2.out
 have cb := CB2.out
 obtain ⟨m, hm0, hmin⟩ : ∃ m : Int, decide (m < 0) = false ∧ ∀ (ts : Array TypeId) (t : TypeId) (W : World), (Builtin.min_ ts t #[.int .i64 (i : Int), .int .i64 (j : Int)]).run Tryz.prog W = .ok (.int .i64 m) W := ⟨if (j : Int) < (i : Int) then (j : Int) else (i : Int), decide_eq_false (by split <;> omega), fun ts t W => run_min_int2 ..⟩
 go_wp2_with fail
 refine (own_calls _ S g _ _ H2.out HS.out).mono ?_
 rintro e w3 ⟨vn1, ve1, nvs, rfl, ho1, hb1⟩
 obtain ⟨⟨B1, d1, rfl⟩, ⟨B2, d2, rfl⟩⟩ := ho1.gr.slices
 have s3 := hb1.size
 have K3 := Lib.hid (K2.out.trans (hb1.mono (by omega)))
 have BX3 := Lib.hid (BX2.out.keep (hb1.block _ g1))
 have BR3 := Lib.hid (BR2.out.keep (hb1.block _ g3))
 have CB3 := Lib.hid ((hb1.cell (p := ⟨w.heap.size + 1, 0, none⟩) g2).trans CB2.out)
 have HO1 := Lib.hid ho1
 clear hb1 BX2 BR2 CB2 K2 H2 x0 x1 x2 x3 xf cb
 obtain ⟨x0, x1, x2, x3, xf⟩ := BX3.out
 have g4 : w.heap.size < w3.heap.size := by omega
 have g5 : w.heap.size + 1 < w3.heap.size := by omega
 have g6 : w.heap.size + 1 + 1 < w3.heap.size := by omega
 have hnl : nvs.length = g.nodes.length := ho1.len
 have hin : i < nvs.length := by omega
 obtain ⟨gN, hB1, hgB, hgl⟩ := ho1.nodes.head (by omega)
 subst hB1
 obtain ⟨nvj, hnvj⟩ := getElem?_of_lt (show j < nvs.length by omega)
 obtain ⟨hidj, hoj⟩ := ho1.each j nvj xj hnvj HXJ.out
 have hnj : nvj.n = xj.ps.length := hoj.n_eq
 obtain ⟨b', off', hA, _, _, y0, y1⟩ := ho1.nodes.row.atNV hnvj
 injection hA with hA
 injection hA with h1 h2
 subst h1 h2
 simp only [Nat.zero_add] at y0 y1
 rw [hnj] at y1
 have hne1 : ¬ w.heap.size = gN := by omega
 have hne2 : ¬ gN = w.heap.size := by omega
 have HNL := Lib.hid hnl
 have HNVJ := Lib.hid hnvj
 have HNJ := Lib.hid hnj
 have HOJ := Lib.hid (hoj.row)
 obtain ⟨ajA, hajA⟩ : ∃ A, A = nvj.A := ⟨_, rfl⟩
 obtain ⟨ajc, hajc⟩ : ∃ c, c = nvj.c := ⟨_, rfl⟩
 rw [← hajA, ← hajc] at y1
 have HAJ := Lib.hid (And.intro hajA hajc)
 clear hnvj hidj hoj hnj ho1 hnl hin hajA hajc
 obtain ⟨W3, hW3⟩ : ∃ W3, W3 = set4 w3 w.heap.size (.slice (some ⟨gN, 0, none⟩) g.nodes.length d1) (.slice B2 g.edges.length d2) (.int .i64 g.nn) (.int .i64 g.ne) := ⟨_, rfl⟩
 have hS3 : Same (fun k => w2.heap.size ≤ k) w3 W3 := fun k hk _ => by rw [hW3]; exact set4_heap _ _ _ _ _ _ k (by omega)
 have HO3 := Lib.hid (HO1.out.move hS3)
 have BX4 := Lib.hid (show Box4 W3 w.heap.size (.slice (some ⟨gN, 0, none⟩) g.nodes.length d1) (.slice B2 g.edges.length d2) (.int .i64 g.nn) (.int .i64 g.ne) by rw [hW3]; exact BX3.out.set _ _ _ _)
 have BR4 := Lib.hid (show Box4 W3 (w.heap.size + 1 + 1) (.slice none 0 0) (.slice none 0 0) (.int .i64 0) (.int .i64 0) by rw [hW3]; exact BR3.out.other4 (by omega) _ _ _ _)
 have CB4 := Lib.hid (show W3.cell? ⟨w.heap.size + 1, 0, none⟩ = some (.int .i64 b) by rw [hW3]; exact (World.cell?_of_block (set4_heap w3 w.heap.size _ _ _ _ (w.heap.size + 1) (by omega))).trans CB3.out)
 have K4 := Lib.hid (show Below w.heap.size w W3 by rw [hW3]; exact set4_below K3.out (Nat.le_refl _) _ _ _ _)
 have s4 : W3.heap.size = w3.heap.size := by rw [hW3, set4_size]
 have NE := Lib.hid HO1.out.ne
 have NP := Lib.hid HO1.out.np
 have HW3 := Lib.hid hW3
 clear hS3 hW3
 go_wp2
 clear x0 x1 x2 x3 xf y0 y1
 go_loopw [48] (fun p wr => ∃ (k : Nat) (nvs' : List NV), k ≤ xj.ps.length ∧ p = .int .i64 (k : Int) ∧ Hid (OwnG wr w2.heap.size ⟨g.nodes.set i ⟨xi.id, fuseP xi.ps (xj.ps.take k)⟩, g.edges, g.nn, g.ne⟩ (.slice (some ⟨gN, 0, none⟩) g.nodes.length d1) (.slice B2 g.edges.length d2) nvs') ∧ Hid (nvs'[j]? = some nvj) ∧ Hid (Same (fun k => k < w2.heap.size) W3 wr) ∧ W3.heap.size ≤ wr.heap.size ∧ Hid (Below w.heap.size w wr)) (fun p _ => xj.ps.length - (intOf p).toNat)
 case atStart =>
  have e : g.nodes.set i ⟨xi.id, fuseP xi.ps (xj.ps.take 0)⟩ = g.nodes := by
   have e1 : (⟨xi.id, fuseP xi.ps (xj.ps.take 0)⟩ : NodeD) = xi := rfl
   rw [e1]
   obtain ⟨h1, h2⟩ := List.getElem?_eq_some_iff.1 HXI.out
   rw [← h2]
   exact List.set_getElem_self h1
  have eW := HW3.out.symm
  unfold set4 at eW
  rw [eW]
  exact ⟨0, nvs, by omega, rfl, Lib.hid (by rw [e]; exact HO3.out), HNVJ, Lib.hid (fun _ _ _ => rfl), Nat.le_refl _, K4⟩
 case round =>
  obtain ⟨W5, rfl⟩ : ∃ W5, W5 = wr := ⟨wr, rfl⟩
  obtain ⟨k, nvs', hk, rfl, hog, hnj, hsm, hsz, hb⟩ := hrel
  have s5 : w3.heap.size ≤ W5.heap.size := by omega
  have BX4 := Lib.hid (BX4.out.keep (hsm.out w.heap.size (by omega) (by omega)))
  have BR4 := Lib.hid (BR4.out.keep (hsm.out (w.heap.size + 1 + 1) (by omega) (by omega)))
  have CB4 := Lib.hid ((World.cell?_of_block (hsm.out (w.heap.size + 1) (by omega) (by omega))).trans CB4.out)
  by_cases hlt : k < xj.ps.length
  case neg =>
   have HNL := Lib.hid (show nvs'.length = g.nodes.length by have := hog.out.len; rw [List.length_set] at this; exact this)
   have NE := Lib.hid hog.out.ne
   have NP := Lib.hid hog.out.np
   have K4 := hb
   obtain rfl : k = xj.ps.length := by omega
   obtain ⟨gn, hgn⟩ : ∃ gn, gn = g.nodes.set i ⟨xi.id, fuseP xi.ps xj.ps⟩ := ⟨_, rfl⟩
   have HO3 := Lib.hid (show OwnG W5 w2.heap.size ⟨gn, g.edges, g.nn, g.ne⟩ (.slice (some ⟨gN, 0, none⟩) g.nodes.length d1) (.slice B2 g.edges.length d2) nvs' by rw [hgn]; have h9 := hog.out; rw [List.take_length] at h9; exact h9)
   have HGN := Lib.hid hgn
   clear hgn hog hnj hb s4
   obtain ⟨x0, x1, x2, x3, xf⟩ := BX4.out
   have cb := CB4.out
   go_wp2
   clear x0 x1 x2 x3 xf
   go_loopw [79] (fun p wr => ∃ (k : Nat) (ys : List EdgeD), k ≤ g.edges.length ∧ p = .int .i64 (k : Int) ∧ Hid (ys = (g.edges.take k).map (subE a b) ++ g.edges.drop k) ∧ Hid (Own tEdge 75 wr (fun k => w2.heap.size ≤ k) (.slice B2 g.edges.length d2) ys) ∧ Hid (Same (fun k => (Value.slice B2 g.edges.length d2).ownBlock ≠ some k) W5 wr) ∧ W5.heap.size ≤ wr.heap.size ∧ Hid (Below w.heap.size w wr)) (fun p _ => g.edges.length - (intOf p).toNat)
   case atStart => exact ⟨0, g.edges, by omega, rfl, Lib.hid (by simp), Lib.hid HO3.out.edges, (fun _ _ _ => rfl), Nat.le_refl _, K4⟩
   case round =>
    obtain ⟨wa, rfl⟩ : ∃ wa, wa = wr := ⟨wr, rfl⟩
    obtain ⟨k, ys, hk, rfl, hys, ho, hsm, hsz, hb⟩ := hrel
    have hwa := hb.out.size
    have hEB := Lib.hid (fun k e => (ho.out.1 k e : w2.heap.size ≤ k))
    have BXa := BX4.out.keep (hsm.out w.heap.size (fun e => by have := hEB.out _ e; omega) (by omega))
    have cba : wa.cell? ⟨w.heap.size + 1, 0, none⟩ = some (.int .i64 b) := (World.cell?_of_block (hsm.out (w.heap.size + 1) (fun e => by have := hEB.out _ e; omega) (by omega))).trans CB4.out
    have hyl : ys.length = g.edges.length := by rw [hys.out]; simp; omega
    have HYL := Lib.hid hyl
    have BXa := Lib.hid BXa
    obtain ⟨x0, x1, x2, x3, xf⟩ := BXa.out
    by_cases hlt : k < g.edges.length
    case neg =>
     obtain rfl : k = g.edges.length := by omega
     have HEM := Lib.hid (show ys = g.edges.map (subE a b) by rw [hys.out, List.take_length, List.drop_length, List.append_nil])
     have HNA := Lib.hid (HO3.out.nodes.keepFlat (w' := wa) fun k hk => hsm.out k (fun e => NE.out k hk e) (HO3.out.nodes.lt k hk))
     have HPA := Lib.hid (show NVs wa (fun k => w2.heap.size ≤ k) nvs' gn from ⟨HO3.out.len, fun j v x hv hx => ⟨(HO3.out.each j v x hv hx).1, ((HO3.out.each j v x hv hx).2.keepFlat (w' := wa) fun k hk => hsm.out k (fun e => (NP.out j v k hv hk).2 e) ((HO3.out.each j v x hv hx).2.lt k hk)).row⟩⟩)
     have BRa := Lib.hid (BR4.out.keep (hsm.out (w.heap.size + 1 + 1) (fun e => by have := hEB.out _ e; omega) (by omega)))
     clear cba
     go_wp2_with fail
     refine (withoutN_calls wa _ (fun k => k = w.heap.size + 1) _ nvs' _ _ (fun v => v.id == b) fuseC_enters (fun W x hK => ?_) HNA.out.row (by intro k hk; have h9 : k = w.heap.size + 1 := hk; omega) (by rw [HNL.out]; exact hs1)).mono ?_
     ·
      refine fuseC_calls W x b (w.heap.size + 1) (by have := hK.1; omega) ?_
      rw [hK.cell _ _ rfl (by omega)]
      exact (World.cell?_of_block (hsm.out (w.heap.size + 1) (fun e => by have := hEB.out _ e; omega) (by omega))).trans CB4.out
     rintro e w5 ⟨v5, rfl, ho5, hb5⟩
     obtain ⟨B5, d5, rfl⟩ := ho5.slice
     have s5 := hb5.size
     have K5 := Lib.hid (hb.out.trans (hb5.mono hwa))
     have HN5 := Lib.hid ho5
     have HP5 := Lib.hid ((HPA.out.filter b).below hb5)
     have HE5 := Lib.hid (ho.out.below hb5)
     have BX5 := Lib.hid (BXa.out.keep (hb5.block w.heap.size (by omega)))
     have BR5 := Lib.hid (BRa.out.keep (hb5.block (w.heap.size + 1 + 1) (by omega)))
     clear ho5 hb5 x0 x1 x2 x3 xf
     obtain ⟨x0, x1, x2, x3, xf⟩ := BX5.out
     obtain ⟨y0, y1, y2, y3, yf⟩ := BR5.out
     go_wp2
     have hSm : Same (fun k => w2.heap.size ≤ k) w5 (set4 (w5.setCell ⟨w.heap.size, 0, none⟩ (.slice B5 (nvs'.filter fun v => !(v.id == b)).length d5)) (w.heap.size + 1 + 1) (.slice B5 (nvs'.filter fun v => !(v.id == b)).length d5) (.slice B2 g.edges.length d2) (.int .i64 g.nn) (.int .i64 g.ne)) := fun k hk _ => by
      have h1 : k ≠ w.heap.size := by omega
      rw [set4_heap _ _ _ _ _ _ k (by omega), Below.heap_setCell _ ⟨w.heap.size, 0, none⟩ _ k h1]
     refine bodyPost_ret (v := .tuple #[.agg #[.slice B5 (nvs'.filter fun v => !(v.id == b)).length d5, .slice B2 g.edges.length d2, .int .i64 g.nn, .int .i64 g.ne], .int .i64 0]) (by simp [results, Tryz.results99, go_sem, x0, x1, x2, x3, y0, y1, y2, y3]; try rfl) rfl ?_
     refine ⟨_, _, rfl, Gr.mono (S := fun k => w2.heap.size ≤ k) (Gr.move (w := w5) ⟨⟨_, (HN5.out.mono fun k hk _ => (by omega : w2.heap.size ≤ k)).row, (by have h9 := HP5.out; rw [HGN.out] at h9; exact h9)⟩, by rw [← HEM.out]; exact HE5.out.row⟩ hSm) (fun k hk _ => by omega), ?_⟩
     exact set4_below (K5.out.setCell (p := ⟨w.heap.size, 0, none⟩) (by simp only; omega) _) (by omega) _ _ _ _
    have hkl : k < ys.length := by omega
    obtain ⟨x, hx⟩ := getElem?_of_lt hlt
    have hyk : ys[k]? = some x := by
     rw [hys.out, List.getElem?_append_right (by simp; omega), List.getElem?_drop, ← hx]
     congr 1
     simp
     omega
    obtain ⟨gE, hB2, hgEB, hgEl⟩ := ho.out.head (by omega)
    subst hB2
    have HX := Lib.hid hx
    have HYK := Lib.hid hyk
    clear hx hyk hyl
    go_wp2_with fail
    refine wp_region_schedK (fun _ => True) [(0, true), (1, true), (2, true), (3, true), (4, true), (5, true), (6, true), (7, true), (8, true), (9, true), (12, true), (10, false), (11, true)] (by kernel_rfl) (by kernel_rfl) (fun hS => ?_)
    have HK := Lib.hid hS
    clear hS
    have q1 : w.heap.size < wa.heap.size := by omega
    repeat (refine sched_take (v := ?_) (by simp only [opT, opS, opZ]; rfl) (Or.inl ⟨by rfl, fun W hW => ?_⟩) HK.out ?_; rotate_left; (have hc := fun b o hb => hW.cell b o trivial hb; clear hW; go_simp; with_reducible rfl); simp only [Act.put, putT, putZ, putS])
    refine sched_step (by simp only [opT, opS, opZ]; rfl) ?_
    go_wp2_with fail
    refine sched_on (by repeat (first | (with_reducible exact HK.out) | (with_reducible exact Kept.refl _ _) | (with_reducible refine Kept.drew ?_) | (with_reducible refine Kept.drewN ?_ _) | (with_reducible refine Kept.alloc ?_ _) | (with_reducible refine Kept.setCell ?_ (.inl (by simp; try omega)) _))) ?_
    have HK2 := Lib.hid (show Kept wa (fun _ => True) (wa.alloc (.cells #[.pointer (some ⟨gE, k * 3 + 1, none⟩), .pointer (some ⟨gE, k * 3 + 2, none⟩)] 153)).drew from ((Kept.refl wa (fun _ => True)).alloc _).drew)
    repeat (refine sched_take (v := ?_) (by simp only [opT, opS, opZ]; rfl) (Or.inl ⟨by rfl, fun W hW => ?_⟩) HK2.out ?_; rotate_left; (have hc := fun b o hb => hW.cell b o trivial hb; clear hW; go_simp; with_reducible rfl); simp only [Act.put, putT, putZ, putS])
    refine sched_done ?_
    have hset : ys.set k (subQ 0 a b x) = ys := by
     apply List.ext_getElem?
     intro m
     rw [List.getElem?_set]
     split
     ·
      rename_i e
      rw [← e]
      first | (rw [if_pos hkl]; exact HYK.out.symm) | exact HYK.out.symm
     ·
      rfl
    have q2 : gE < wa.heap.size := by omega
    have q3 : ¬ wa.heap.size = gE := by omega
    clear x0 x1 x2 x3 xf cba HK HK2
    go_wp2
    go_loopw [94] (fun p wr => ∃ q : Nat, q ≤ 2 ∧ p = .int .i64 (q : Int) ∧ Hid (Own tEdge 75 wr (fun k => w2.heap.size ≤ k) (.slice (some ⟨gE, 0, none⟩) g.edges.length d2) (ys.set k (subQ q a b x))) ∧ Hid (Same (fun k => k ≠ gE) (wa.alloc (.cells #[.pointer (some ⟨gE, k * 3 + 1, none⟩), .pointer (some ⟨gE, k * 3 + 2, none⟩)] 153)) wr) ∧ wa.heap.size + 1 ≤ wr.heap.size ∧ Hid (Below w.heap.size w wr)) (fun p _ => 2 - (intOf p).toNat)
    case atStart => exact ⟨0, by omega, rfl, Lib.hid (by rw [hset]; exact ho.out.below ((Below.heap1 wa _).drew)), (fun _ _ _ => rfl), by simp, Lib.hid ((hb.out.alloc (by omega) _).drew)⟩
    case round =>
     obtain ⟨wq, rfl⟩ : ∃ wq, wq = wr := ⟨wr, rfl⟩
     obtain ⟨q, hq, rfl, hoq, hsq, hsz2, hbq⟩ := hrel
     have p0 : wq.cell? ⟨wa.heap.size, 0, none⟩ = some (.pointer (some ⟨gE, k * 3 + 1, none⟩)) := (World.cell?_of_block (hsq.out wa.heap.size q3 (by simp))).trans (by simp [go_sem])
     have p1 : wq.cell? ⟨wa.heap.size, 1, none⟩ = some (.pointer (some ⟨gE, k * 3 + 2, none⟩)) := (World.cell?_of_block (hsq.out wa.heap.size q3 (by simp))).trans (by simp [go_sem])
     have cbq : wq.cell? ⟨w.heap.size + 1, 0, none⟩ = some (.int .i64 b) := (World.cell?_of_block (((hsq.out (w.heap.size + 1) (by omega) (by simp; omega)).trans (Below.heap_alloc _ _ _ (by omega))).trans (hsm.out (w.heap.size + 1) (fun e => by have := hEB.out _ e; omega) (by omega)))).trans CB4.out
     have q4 : wa.heap.size < wq.heap.size := by omega
     have q5 : gE < wq.heap.size := by omega
     have q6 : w.heap.size + 1 < wq.heap.size := by omega
     rcases (by omega : q = 0 ∨ q = 1 ∨ q = 2) with rfl | rfl | rfl
     ·
      skip
      have HCUR := Lib.hid (show (subQ 0 a b x).frm = x.frm from rfl)
      obtain ⟨b9, off9, hA, _, _, z0, z1, z2⟩ := hoq.out.row.atEdge (x := subQ 0 a b x) (j := k) (by rw [List.getElem?_set, if_pos rfl, if_pos hkl])
      injection hA with hA
      injection hA with h1 h2
      subst h1 h2
      simp only [Nat.zero_add] at z0 z1 z2
      rw [HCUR.out] at z1
      have hfz := fun o => hoq.out.frozenC o
      clear z0 z2
      by_cases hf : x.frm = b
      ·
       have HN := Lib.hid (show subQ 1 a b x = ⟨(subQ 0 a b x).id, a, (subQ 0 a b x).to⟩ by simp [subQ, subE, hf])
       have N1 := hoq.out.setFlat (p := k) (i := 1) (y := subQ 0 a b x) (y' := ⟨(subQ 0 a b x).id, a, (subQ 0 a b x).to⟩) (u := .int .i64 a) (by rw [List.getElem?_set, if_pos rfl, if_pos hkl]) (by decide) rfl
       rw [List.set_set, ← HN.out] at N1
       have N := Lib.hid N1
       clear N1
       replace hf : (x.frm == b) = true := beq_iff_eq.mpr hf
       go_wp2_with fail
       refine wp_region_schedK (fun _ => True) [(0, true), (1, true), (2, true), (3, true), (4, true)] (by kernel_rfl) (by kernel_rfl) (fun hS => ?_)
       have HK := Lib.hid hS
       clear hS
       repeat (refine sched_take (v := ?_) (by simp only [opT, opS, opZ]; rfl) (Or.inl ⟨by rfl, fun W hW => ?_⟩) HK.out ?_; rotate_left; (have hc := fun b o hb => hW.cell b o trivial hb; clear hW; go_simp; with_reducible rfl); simp only [Act.put, putT, putZ, putS])
       refine sched_done ?_
       go_wp2
       go_roundw
       case rel => exact ⟨1, by omega, by first | (go_num; done) | (go_num; omega) | rfl, N, Lib.hid (hsq.out.trans (by simp; omega) (Same.of_setCell _ ⟨gE, k * 3 + 1, none⟩ _ (fun k hk => hk))), by simp; omega, Lib.hid (hbq.out.drew.setCell (p := ⟨gE, k * 3 + 1, none⟩) (by simp only; omega) _)⟩
       case measure => simp [intOf]
      ·
       have HN := Lib.hid (show subQ 1 a b x = subQ 0 a b x by simp [subQ, subE, hf])
       have N := hoq
       rw [← HN.out] at N
       replace hf : (x.frm == b) = false := beq_eq_false_iff_ne.mpr hf
       go_wp2_with fail
       refine wp_region_schedK (fun _ => True) [(0, true), (1, true), (2, true), (3, true), (4, true)] (by kernel_rfl) (by kernel_rfl) (fun hS => ?_)
       have HK := Lib.hid hS
       clear hS
       repeat (refine sched_take (v := ?_) (by simp only [opT, opS, opZ]; rfl) (Or.inl ⟨by rfl, fun W hW => ?_⟩) HK.out ?_; rotate_left; (have hc := fun b o hb => hW.cell b o trivial hb; clear hW; go_simp; with_reducible rfl); simp only [Act.put, putT, putZ, putS])
       refine sched_done ?_
       go_wp2
       go_roundw
       case rel => exact ⟨1, by omega, by first | (go_num; done) | (go_num; omega) | rfl, N, hsq, by simp; omega, Lib.hid hbq.out.drew⟩
       case measure => simp [intOf]
     ·
      skip
      have HCUR := Lib.hid (show (subQ 1 a b x).to = x.to from rfl)
      obtain ⟨b9, off9, hA, _, _, z0, z1, z2⟩ := hoq.out.row.atEdge (x := subQ 1 a b x) (j := k) (by rw [List.getElem?_set, if_pos rfl, if_pos hkl])
      injection hA with hA
      injection hA with h1 h2
      subst h1 h2
      simp only [Nat.zero_add] at z0 z1 z2
      rw [HCUR.out] at z2
      have hfz := fun o => hoq.out.frozenC o
      clear z0 z1
      by_cases hf : x.to = b
      ·
       have HN := Lib.hid (show subQ 2 a b x = ⟨(subQ 1 a b x).id, (subQ 1 a b x).frm, a⟩ by simp [subQ, subE, hf])
       have N1 := hoq.out.setFlat (p := k) (i := 2) (y := subQ 1 a b x) (y' := ⟨(subQ 1 a b x).id, (subQ 1 a b x).frm, a⟩) (u := .int .i64 a) (by rw [List.getElem?_set, if_pos rfl, if_pos hkl]) (by decide) rfl
       rw [List.set_set, ← HN.out] at N1
       have N := Lib.hid N1
       clear N1
       replace hf : (x.to == b) = true := beq_iff_eq.mpr hf
       go_wp2_with fail
       refine wp_region_schedK (fun _ => True) [(0, true), (1, true), (2, true), (3, true), (4, true)] (by kernel_rfl) (by kernel_rfl) (fun hS => ?_)
       have HK := Lib.hid hS
       clear hS
       repeat (refine sched_take (v := ?_) (by simp only [opT, opS, opZ]; rfl) (Or.inl ⟨by rfl, fun W hW => ?_⟩) HK.out ?_; rotate_left; (have hc := fun b o hb => hW.cell b o trivial hb; clear hW; go_simp; with_reducible rfl); simp only [Act.put, putT, putZ, putS])
       refine sched_done ?_
       go_wp2
       go_roundw
       case rel => exact ⟨2, by omega, by first | (go_num; done) | (go_num; omega) | rfl, N, Lib.hid (hsq.out.trans (by simp; omega) (Same.of_setCell _ ⟨gE, k * 3 + 2, none⟩ _ (fun k hk => hk))), by simp; omega, Lib.hid (hbq.out.drew.setCell (p := ⟨gE, k * 3 + 2, none⟩) (by simp only; omega) _)⟩
       case measure => simp [intOf]
      ·
       have HN := Lib.hid (show subQ 2 a b x = subQ 1 a b x by simp [subQ, subE, hf])
       have N := hoq
       rw [← HN.out] at N
       replace hf : (x.to == b) = false := beq_eq_false_iff_ne.mpr hf
       go_wp2_with fail
       refine wp_region_schedK (fun _ => True) [(0, true), (1, true), (2, true), (3, true), (4, true)] (by kernel_rfl) (by kernel_rfl) (fun hS => ?_)
       have HK := Lib.hid hS
       clear hS
       repeat (refine sched_take (v := ?_) (by simp only [opT, opS, opZ]; rfl) (Or.inl ⟨by rfl, fun W hW => ?_⟩) HK.out ?_; rotate_left; (have hc := fun b o hb => hW.cell b o trivial hb; clear hW; go_simp; with_reducible rfl); simp only [Act.put, putT, putZ, putS])
       refine sched_done ?_
       go_wp2
       go_roundw
       case rel => exact ⟨2, by omega, by first | (go_num; done) | (go_num; omega) | rfl, N, hsq, by simp; omega, Lib.hid hbq.out.drew⟩
       case measure => simp [intOf]
     ·
      have hN := Lib.hid (show ys.set k (subE a b x) = (g.edges.take (k + 1)).map (subE a b) ++ g.edges.drop (k + 1) by
       rw [hys.out, List.take_add_one, HX.out, Option.toList_some, List.map_append, List.set_append_right _ _ (by simp; omega)]
       have e : k - ((g.edges.take k).map (subE a b)).length = 0 := by simp; omega
       rw [e, List.drop_eq_getElem_cons hlt]
       have e2 : g.edges[k] = x := by have h := HX.out; rw [List.getElem?_eq_getElem hlt] at h; injection h
       simp [e2])
      have hS3 : Same (fun k' => (Value.slice (some ⟨gE, 0, none⟩) g.edges.length d2).ownBlock ≠ some k') wa wq := (Same.of_alloc _ wa _).trans (by simp) (hsq.out.mono fun k' hk' e => hk' (by rw [e]; rfl))
      have N3 := Lib.hid (hsm.out.trans hsz hS3)
      clear hS3
      go_wp2
      go_roundw
      case rel => exact ⟨k + 1, ys.set k (subE a b x), by omega, by first | (go_num; done) | (go_num; omega), hN, hoq, N3, by omega, hbq⟩
      case measure => simp [intOf]; omega
  have hin : i < nvs'.length := by have := hog.out.len; rw [List.length_set] at this; omega
  obtain ⟨vi, hvi⟩ := getElem?_of_lt hin
  obtain ⟨cur, hcur⟩ : ∃ cur, cur = fuseP xi.ps (xj.ps.take k) := ⟨_, rfl⟩
  have hcl : cur.length ≤ 200 := by
   have h1 := fuseP_len (xj.ps.take k) xi.ps
   rw [List.length_take] at h1
   rw [hcur]
   omega
  have HRC := Lib.hid (show Rises cur cur.length by rw [hcur]; exact fuseP_rises _ _ HRI.out)
  have hxi' : (g.nodes.set i ⟨xi.id, cur⟩)[i]? = some ⟨xi.id, cur⟩ := by rw [List.getElem?_set, if_pos rfl, if_pos hil]
  have hxj' : (g.nodes.set i ⟨xi.id, cur⟩)[j]? = some xj := by rw [List.getElem?_set_ne hij]; exact HXJ.out
  have hog := hog.out
  rw [← hcur] at hog
  have hoi : Own tP 92 W5 (fun k => w2.heap.size ≤ k) (.slice vi.A vi.n vi.c) cur := (hog.each i vi ⟨xi.id, cur⟩ hvi hxi').2
  have hvn : vi.n = cur.length := hoi.n_eq
  obtain ⟨b', off', hA, _, _, _, y2⟩ := hog.nodes.row.atNV hvi
  injection hA with hA
  injection hA with h1 h2
  subst h1 h2
  simp only [Nat.zero_add] at y2
  have hrj : Row tP W5 (fun k => w2.heap.size ≤ k) (.slice nvj.A nvj.n nvj.c) xj.ps := (hog.each j nvj xj hnj.out hxj').2.row
  rw [HNJ.out, ← HAJ.out.1] at hrj
  obtain ⟨p, hp⟩ := getElem?_of_lt hlt
  obtain ⟨bp, op, hAp, _, hbpl, z0, z1⟩ := hrj.atP hp
  have HFS := Lib.hid (show fuseP xi.ps (xj.ps.take (k + 1)) = addP cur p by rw [fuseP_take hp, hcur])
  have HP := Lib.hid hp
  obtain ⟨vA, vc, hvA, hvc⟩ : ∃ A c, A = vi.A ∧ c = vi.c := ⟨_, _, rfl, rfl⟩
  rw [← hvA, hvn, ← hvc] at y2 hoi
  subst hAp
  have HVI := Lib.hid hvi
  have HVS := Lib.hid (And.intro hvA (And.intro hvn hvc))
  have HOI := Lib.hid hoi
  have HOG := Lib.hid hog
  have HXI2 := Lib.hid hxi'
  have HXJ2 := Lib.hid hxj'
  have HCUR := Lib.hid hcur
  have HF0 := Lib.hid (hog.nodes.frozenC (i * 2 + 1))
  clear hvi hvA hvn hvc hoi hog hxi' hxj' hcur hp hrj
  have q1 : W5.heap.size < W5.heap.size + 1 := by omega
  have q2 : gN < W5.heap.size + 1 := by omega
  have q3 : ¬ W5.heap.size = gN := by omega
  have KB := Lib.hid (Below.heap1 W5 (.cells #[.int .i64 p.x, .int .i64 p.y] 92))
  go_wp2_with fail
  refine wp_region_schedK (fun _ => True) [(0, true), (1, true), (2, true), (3, true), (4, true), (5, true), (6, false), (7, true), (8, true), (9, true), (10, true), (11, true)] (by kernel_rfl) (by kernel_rfl) (fun hS => ?_)
  have HK := Lib.hid hS
  clear hS
  repeat (refine sched_take (v := ?_) (by simp only [opT, opS, opZ]; rfl) (Or.inl ⟨by rfl, fun W hW => ?_⟩) HK.out ?_; rotate_left; (have hc := fun b o hb => hW.cell b o trivial hb; clear hW; go_simp; with_reducible rfl); simp only [Act.put, putT, putZ, putS])
  refine sched_step (by simp only [opT, opS, opZ]; rfl) ?_
  go_wp2_with fail
  refine (find_calls _ _ _ cur p.x (HOI.out.row.below (KB.out.drew)) HRC.out (by omega)).mono ?_
  rintro e w6 ⟨m, bb, rfl, hf, hb6⟩
  have s6 := hb6.size
  have K6 := Lib.hid (KB.out.drew.trans (hb6.mono (by simp)))
  have HK6 := Lib.hid (HK.out.below hb6)
  have hc6 := (bcell hb6).1
  have HFA := Lib.hid hf
  clear hb6 hf z0 z1
  simp only [World.size_alloc, World.size_drew] at s6 hc6
  go_wp2_with fail
  refine sched_on HK6.out ?_
  repeat (refine sched_take (v := ?_) (by simp only [opT, opS, opZ]; rfl) (Or.inl ⟨by rfl, fun W hW => ?_⟩) HK6.out ?_; rotate_left; (have hc := fun b o hb => hW.cell b o trivial hb; clear hW; go_simp; with_reducible rfl); simp only [Act.put, putT, putZ, putS])
  refine sched_done ?_
  have hwr := hb.out.size
  have HSM := Lib.hid (hsm.out.trans hsz (Same.of_below' K6.out (fun k hk => by omega)))
  have HBB := Lib.hid (hb.out.trans (K6.out.mono hwr))
  have HOG6 := Lib.hid (HOG.out.below K6.out)
  have HAS := Lib.hid (findAt_has HFA.out HRC.out)
  clear HK HK6
  cases bb
  case true =>
   have HE := Lib.hid (show fuseP xi.ps (xj.ps.take (k + 1)) = cur by rw [HFS.out]; unfold addP; rw [if_pos HAS.out.symm])
   clear hc6 y2
   go_wp2
   go_roundw
   case rel => exact ⟨k + 1, nvs', by omega, by first | (go_num; done) | (go_num; omega), Lib.hid (by rw [HE.out]; exact HOG6.out), hnj, HSM, by omega, HBB⟩
   case measure => simp [intOf]; omega
  case false =>
  have HML := Lib.hid HFA.out.le
  have HIN := Lib.hid (show fuseP xi.ps (xj.ps.take (k + 1)) = cur.take m ++ p :: cur.drop m by rw [HFS.out]; unfold addP; rw [if_neg (by rw [← HAS.out]; exact Bool.false_ne_true)]; exact (put_insert p.y HFA.out HRC.out).symm)
  have HOI6 := Lib.hid (HOI.out.below K6.out)
  have e0 : w6.cell? ⟨gN, i * 2 + 1, none⟩ = some (.slice vA cur.length vc) := by rw [hc6 _ _ q2, World.cell?_drew, Below.cell (Below.heap1 W5 _) (p := ⟨gN, i * 2 + 1, none⟩) (by simp only; omega)]; exact y2
  have e1 : w6.cell? ⟨W5.heap.size, 0, none⟩ = some (.int .i64 p.x) := by rw [hc6 _ _ q1]; simp [go_sem]
  have e2 : w6.cell? ⟨W5.heap.size, 1, none⟩ = some (.int .i64 p.y) := by rw [hc6 _ _ q1]; simp [go_sem]
  clear hc6 y2
  have q4 : gN < w6.heap.size := by omega
  have q5 : W5.heap.size < w6.heap.size := by omega
  have HNB := Lib.hid (show ∀ k, (Value.slice vA cur.length vc).ownBlock = some k → k ≠ gN ∧ k ≠ W5.heap.size ∧ w2.heap.size ≤ k ∧ k < W5.heap.size from fun k hk => ⟨fun e => (HOG.out.np i vi k HVI.out (by rw [← HVS.out.1, HVS.out.2.1, ← HVS.out.2.2]; exact hk)).1 (by rw [e]; rfl), by have := HOI.out.lt k hk; omega, HOI.out.1 k hk, HOI.out.lt k hk⟩)
  go_wp2_with fail
  refine wp_region_sched2 [(0, true), (1, true), (2, true), (3, true), (4, true), (5, true), (6, true), (7, false), (8, false), (9, false), (10, true)] 11 [] (Kept w6 (fun k => (Value.slice vA cur.length vc).ownBlock ≠ some k)) (fun _ => True) (by kernel_rfl) (by kernel_rfl) (by kernel_rfl) ?_
  have HK := Lib.hid (Kept.refl w6 (fun k => (Value.slice vA cur.length vc).ownBlock ≠ some k)).drew
  have t1 : (Value.slice vA cur.length vc).ownBlock ≠ some gN := fun e => (HNB.out gN e).1 rfl
  have t2 : (Value.slice vA cur.length vc).ownBlock ≠ some W5.heap.size := fun e => (HNB.out _ e).2.1 rfl
  have T1 := Lib.hid t1
  have T2 := Lib.hid t2
  clear t1 t2
  repeat (refine sched2_take (v := ?_) (by simp only [opT, opS, opZ]; rfl) (Or.inl ⟨by rfl, fun W hW => ?_⟩) HK.out ?_; rotate_left; (have hc1 := hW.cell gN (i * 2 + 1) T1.out q4 ; have hc2 := hW.cell W5.heap.size 0 T2.out q5 ; have hc3 := hW.cell W5.heap.size 1 T2.out q5; clear hW; go_simp; with_reducible rfl); simp only [Act.put, putT, putZ, putS])
  refine sched2_step (by simp only [opT, opS, opZ]; rfl) ?_
  go_wp2_with fail
  have HKa := Lib.hid (HK.out.alloc (.cells #[.int .i64 p.x, .int .i64 p.y] 92))
  refine sched2_on HKa.out ?_
  repeat (refine sched2_take (v := ?_) (by simp only [opT, opS, opZ]; rfl) (Or.inl ⟨by rfl, fun W hW => ?_⟩) HKa.out ?_; rotate_left; (have hc1 := hW.cell gN (i * 2 + 1) T1.out q4 ; have hc2 := hW.cell W5.heap.size 0 T2.out q5 ; have hc3 := hW.cell W5.heap.size 1 T2.out q5; clear hW; go_simp; with_reducible rfl); simp only [Act.put, putT, putZ, putS])
  refine sched2_step (by simp only [opT, opS, opZ]; rfl) ?_
  go_wp2_with fail
  have KC := Lib.hid (Below.heap1 w6 (.cells #[.int .i64 p.x, .int .i64 p.y] 92))
  refine (insert_calls _ (fun k => w2.heap.size ≤ k) _ cur p m w6.heap.size (HOI6.out.below KC.out.drew) HML.out (by omega) (heap_alloc_new w6 _) (fun e => by have := HOI6.out.lt _ e; omega) (by show w2.heap.size ≤ w6.heap.size; omega) (by show w2.heap.size ≤ _; simp; omega)).mono ?_
  rintro e w7 ⟨v', rfl, ho7, hg7, hor7⟩
  obtain ⟨A', c', rfl⟩ := ho7.slice
  have s7 := hg7.size
  simp only [World.size_alloc, World.size_drew] at s7
  have HK7 := Lib.hid (((Kept.refl w6 (fun k => (Value.slice vA cur.length vc).ownBlock ≠ some k)).alloc (.cells #[.int .i64 p.x, .int .i64 p.y] 92)).drew.grown hg7 (fun k hk => .inr fun hT => hT hk))
  have e7 : w7.frozen? ⟨gN, i * 2 + 1, none⟩ = false := by
   have h1 : w7.heap[gN]? = w6.heap[gN]? := HK7.out.2 gN T1.out q4
   rw [World.frozen?_of_block h1]
   exact (HOG6.out.nodes.frozenC (i * 2 + 1))
  have e8 : w7.cell? ⟨gN, i * 2 + 1, none⟩ = some (.slice vA cur.length vc) := (World.cell?_of_block (HK7.out.2 gN T1.out q4)).trans e0
  have q7 : gN < w7.heap.size := by omega
  have HN := Lib.hid ((HOG6.out.below KC.out.drew).putPairs HVI.out HXI2.out (A' := A') (c' := c') (n' := (cur.take m ++ p :: cur.drop m).length) ho7 (by rw [← HVS.out.1, HVS.out.2.1, ← HVS.out.2.2]; exact hg7) (by
   rw [← HVS.out.1, HVS.out.2.1, ← HVS.out.2.2]
   rcases hor7 with h | h
   ·
    exact .inl h
   ·
    exact .inr ⟨_, h, Nat.le_refl _⟩))
  have HSM8 := Lib.hid (show Same (fun k => k < w2.heap.size) W3 (w7.setCell ⟨gN, i * 2 + 1, none⟩ (.slice A' (cur.take m ++ p :: cur.drop m).length c')) from (HSM.out.trans (by omega) (fun k (hk : k < w2.heap.size) hl => HK7.out.2 k (fun e => by have := (HNB.out k e).2.2.1; omega) hl)).trans (by omega) (Same.of_setCell _ ⟨gN, i * 2 + 1, none⟩ _ (fun k (hk : k < w2.heap.size) => by simp only; omega)))
  have HB8 := Lib.hid (((HBB.out.trans ((KC.out.drew).mono (by omega))).grown hg7 (by simp; omega) (fun k hk => by have := (HNB.out k hk).2.2.1; omega)).setCell (p := ⟨gN, i * 2 + 1, none⟩) (by simp only; omega) (.slice A' (cur.take m ++ p :: cur.drop m).length c'))
  clear ho7 hg7 hor7 HKa HK e0
  obtain ⟨L, hL⟩ : ∃ L, L = (cur.take m ++ p :: cur.drop m).length := ⟨_, rfl⟩
  rw [← hL] at HN HSM8 HB8 ⊢
  have HHL := Lib.hid hL
  clear hL
  go_wp2_with fail
  refine sched2_on HK7.out ?_
  refine sched2_step (by simp only [opT, opS, opZ]; rfl) ?_
  go_wp2_with fail
  refine sched2_on HK7.out ?_
  repeat (refine sched2_take (v := ?_) (by simp only [opT, opS, opZ]; rfl) (Or.inl ⟨by rfl, fun W hW => ?_⟩) HK7.out ?_; rotate_left; (skip; clear hW; go_simp; with_reducible rfl); simp only [Act.put, putT, putZ, putS])
  refine sched2_go (by simp only [opT, opS, opZ]; rfl) ?_
  go_wp2_with fail
  refine sched_on trivial ?_
  refine sched_done ?_
  clear e1 e2 e8
  go_wp2
  go_roundw
  case rel => exact ⟨k + 1, nvs'.set i ⟨vi.id, A', L, c'⟩, by omega, by first | (go_num; done) | (go_num; omega), Lib.hid (by
   have h9 := HN.out
   simp only [List.set_set] at h9
   rw [HIN.out]
   exact h9), Lib.hid (by rw [List.getElem?_set_ne hij]; exact hnj.out), HSM8, by simp; omega, HB8⟩
  case measure => simp [intOf]; omega
end Go.Proofs.YtpehmmdbjakkpaaGreat
namespace Go.Proofs.YtpehmmdbjakkpaaGreat
open Go.RowKit Go.Shelf
set_option linter.unusedSimpArgs false
set_option linter.unusedVariables false
set_option maxRecDepth 20000 in
set_option maxHeartbeats 8000000 in
theorem fuseX_calls (w : World) (S : Nat → Prop) (g : GraphD) (vn ve : Value) (a b r : Int) (h : Gr w S g vn ve) (hs : g.nodes.length ≤ 1000000) (hab : (a = b ∧ r = 5) ∨ (a ≠ b ∧ (atOf g.nodes a < 0 ∨ atOf g.nodes b < 0) ∧ r = 2)) :
  Calls Tryz.prog 99 #[.agg #[vn, ve, .int .i64 g.nn, .int .i64 g.ne], .int .i64 a, .int .i64 b] w (Ret2 w (GraphD.zero, r)) := by
 obtain ⟨⟨A1, c1, rfl⟩, ⟨A2, c2, rfl⟩⟩ := h.slices
 have hW0 : Below w.heap.size w (((w.alloc (.cells #[.slice A1 g.nodes.length c1, .slice A2 g.edges.length c2, .int .i64 g.nn, .int .i64 g.ne] 31)).alloc (.cells #[.int .i64 b] 3)).alloc (.cells #[.slice none 0 0, .slice none 0 0, .int .i64 0, .int .i64 0] 31)) := (((Below.refl w.heap.size w).alloc (Nat.le_refl _) _).alloc (by simp) _).alloc (by simp; omega) _
 have KW := Lib.hid hW0.drew
 have BX := Lib.hid ((Box4.made w 31 (.slice A1 g.nodes.length c1) (.slice A2 g.edges.length c2) (.int .i64 g.nn) (.int .i64 g.ne)).keep (W' := (((w.alloc (.cells #[.slice A1 g.nodes.length c1, .slice A2 g.edges.length c2, .int .i64 g.nn, .int .i64 g.ne] 31)).alloc (.cells #[.int .i64 b] 3)).alloc (.cells #[.slice none 0 0, .slice none 0 0, .int .i64 0, .int .i64 0] 31))) (by rw [Below.heap_alloc _ _ _ (by simp; omega), Below.heap_alloc _ _ _ (by simp)]))
 have BR := Lib.hid (Box4.made ((w.alloc (.cells #[.slice A1 g.nodes.length c1, .slice A2 g.edges.length c2, .int .i64 g.nn, .int .i64 g.ne] 31)).alloc (.cells #[.int .i64 b] 3)) 31 (.slice none 0 0) (.slice none 0 0) (.int .i64 0) (.int .i64 0))
 have CB := Lib.hid (show (((w.alloc (.cells #[.slice A1 g.nodes.length c1, .slice A2 g.edges.length c2, .int .i64 g.nn, .int .i64 g.ne] 31)).alloc (.cells #[.int .i64 b] 3)).alloc (.cells #[.slice none 0 0, .slice none 0 0, .int .i64 0, .int .i64 0] 31)).cell? ⟨w.heap.size + 1, 0, none⟩ = some (.int .i64 b) by simp [go_sem])
 have H0 := Lib.hid (h.below hW0.drew)
 have HAB := Lib.hid hab
 clear hW0 h hab
 simp only [World.size_alloc] at BR
 go_enter Tryz.func99, Tryz.ntmps99
 go_wp2_with fail
 refine wp_region_schedK (fun _ => True) [(0, true), (1, true), (3, true), (4, true), (2, false), (5, false), (6, true), (7, true)] (by kernel_rfl) (by kernel_rfl) (fun hS => ?_)
 have HK := Lib.hid hS
 clear hS
 have g0 : w.heap.size < w.heap.size + 1 + 1 + 1 := by omega
 have g0' : w.heap.size + 1 < w.heap.size + 1 + 1 + 1 := by omega
 repeat (refine sched_take (v := ?_) (by simp only [opT, opS, opZ]; rfl) (Or.inl ⟨by rfl, fun W hW => ?_⟩) HK.out ?_; rotate_left; (have hc := fun b o hb => hW.cell b o trivial hb; clear hW; go_simp; with_reducible rfl); simp only [Act.put, putT, putZ, putS])
 refine sched_step (by simp only [opT, opS, opZ]; rfl) ?_
 go_wp2_with fail
 refine (at_calls _ S g _ _ a H0.out hs).mono ?_
 rintro e w1 ⟨rfl, hb1⟩
 have s1 := hb1.size
 have K1 := Lib.hid (KW.out.trans (hb1.mono (by simp; omega)))
 have HK1 := Lib.hid (HK.out.below hb1)
 have H1 := Lib.hid (H0.out.below hb1)
 have BX1 := Lib.hid (BX.out.keep (hb1.block w.heap.size (by simp; omega)))
 have BR1 := Lib.hid (BR.out.keep (hb1.block (w.heap.size + 1 + 1) (by simp)))
 have CB1 := Lib.hid ((hb1.cell (p := ⟨w.heap.size + 1, 0, none⟩) (by simp)).trans CB.out)
 clear hb1 BX BR CB KW H0
 simp only [World.size_alloc, World.size_drew] at s1
 go_wp2_with fail
 refine sched_on HK1.out ?_
 repeat (refine sched_take (v := ?_) (by simp only [opT, opS, opZ]; rfl) (Or.inl ⟨by rfl, fun W hW => ?_⟩) HK1.out ?_; rotate_left; (have hc := fun b o hb => hW.cell b o trivial hb; clear hW; go_simp; with_reducible rfl); simp only [Act.put, putT, putZ, putS])
 refine sched_step (by simp only [opT, opS, opZ]; rfl) ?_
 go_wp2_with fail
 refine (at_calls _ S g _ _ b H1.out hs).mono ?_
 rintro e w2 ⟨rfl, hb2⟩
 have s2 := hb2.size
 have K2 := Lib.hid (K1.out.trans (hb2.mono (by omega)))
 have HK2 := Lib.hid (HK1.out.below hb2)
 have BX2 := Lib.hid (BX1.out.keep (hb2.block w.heap.size (by omega)))
 have BR2 := Lib.hid (BR1.out.keep (hb2.block (w.heap.size + 1 + 1) (by omega)))
 have CB2 := Lib.hid ((hb2.cell (p := ⟨w.heap.size + 1, 0, none⟩) (by simp only; omega)).trans CB1.out)
 clear hb2 BX1 BR1 CB1 K1 H1
 generalize atOf g.nodes a = p at *
 generalize atOf g.nodes b = q at *
 go_wp2_with fail
 refine sched_on HK2.out ?_
 repeat (refine sched_take (v := ?_) (by simp only [opT, opS, opZ]; rfl) (Or.inl ⟨by rfl, fun W hW => ?_⟩) HK2.out ?_; rotate_left; (have hc := fun b o hb => hW.cell b o trivial hb; clear hW; go_simp; with_reducible rfl); simp only [Act.put, putT, putZ, putS])
 refine sched_done ?_
 clear HK HK1 HK2 g0 g0'
 have g1 : w.heap.size < w2.heap.size := by omega
 have g2 : w.heap.size + 1 < w2.heap.size := by omega
 have g3 : w.heap.size + 1 + 1 < w2.heap.size := by omega
 obtain ⟨x0, x1, x2, x3, xf⟩ := BX2.out
 obtain ⟨y0, y1, y2, y3, yf⟩ := BR2.out
 have cb := CB2.out
 obtain ⟨m, hm0, hmin⟩ : ∃ m : Int, (p < 0 ∨ q < 0 → decide (m < 0) = true) ∧ ∀ (ts : Array TypeId) (t : TypeId) (W : World), (Builtin.min_ ts t #[.int .i64 p, .int .i64 q]).run Tryz.prog W = .ok (.int .i64 m) W := ⟨if q < p then q else p, fun h => decide_eq_true (by split <;> omega), fun ts t W => run_min_int2 ..⟩
 rcases HAB.out with ⟨h1, h2⟩ | ⟨h1, h2, h3⟩
 ·
  replace h1 : (a == b) = true := beq_iff_eq.mpr h1
  clear hm0
  go_wp2
  refine bodyPost_ret (v := .tuple #[.agg #[.slice none 0 0, .slice none 0 0, .int .i64 0, .int .i64 0], .int .i64 5]) (by simp [results, Tryz.results99, go_sem, y0, y1, y2, y3]; try rfl) rfl ?_
  rw [h2]
  exact ⟨_, _, rfl, Gr.zero _ _ _ _, by first | exact set4_below K2.out (by omega) _ _ _ _⟩
 ·
  replace h1 : (a == b) = false := beq_eq_false_iff_ne.mpr h1
  replace hm0 := hm0 h2
  clear h2
  go_wp2
  refine bodyPost_ret (v := .tuple #[.agg #[.slice none 0 0, .slice none 0 0, .int .i64 0, .int .i64 0], .int .i64 2]) (by simp [results, Tryz.results99, go_sem, y0, y1, y2, y3]; try rfl) rfl ?_
  rw [h3]
  exact ⟨_, _, rfl, Gr.zero _ _ _ _, by first | exact set4_below K2.out (by omega) _ _ _ _⟩
theorem getOf_at {g : GraphD} {n : Int} {i : Nat} {x : NodeD} (h : atOf g.nodes n = (i : Int)) (hx : g.nodes[i]? = some x) : (getOf g n).1 = x.ps := by rw [getOf_some h hx]
theorem fuse_calls (w : World) (S : Nat → Prop) (g : GraphD) (vn ve : Value) (a b : Int) (h : Gr w S g vn ve) (hs : g.small) (hr : ∀ x ∈ g.nodes, Rises x.ps x.ps.length) (hp : ∀ x ∈ g.nodes, x.ps.length ≤ 100) :
  Calls Tryz.prog 99 #[.agg #[vn, ve, .int .i64 g.nn, .int .i64 g.ne], .int .i64 a, .int .i64 b] w (Ret2 w (fuseOf g a b)) := by
 unfold fuseOf
 by_cases hab : a = b
 ·
  rw [if_pos hab]
  exact fuseX_calls w S g vn ve a b 5 h hs.1 (.inl ⟨hab, rfl⟩)
 rw [if_neg hab]
 by_cases hn : atOf g.nodes a < 0 ∨ atOf g.nodes b < 0
 ·
  rw [if_pos hn]
  exact fuseX_calls w S g vn ve a b 2 h hs.1 (.inr ⟨hab, hn, rfl⟩)
 rw [if_neg hn]
 obtain ⟨i, xi, hi, hxi, hidi⟩ := atOf_at (xs := g.nodes) (n := a) (by omega)
 obtain ⟨j, xj, hj, hxj, hidj⟩ := atOf_at (xs := g.nodes) (n := b) (by omega)
 have hij : i ≠ j := by
  rintro rfl
  rw [hxi] at hxj
  injection hxj with hxj
  subst hxj
  exact hab (hidi.symm.trans hidj)
 have h1 := fuseS_calls w S g vn ve a b h hs hab hi hj hxi hxj (hr xi (List.mem_of_getElem? hxi)) (hp xi (List.mem_of_getElem? hxi)) (hp xj (List.mem_of_getElem? hxj)) hij
 rw [getOf_at hi hxi, getOf_at hj hxj, setN_at hi hxi hidi]
 exact h1
end Go.Proofs.YtpehmmdbjakkpaaGreat

