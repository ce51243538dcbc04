/- graph.Fuse, where the node that goes has no properties. The chapter's example stands. The reference's small looks at a graph: Few, at, and whether a configuration may be. -/
import Derived.Test.YtpehmmdbjakkpaaAddM
import Derived.Test.YtpehmmdbjakkpaaLibM
namespace Go.Proofs.Ytpehmmdbjakkpaa
open Go.RowKit Go.Shelf
set_option linter.unusedSimpArgs false
set_option linter.unusedVariables false
def subE (a b : Int) (x : EdgeD) : EdgeD := ⟨x.id, if x.frm = b then a else x.frm, if x.to = b then a else x.to⟩
theorem NVs.cons {w : World} {S : Nat → Prop} {v : NV} {x : NodeD} {nvs : List NV} {xs : List NodeD} : NVs w S (v :: nvs) (x :: xs) ↔ (v.id = x.id ∧ Row tP w S (.slice v.A v.n v.c) x.ps) ∧ NVs w S nvs xs := by
  constructor
  · intro h
    exact ⟨h.each 0 v x rfl rfl, by have := h.len; simp at this; exact this, fun j u y hu hy => h.each (j + 1) u y (by simpa using hu) (by simpa using hy)⟩
  · rintro ⟨h1, h2⟩
    refine ⟨by simp [h2.len], fun j u y hu hy => ?_⟩
    cases j with
    | zero => simp at hu hy; subst hu hy; exact h1
    | succ j => exact h2.each j u y (by simpa using hu) (by simpa using hy)
theorem NVs.filter {w : World} {S : Nat → Prop} (b : Int) : ∀ {nvs : List NV} {xs : List NodeD}, NVs w S nvs xs → NVs w S (nvs.filter fun v => !(v.id == b)) (xs.filter fun x => !(x.id == b)) := by
  intro nvs
  induction nvs with
  | nil =>
    intro xs h
    have : xs = [] := List.eq_nil_of_length_eq_zero h.len.symm
    subst this
    exact NVs.nil _ _
  | cons v nvs ih =>
    intro xs h
    cases xs with
    | nil => have := h.len; simp at this
    | cons x xs =>
      obtain ⟨h1, h2⟩ := NVs.cons.1 h
      have e : (x.id == b) = (v.id == b) := by rw [h1.1]
      rw [List.filter_cons, List.filter_cons, e]
      split
      · exact NVs.cons.2 ⟨h1, ih h2⟩
      · exact ih h2
/-- An edge, its first q ends put over. -/
def subQ (q : Nat) (a b : Int) (x : EdgeD) : EdgeD := match q with
  | 0 => x
  | 1 => ⟨x.id, if x.frm = b then a else x.frm, x.to⟩
  | _ => subE a b x
set_option maxRecDepth 20000 in
set_option maxHeartbeats 8000000 in
theorem fuse0_calls (w : World) (S : Nat → Prop) (g : GraphD) (vn ve : Value) (a b : Int) (h : Gr w S g vn ve) (hs : g.small) (hab : a ≠ b) {i j : Nat} (hi : atOf g.nodes a = (i : Int)) (hj : atOf g.nodes b = (j : Int)) {xi xj : NodeD} (hxi : g.nodes[i]? = some xi) (hxj : g.nodes[j]? = some xj) (hp : xj.ps = []) (hij : i < j) :
    Calls Try.prog 23 #[.agg #[vn, ve, .int .i64 g.nn, .int .i64 g.ne], .int .i64 a, .int .i64 b] w fun e w' => ∃ vn' ve', e = .returned (.tuple #[.agg #[vn', ve', .int .i64 g.nn, .int .i64 g.ne], .int .i64 0]) ∧ Gr w' (fun k => w.heap.size ≤ k) ⟨g.nodes.filter (fun x => !(x.id == b)), g.edges.map (subE a b), g.nn, g.ne⟩ vn' ve' ∧ Below w.heap.size w w' := by
  obtain ⟨⟨A1, c1, rfl⟩, ⟨A2, c2, rfl⟩⟩ := h.slices
  have HG := Lib.hid h
  have HS := Lib.hid hs
  have hs1 := hs.1
  have hs2 := hs.2.1
  have hil : i < g.nodes.length := (List.getElem?_eq_some_iff.1 hxi).1
  have hjl : j < g.nodes.length := (List.getElem?_eq_some_iff.1 hxj).1
  have HXI := Lib.hid hxi
  have HXJ := Lib.hid hxj
  have HP := Lib.hid hp
  have HI := Lib.hid hi
  have HJ := Lib.hid hj
  have habd : (a == b) = false := beq_eq_false_iff_ne.mpr hab
  have hW0 : Below w.heap.size w (((w.alloc (.cells #[.slice A1 g.nodes.length c1, .slice A2 g.edges.length c2, .int .i64 g.nn, .int .i64 g.ne] 27)).alloc (.cells #[.int .i64 b] 3)).alloc (.cells #[.slice none 0 0, .slice none 0 0, .int .i64 0, .int .i64 0] 27)) := (((Below.refl w.heap.size w).alloc (Nat.le_refl _) _).alloc (by simp) _).alloc (by simp; omega) _
  have KW := Lib.hid hW0.drew
  have BX := Lib.hid ((Box4.made w 27 (.slice A1 g.nodes.length c1) (.slice A2 g.edges.length c2) (.int .i64 g.nn) (.int .i64 g.ne)).keep (W' := (((w.alloc (.cells #[.slice A1 g.nodes.length c1, .slice A2 g.edges.length c2, .int .i64 g.nn, .int .i64 g.ne] 27)).alloc (.cells #[.int .i64 b] 3)).alloc (.cells #[.slice none 0 0, .slice none 0 0, .int .i64 0, .int .i64 0] 27))) (by rw [Below.heap_alloc _ _ _ (by simp; omega), Below.heap_alloc _ _ _ (by simp)]))
  have BR := Lib.hid (Box4.made ((w.alloc (.cells #[.slice A1 g.nodes.length c1, .slice A2 g.edges.length c2, .int .i64 g.nn, .int .i64 g.ne] 27)).alloc (.cells #[.int .i64 b] 3)) 27 (.slice none 0 0) (.slice none 0 0) (.int .i64 0) (.int .i64 0))
  have CB := Lib.hid (show (((w.alloc (.cells #[.slice A1 g.nodes.length c1, .slice A2 g.edges.length c2, .int .i64 g.nn, .int .i64 g.ne] 27)).alloc (.cells #[.int .i64 b] 3)).alloc (.cells #[.slice none 0 0, .slice none 0 0, .int .i64 0, .int .i64 0] 27)).cell? ⟨w.heap.size + 1, 0, none⟩ = some (.int .i64 b) by simp [go_sem])
  have H0 := Lib.hid (HG.out.below hW0.drew)
  clear hW0 h hs hi hj hxi hxj hp hab
  simp only [World.size_alloc] at BR
  go_enter Try.func23, Try.ntmps23
  go_wp2_with fail
  refine wp_region_schedK (fun _ => True) [(0, true), (1, true), (3, true), (4, true), (2, false), (5, false), (6, true), (7, true)] (by kernel_rfl) (by kernel_rfl) (fun hS => ?_)
  have HK := Lib.hid hS
  clear hS
  have g0 : w.heap.size < w.heap.size + 1 + 1 + 1 := by omega
  have g0' : w.heap.size + 1 < w.heap.size + 1 + 1 + 1 := by omega
  repeat (refine sched_take (v := ?_) (by simp only [List.getElem?_toArray, List.getElem?_cons_succ, List.getElem?_cons_zero]; rfl) (Or.inl ⟨by rfl, fun W hW => ?_⟩) HK.out ?_; rotate_left; (have hc := fun b o hb => hW.cell b o trivial hb; clear hW; go_simp; with_reducible rfl); simp only [Act.put, List.setIfInBounds_toArray, List.set_cons_zero, List.set_cons_succ])
  refine sched_step (by simp only [List.getElem?_toArray, List.getElem?_cons_succ, List.getElem?_cons_zero]; rfl) ?_
  go_wp2_with fail
  refine (at_calls _ S g _ _ a H0.out hs1).mono ?_
  rintro e w1 ⟨rfl, hb1⟩
  rw [HI.out]
  have s1 := hb1.size
  have K1 := Lib.hid (KW.out.trans (hb1.mono (by simp; omega)))
  have HK1 := Lib.hid (HK.out.below hb1)
  have H1 := Lib.hid (H0.out.below hb1)
  have BX1 := Lib.hid (BX.out.keep (hb1.block w.heap.size (by simp; omega)))
  have BR1 := Lib.hid (BR.out.keep (hb1.block (w.heap.size + 1 + 1) (by simp)))
  have CB1 := Lib.hid ((hb1.cell (p := ⟨w.heap.size + 1, 0, none⟩) (by simp)).trans CB.out)
  clear hb1 BX BR CB KW H0
  simp only [World.size_alloc, World.size_drew] at s1
  go_wp2_with fail
  refine sched_on HK1.out ?_
  repeat (refine sched_take (v := ?_) (by simp only [List.getElem?_toArray, List.getElem?_cons_succ, List.getElem?_cons_zero]; rfl) (Or.inl ⟨by rfl, fun W hW => ?_⟩) HK1.out ?_; rotate_left; (have hc := fun b o hb => hW.cell b o trivial hb; clear hW; go_simp; with_reducible rfl); simp only [Act.put, List.setIfInBounds_toArray, List.set_cons_zero, List.set_cons_succ])
  refine sched_step (by simp only [List.getElem?_toArray, List.getElem?_cons_succ, List.getElem?_cons_zero]; rfl) ?_
  go_wp2_with fail
  refine (at_calls _ S g _ _ b H1.out hs1).mono ?_
  rintro e w2 ⟨rfl, hb2⟩
  rw [HJ.out]
  have s2 := hb2.size
  have K2 := Lib.hid (K1.out.trans (hb2.mono (by omega)))
  have HK2 := Lib.hid (HK1.out.below hb2)
  have H2 := Lib.hid (H1.out.below hb2)
  have BX2 := Lib.hid (BX1.out.keep (hb2.block w.heap.size (by omega)))
  have BR2 := Lib.hid (BR1.out.keep (hb2.block (w.heap.size + 1 + 1) (by omega)))
  have CB2 := Lib.hid ((hb2.cell (p := ⟨w.heap.size + 1, 0, none⟩) (by simp only; omega)).trans CB1.out)
  clear hb2 BX1 BR1 CB1 K1 H1
  go_wp2_with fail
  refine sched_on HK2.out ?_
  repeat (refine sched_take (v := ?_) (by simp only [List.getElem?_toArray, List.getElem?_cons_succ, List.getElem?_cons_zero]; rfl) (Or.inl ⟨by rfl, fun W hW => ?_⟩) HK2.out ?_; rotate_left; (have hc := fun b o hb => hW.cell b o trivial hb; clear hW; go_simp; with_reducible rfl); simp only [Act.put, List.setIfInBounds_toArray, List.set_cons_zero, List.set_cons_succ])
  refine sched_done ?_
  clear HK HK1 HK2 g0 g0'
  have g1 : w.heap.size < w2.heap.size := by omega
  have g2 : w.heap.size + 1 < w2.heap.size := by omega
  have g3 : w.heap.size + 1 + 1 < w2.heap.size := by omega
  obtain ⟨x0, x1, x2, x3, xf⟩ := BX2.out
  have cb := CB2.out
  have hji : ¬ j < i := by omega
  go_wp2_with fail
  refine (own_calls _ S g _ _ H2.out HS.out).mono ?_
  rintro e w3 ⟨vn1, ve1, nvs, rfl, ho1, hb1⟩
  obtain ⟨⟨B1, d1, rfl⟩, ⟨B2, d2, rfl⟩⟩ := ho1.gr.slices
  have s3 := hb1.size
  have K3 := Lib.hid (K2.out.trans (hb1.mono (by omega)))
  have BX3 := Lib.hid (BX2.out.keep (hb1.block _ g1))
  have BR3 := Lib.hid (BR2.out.keep (hb1.block _ g3))
  have CB3 := Lib.hid ((hb1.cell (p := ⟨w.heap.size + 1, 0, none⟩) g2).trans CB2.out)
  have HO1 := Lib.hid ho1
  clear hb1 BX2 BR2 CB2 K2 H2 x0 x1 x2 x3 xf cb hji
  obtain ⟨x0, x1, x2, x3, xf⟩ := BX3.out
  have g4 : w.heap.size < w3.heap.size := by omega
  have g5 : w.heap.size + 1 < w3.heap.size := by omega
  have g6 : w.heap.size + 1 + 1 < w3.heap.size := by omega
  have hnl : nvs.length = g.nodes.length := ho1.len
  have hin : i < nvs.length := by omega
  obtain ⟨gN, hB1, hgB, hgl⟩ := ho1.nodes.head (by omega)
  subst hB1
  obtain ⟨nvj, hnvj⟩ := getElem?_of_lt (show j < nvs.length by omega)
  obtain ⟨hidj, hoj⟩ := ho1.each j nvj xj hnvj HXJ.out
  have hnj : nvj.n = 0 := by have := hoj.n_eq; rw [HP.out] at this; exact this
  obtain ⟨b', off', hA, _, _, y0, y1⟩ := ho1.nodes.row.atNV hnvj
  injection hA with hA
  injection hA with h1 h2
  subst h1 h2
  simp only [Nat.zero_add] at y0 y1
  rw [hnj] at y1
  have hne1 : ¬ w.heap.size = gN := by omega
  have hne2 : ¬ gN = w.heap.size := by omega
  have HNL := Lib.hid hnl
  clear hnvj hidj hoj hnj ho1 hnl hin
  obtain ⟨W3, hW3⟩ : ∃ W3, W3 = set4 w3 w.heap.size (.slice (some ⟨gN, 0, none⟩) g.nodes.length d1) (.slice B2 g.edges.length d2) (.int .i64 g.nn) (.int .i64 g.ne) := ⟨_, rfl⟩
  have hS3 : Same (fun k => w2.heap.size ≤ k) w3 W3 := fun k hk _ => by rw [hW3]; exact set4_heap _ _ _ _ _ _ k (by omega)
  have HO3 := Lib.hid (HO1.out.move hS3)
  have BX4 := Lib.hid (show Box4 W3 w.heap.size (.slice (some ⟨gN, 0, none⟩) g.nodes.length d1) (.slice B2 g.edges.length d2) (.int .i64 g.nn) (.int .i64 g.ne) by rw [hW3]; exact BX3.out.set _ _ _ _)
  have BR4 := Lib.hid (show Box4 W3 (w.heap.size + 1 + 1) (.slice none 0 0) (.slice none 0 0) (.int .i64 0) (.int .i64 0) by rw [hW3]; exact BR3.out.other4 (by omega) _ _ _ _)
  have CB4 := Lib.hid (show W3.cell? ⟨w.heap.size + 1, 0, none⟩ = some (.int .i64 b) by rw [hW3]; exact (World.cell?_of_block (set4_heap w3 w.heap.size _ _ _ _ (w.heap.size + 1) (by omega))).trans CB3.out)
  have K4 := Lib.hid (show Below w.heap.size w W3 by rw [hW3]; exact set4_below K3.out (Nat.le_refl _) _ _ _ _)
  have s4 : W3.heap.size = w3.heap.size := by rw [hW3, set4_size]
  have NE := Lib.hid HO1.out.ne
  have NP := Lib.hid HO1.out.np
  have HW3 := Lib.hid hW3
  clear hS3 hW3
  go_wp2
  clear x0 x1 x2 x3 xf y0 y1
  go_loopw [48] (fun p wr => p = .int .i64 0 ∧ wr = W3) (fun _ _ => 0)
  case atStart => exact ⟨rfl, by rw [HW3.out]; rfl⟩
  case round =>
    obtain ⟨rfl, hww⟩ := hrel
    subst wr
    obtain ⟨x0, x1, x2, x3, xf⟩ := BX4.out
    have cb := CB4.out
    go_wp2
    clear x0 x1 x2 x3 xf
    go_loopw [79] (fun p wr => ∃ (k : Nat) (ys : List EdgeD), k ≤ g.edges.length ∧ p = .int .i64 (k : Int) ∧ Hid (ys = (g.edges.take k).map (subE a b) ++ g.edges.drop k) ∧ Hid (Own tEdge 40 wr (fun k => w2.heap.size ≤ k) (.slice B2 g.edges.length d2) ys) ∧ Hid (Same (fun k => (Value.slice B2 g.edges.length d2).ownBlock ≠ some k) W3 wr) ∧ W3.heap.size ≤ wr.heap.size ∧ Hid (Below w.heap.size w wr)) (fun p _ => g.edges.length - (intOf p).toNat)
    case atStart => exact ⟨0, g.edges, by omega, rfl, Lib.hid (by simp), Lib.hid HO3.out.edges, (fun _ _ _ => rfl), Nat.le_refl _, K4⟩
    case round =>
      obtain ⟨wa, rfl⟩ : ∃ wa, wa = wr := ⟨wr, rfl⟩
      obtain ⟨k, ys, hk, rfl, hys, ho, hsm, hsz, hb⟩ := hrel
      have hwa := hb.out.size
      have hEB := Lib.hid (fun k e => (ho.out.1 k e : w2.heap.size ≤ k))
      have BXa := BX4.out.keep (hsm.out w.heap.size (fun e => by have := hEB.out _ e; omega) (by omega))
      have cba : wa.cell? ⟨w.heap.size + 1, 0, none⟩ = some (.int .i64 b) := (World.cell?_of_block (hsm.out (w.heap.size + 1) (fun e => by have := hEB.out _ e; omega) (by omega))).trans CB4.out
      have hyl : ys.length = g.edges.length := by rw [hys.out]; simp; omega
      have HYL := Lib.hid hyl
      have BXa := Lib.hid BXa
      obtain ⟨x0, x1, x2, x3, xf⟩ := BXa.out
      by_cases hlt : k < g.edges.length
      case neg =>
        obtain rfl : k = g.edges.length := by omega
        have HEM := Lib.hid (show ys = g.edges.map (subE a b) by rw [hys.out, List.take_length, List.drop_length, List.append_nil])
        have HNA := Lib.hid (HO3.out.nodes.keepFlat (w' := wa) fun k hk => hsm.out k (fun e => NE.out k hk e) (HO3.out.nodes.lt k hk))
        have HPA := Lib.hid (show NVs wa (fun k => w2.heap.size ≤ k) nvs g.nodes from ⟨HO3.out.len, fun j v x hv hx => ⟨(HO3.out.each j v x hv hx).1, ((HO3.out.each j v x hv hx).2.keepFlat (w' := wa) fun k hk => hsm.out k (fun e => (NP.out j v k hv hk).2 e) ((HO3.out.each j v x hv hx).2.lt k hk)).row⟩⟩)
        have BRa := Lib.hid (BR4.out.keep (hsm.out (w.heap.size + 1 + 1) (fun e => by have := hEB.out _ e; omega) (by omega)))
        clear cba
        go_wp2_with fail
        refine (withoutN_calls wa _ (fun k => k = w.heap.size + 1) _ nvs _ _ (fun v => v.id == b) fuseC_enters (fun W x hK => ?_) HNA.out.row (by intro k hk; have h9 : k = w.heap.size + 1 := hk; omega) (by rw [HNL.out]; exact hs1)).mono ?_
        · refine fuseC_calls W x b (w.heap.size + 1) (by have := hK.1; omega) ?_
          rw [hK.cell _ _ rfl (by omega)]
          exact (World.cell?_of_block (hsm.out (w.heap.size + 1) (fun e => by have := hEB.out _ e; omega) (by omega))).trans CB4.out
        rintro e w5 ⟨v5, rfl, ho5, hb5⟩
        obtain ⟨B5, d5, rfl⟩ := ho5.slice
        have s5 := hb5.size
        have K5 := Lib.hid (hb.out.trans (hb5.mono hwa))
        have HN5 := Lib.hid ho5
        have HP5 := Lib.hid ((HPA.out.filter b).below hb5)
        have HE5 := Lib.hid (ho.out.below hb5)
        have BX5 := Lib.hid (BXa.out.keep (hb5.block w.heap.size (by omega)))
        have BR5 := Lib.hid (BRa.out.keep (hb5.block (w.heap.size + 1 + 1) (by omega)))
        clear ho5 hb5 x0 x1 x2 x3 xf
        obtain ⟨x0, x1, x2, x3, xf⟩ := BX5.out
        obtain ⟨y0, y1, y2, y3, yf⟩ := BR5.out
        go_wp2
        have hSm : Same (fun k => w2.heap.size ≤ k) w5 (set4 (w5.setCell ⟨w.heap.size, 0, none⟩ (.slice B5 (nvs.filter fun v => !(v.id == b)).length d5)) (w.heap.size + 1 + 1) (.slice B5 (nvs.filter fun v => !(v.id == b)).length d5) (.slice B2 g.edges.length d2) (.int .i64 g.nn) (.int .i64 g.ne)) := fun k hk _ => by
          have h1 : k ≠ w.heap.size := by omega
          rw [set4_heap _ _ _ _ _ _ k (by omega), Below.heap_setCell _ ⟨w.heap.size, 0, none⟩ _ k h1]
        refine bodyPost_ret (v := .tuple #[.agg #[.slice B5 (nvs.filter fun v => !(v.id == b)).length d5, .slice B2 g.edges.length d2, .int .i64 g.nn, .int .i64 g.ne], .int .i64 0]) (by simp [results, Try.results23, go_sem, x0, x1, x2, x3, y0, y1, y2, y3]; try rfl) rfl ?_
        refine ⟨_, _, rfl, Gr.mono (S := fun k => w2.heap.size ≤ k) (Gr.move (w := w5) ⟨⟨_, (HN5.out.mono fun k hk _ => (by omega : w2.heap.size ≤ k)).row, HP5.out⟩, by rw [← HEM.out]; exact HE5.out.row⟩ hSm) (fun k hk _ => by omega), ?_⟩
        exact set4_below (K5.out.setCell (p := ⟨w.heap.size, 0, none⟩) (by simp only; omega) _) (by omega) _ _ _ _
      have hkl : k < ys.length := by omega
      obtain ⟨x, hx⟩ := getElem?_of_lt hlt
      have hyk : ys[k]? = some x := by
        rw [hys.out, List.getElem?_append_right (by simp; omega), List.getElem?_drop, ← hx]
        congr 1
        simp
        omega
      obtain ⟨gE, hB2, hgEB, hgEl⟩ := ho.out.head (by omega)
      subst hB2
      have HX := Lib.hid hx
      have HYK := Lib.hid hyk
      clear hx hyk hyl
      go_wp2_with fail
      refine wp_region_schedK (fun _ => True) [(0, true), (1, true), (2, true), (3, true), (4, true), (5, true), (6, true), (7, true), (8, true), (9, true), (12, true), (10, false), (11, true)] (by kernel_rfl) (by kernel_rfl) (fun hS => ?_)
      have HK := Lib.hid hS
      clear hS
      have q1 : w.heap.size < wa.heap.size := by omega
      repeat (refine sched_take (v := ?_) (by simp only [List.getElem?_toArray, List.getElem?_cons_succ, List.getElem?_cons_zero]; rfl) (Or.inl ⟨by rfl, fun W hW => ?_⟩) HK.out ?_; rotate_left; (have hc := fun b o hb => hW.cell b o trivial hb; clear hW; go_simp; with_reducible rfl); simp only [Act.put, List.setIfInBounds_toArray, List.set_cons_zero, List.set_cons_succ])
      refine sched_step (by simp only [List.getElem?_toArray, List.getElem?_cons_succ, List.getElem?_cons_zero]; rfl) ?_
      go_wp2_with fail
      refine sched_on (by repeat (first | (with_reducible exact HK.out) | (with_reducible exact Kept.refl _ _) | (with_reducible refine Kept.drew ?_) | (with_reducible refine Kept.drewN ?_ _) | (with_reducible refine Kept.alloc ?_ _) | (with_reducible refine Kept.setCell ?_ (.inl (by simp; try omega)) _))) ?_
      have HK2 := Lib.hid (show Kept wa (fun _ => True) (wa.alloc (.cells #[.pointer (some ⟨gE, k * 3 + 1, none⟩), .pointer (some ⟨gE, k * 3 + 2, none⟩)] 108)).drew from ((Kept.refl wa (fun _ => True)).alloc _).drew)
      repeat (refine sched_take (v := ?_) (by simp only [List.getElem?_toArray, List.getElem?_cons_succ, List.getElem?_cons_zero]; rfl) (Or.inl ⟨by rfl, fun W hW => ?_⟩) HK2.out ?_; rotate_left; (have hc := fun b o hb => hW.cell b o trivial hb; clear hW; go_simp; with_reducible rfl); simp only [Act.put, List.setIfInBounds_toArray, List.set_cons_zero, List.set_cons_succ])
      refine sched_done ?_
      have hset : ys.set k (subQ 0 a b x) = ys := by
        apply List.ext_getElem?
        intro m
        rw [List.getElem?_set]
        split
        · rename_i e
          rw [← e]
          first | (rw [if_pos hkl]; exact HYK.out.symm) | exact HYK.out.symm
        · rfl
      have q2 : gE < wa.heap.size := by omega
      have q3 : ¬ wa.heap.size = gE := by omega
      clear x0 x1 x2 x3 xf cba HK HK2
      go_wp2
      go_loopw [94] (fun p wr => ∃ q : Nat, q ≤ 2 ∧ p = .int .i64 (q : Int) ∧ Hid (Own tEdge 40 wr (fun k => w2.heap.size ≤ k) (.slice (some ⟨gE, 0, none⟩) g.edges.length d2) (ys.set k (subQ q a b x))) ∧ Hid (Same (fun k => k ≠ gE) (wa.alloc (.cells #[.pointer (some ⟨gE, k * 3 + 1, none⟩), .pointer (some ⟨gE, k * 3 + 2, none⟩)] 108)) wr) ∧ wa.heap.size + 1 ≤ wr.heap.size ∧ Hid (Below w.heap.size w wr)) (fun p _ => 2 - (intOf p).toNat)
      case atStart => exact ⟨0, by omega, rfl, Lib.hid (by rw [hset]; exact ho.out.below ((Below.heap1 wa _).drew)), (fun _ _ _ => rfl), by simp, Lib.hid ((hb.out.alloc (by omega) _).drew)⟩
      case round =>
        obtain ⟨wq, rfl⟩ : ∃ wq, wq = wr := ⟨wr, rfl⟩
        obtain ⟨q, hq, rfl, hoq, hsq, hsz2, hbq⟩ := hrel
        have p0 : wq.cell? ⟨wa.heap.size, 0, none⟩ = some (.pointer (some ⟨gE, k * 3 + 1, none⟩)) := (World.cell?_of_block (hsq.out wa.heap.size q3 (by simp))).trans (by simp [go_sem])
        have p1 : wq.cell? ⟨wa.heap.size, 1, none⟩ = some (.pointer (some ⟨gE, k * 3 + 2, none⟩)) := (World.cell?_of_block (hsq.out wa.heap.size q3 (by simp))).trans (by simp [go_sem])
        have cbq : wq.cell? ⟨w.heap.size + 1, 0, none⟩ = some (.int .i64 b) := (World.cell?_of_block (((hsq.out (w.heap.size + 1) (by omega) (by simp; omega)).trans (Below.heap_alloc _ _ _ (by omega))).trans (hsm.out (w.heap.size + 1) (fun e => by have := hEB.out _ e; omega) (by omega)))).trans CB4.out
        have q4 : wa.heap.size < wq.heap.size := by omega
        have q5 : gE < wq.heap.size := by omega
        have q6 : w.heap.size + 1 < wq.heap.size := by omega
        rcases (by omega : q = 0 ∨ q = 1 ∨ q = 2) with rfl | rfl | rfl
        · skip
          have HCUR := Lib.hid (show (subQ 0 a b x).frm = x.frm from rfl)
          obtain ⟨b9, off9, hA, _, _, z0, z1, z2⟩ := hoq.out.row.atEdge (x := subQ 0 a b x) (j := k) (by rw [List.getElem?_set, if_pos rfl, if_pos hkl])
          injection hA with hA
          injection hA with h1 h2
          subst h1 h2
          simp only [Nat.zero_add] at z0 z1 z2
          rw [HCUR.out] at z1
          have hfz := fun o => hoq.out.frozenC o
          clear z0 z2
          by_cases hf : x.frm = b
          · have HN := Lib.hid (show subQ 1 a b x = ⟨(subQ 0 a b x).id, a, (subQ 0 a b x).to⟩ by simp [subQ, subE, hf])
            have N1 := hoq.out.setFlat (p := k) (i := 1) (y := subQ 0 a b x) (y' := ⟨(subQ 0 a b x).id, a, (subQ 0 a b x).to⟩) (u := .int .i64 a) (by rw [List.getElem?_set, if_pos rfl, if_pos hkl]) (by decide) rfl
            rw [List.set_set, ← HN.out] at N1
            have N := Lib.hid N1
            clear N1
            replace hf : (x.frm == b) = true := beq_iff_eq.mpr hf
            go_wp2_with fail
            refine wp_region_schedK (fun _ => True) [(0, true), (1, true), (2, true), (3, true), (4, true)] (by kernel_rfl) (by kernel_rfl) (fun hS => ?_)
            have HK := Lib.hid hS
            clear hS
            repeat (refine sched_take (v := ?_) (by simp only [List.getElem?_toArray, List.getElem?_cons_succ, List.getElem?_cons_zero]; rfl) (Or.inl ⟨by rfl, fun W hW => ?_⟩) HK.out ?_; rotate_left; (have hc := fun b o hb => hW.cell b o trivial hb; clear hW; go_simp; with_reducible rfl); simp only [Act.put, List.setIfInBounds_toArray, List.set_cons_zero, List.set_cons_succ])
            refine sched_done ?_
            go_wp2
            go_roundw
            case rel => exact ⟨1, by omega, by first | (go_num; done) | (go_num; omega) | rfl, N, Lib.hid (hsq.out.trans (by simp; omega) (Same.of_setCell _ ⟨gE, k * 3 + 1, none⟩ _ (fun k hk => hk))), by simp; omega, Lib.hid (hbq.out.drew.setCell (p := ⟨gE, k * 3 + 1, none⟩) (by simp only; omega) _)⟩
            case measure => simp [intOf]
          · have HN := Lib.hid (show subQ 1 a b x = subQ 0 a b x by simp [subQ, subE, hf])
            have N := hoq
            rw [← HN.out] at N
            replace hf : (x.frm == b) = false := beq_eq_false_iff_ne.mpr hf
            go_wp2_with fail
            refine wp_region_schedK (fun _ => True) [(0, true), (1, true), (2, true), (3, true), (4, true)] (by kernel_rfl) (by kernel_rfl) (fun hS => ?_)
            have HK := Lib.hid hS
            clear hS
            repeat (refine sched_take (v := ?_) (by simp only [List.getElem?_toArray, List.getElem?_cons_succ, List.getElem?_cons_zero]; rfl) (Or.inl ⟨by rfl, fun W hW => ?_⟩) HK.out ?_; rotate_left; (have hc := fun b o hb => hW.cell b o trivial hb; clear hW; go_simp; with_reducible rfl); simp only [Act.put, List.setIfInBounds_toArray, List.set_cons_zero, List.set_cons_succ])
            refine sched_done ?_
            go_wp2
            go_roundw
            case rel => exact ⟨1, by omega, by first | (go_num; done) | (go_num; omega) | rfl, N, hsq, by simp; omega, Lib.hid hbq.out.drew⟩
            case measure => simp [intOf]
        · skip
          have HCUR := Lib.hid (show (subQ 1 a b x).to = x.to from rfl)
          obtain ⟨b9, off9, hA, _, _, z0, z1, z2⟩ := hoq.out.row.atEdge (x := subQ 1 a b x) (j := k) (by rw [List.getElem?_set, if_pos rfl, if_pos hkl])
          injection hA with hA
          injection hA with h1 h2
          subst h1 h2
          simp only [Nat.zero_add] at z0 z1 z2
          rw [HCUR.out] at z2
          have hfz := fun o => hoq.out.frozenC o
          clear z0 z1
          by_cases hf : x.to = b
          · have HN := Lib.hid (show subQ 2 a b x = ⟨(subQ 1 a b x).id, (subQ 1 a b x).frm, a⟩ by simp [subQ, subE, hf])
            have N1 := hoq.out.setFlat (p := k) (i := 2) (y := subQ 1 a b x) (y' := ⟨(subQ 1 a b x).id, (subQ 1 a b x).frm, a⟩) (u := .int .i64 a) (by rw [List.getElem?_set, if_pos rfl, if_pos hkl]) (by decide) rfl
            rw [List.set_set, ← HN.out] at N1
            have N := Lib.hid N1
            clear N1
            replace hf : (x.to == b) = true := beq_iff_eq.mpr hf
            go_wp2_with fail
            refine wp_region_schedK (fun _ => True) [(0, true), (1, true), (2, true), (3, true), (4, true)] (by kernel_rfl) (by kernel_rfl) (fun hS => ?_)
            have HK := Lib.hid hS
            clear hS
            repeat (refine sched_take (v := ?_) (by simp only [List.getElem?_toArray, List.getElem?_cons_succ, List.getElem?_cons_zero]; rfl) (Or.inl ⟨by rfl, fun W hW => ?_⟩) HK.out ?_; rotate_left; (have hc := fun b o hb => hW.cell b o trivial hb; clear hW; go_simp; with_reducible rfl); simp only [Act.put, List.setIfInBounds_toArray, List.set_cons_zero, List.set_cons_succ])
            refine sched_done ?_
            go_wp2
            go_roundw
            case rel => exact ⟨2, by omega, by first | (go_num; done) | (go_num; omega) | rfl, N, Lib.hid (hsq.out.trans (by simp; omega) (Same.of_setCell _ ⟨gE, k * 3 + 2, none⟩ _ (fun k hk => hk))), by simp; omega, Lib.hid (hbq.out.drew.setCell (p := ⟨gE, k * 3 + 2, none⟩) (by simp only; omega) _)⟩
            case measure => simp [intOf]
          · have HN := Lib.hid (show subQ 2 a b x = subQ 1 a b x by simp [subQ, subE, hf])
            have N := hoq
            rw [← HN.out] at N
            replace hf : (x.to == b) = false := beq_eq_false_iff_ne.mpr hf
            go_wp2_with fail
            refine wp_region_schedK (fun _ => True) [(0, true), (1, true), (2, true), (3, true), (4, true)] (by kernel_rfl) (by kernel_rfl) (fun hS => ?_)
            have HK := Lib.hid hS
            clear hS
            repeat (refine sched_take (v := ?_) (by simp only [List.getElem?_toArray, List.getElem?_cons_succ, List.getElem?_cons_zero]; rfl) (Or.inl ⟨by rfl, fun W hW => ?_⟩) HK.out ?_; rotate_left; (have hc := fun b o hb => hW.cell b o trivial hb; clear hW; go_simp; with_reducible rfl); simp only [Act.put, List.setIfInBounds_toArray, List.set_cons_zero, List.set_cons_succ])
            refine sched_done ?_
            go_wp2
            go_roundw
            case rel => exact ⟨2, by omega, by first | (go_num; done) | (go_num; omega) | rfl, N, hsq, by simp; omega, Lib.hid hbq.out.drew⟩
            case measure => simp [intOf]
        · have hN := Lib.hid (show ys.set k (subE a b x) = (g.edges.take (k + 1)).map (subE a b) ++ g.edges.drop (k + 1) by
            rw [hys.out, List.take_add_one, HX.out, Option.toList_some, List.map_append, List.set_append_right _ _ (by simp; omega)]
            have e : k - ((g.edges.take k).map (subE a b)).length = 0 := by simp; omega
            rw [e, List.drop_eq_getElem_cons hlt]
            have e2 : g.edges[k] = x := by have h := HX.out; rw [List.getElem?_eq_getElem hlt] at h; injection h
            simp [e2])
          have hS3 : Same (fun k' => (Value.slice (some ⟨gE, 0, none⟩) g.edges.length d2).ownBlock ≠ some k') wa wq := (Same.of_alloc _ wa _).trans (by simp) (hsq.out.mono fun k' hk' e => hk' (by rw [e]; rfl))
          have N3 := Lib.hid (hsm.out.trans hsz hS3)
          clear hS3
          go_wp2
          go_roundw
          case rel => exact ⟨k + 1, ys.set k (subE a b x), by omega, by first | (go_num; done) | (go_num; omega), hN, hoq, N3, by omega, hbq⟩
          case measure => simp [intOf]; omega
end Go.Proofs.Ytpehmmdbjakkpaa
namespace Go.Proofs.Ytpehmmdbjakkpaa
open Go.RowKit Go.Shelf
set_option linter.unusedSimpArgs false
set_option linter.unusedVariables false
def liveC : CfgD := ⟨4, 4, 4, 4, 4⟩
def liveG0 : GraphD := ⟨[], [], 1, 1⟩
def liveG1 : GraphD := ⟨[⟨1, []⟩], [], 2, 1⟩
def liveG2 : GraphD := ⟨[⟨1, []⟩, ⟨2, []⟩], [], 3, 1⟩
def liveG3 : GraphD := ⟨[⟨1, []⟩, ⟨2, []⟩], [⟨1, 1, 2⟩], 3, 2⟩
def liveG4 : GraphD := ⟨[⟨1, []⟩], [⟨1, 1, 1⟩], 3, 2⟩
theorem live_a1 : addOf liveC liveG0 = (liveG1, 1, 0) := by decide
theorem live_a2 : addOf liveC liveG1 = (liveG2, 2, 0) := by decide
theorem live_a3 : linkOf liveC liveG2 1 2 = (liveG3, 1, 0) := by decide
theorem live_a4 : atOf liveG3.nodes 1 = ((0 : Nat) : Int) := by decide
theorem live_a5 : atOf liveG3.nodes 2 = ((1 : Nat) : Int) := by decide
theorem live_a6 : (⟨liveG3.nodes.filter (fun x => !(x.id == 2)), liveG3.edges.map (subE 1 2), liveG3.nn, liveG3.ne⟩ : GraphD) = liveG4 := by decide
theorem live_a7 : nearOf liveG4 1 = ([⟨1, 1⟩], [⟨1, 1⟩], 0) := by decide
theorem small_of {g : GraphD} (h1 : g.nodes.length ≤ 1000000) (h2 : g.edges.length ≤ 1000000) (h3 : ∀ x ∈ g.nodes, x.ps.length ≤ 1000000) : g.small := ⟨h1, h2, h3⟩
theorem live_s0 : liveG0.small := ⟨by decide, by decide, by decide⟩
theorem live_s1 : liveG1.small := ⟨by decide, by decide, by decide⟩
theorem live_s2 : liveG2.small := ⟨by decide, by decide, by decide⟩
theorem live_s3 : liveG3.small := ⟨by decide, by decide, by decide⟩
set_option maxRecDepth 100000 in
set_option maxHeartbeats 8000000 in
theorem live_calls (w : World) : Calls Try.prog 20 #[] w fun e w' => e = .returned (.bool true) ∧ Below w.heap.size w w' := by
  go_enter Try.func20, Try.ntmps20
  go_wp2_with fail
  refine (plain_calls _).mono ?_
  rintro e w1 ⟨rfl, hb1⟩
  have K1 := Lib.hid hb1
  have s1 := hb1.size
  clear hb1
  go_wp2_with fail
  refine (new_calls _).mono ?_
  rintro e w2 ⟨rfl, hb2⟩
  have K2 := Lib.hid (K1.out.trans (hb2.mono s1))
  have s2 := K2.out.size
  clear hb2 K1 s1
  go_wp2_with fail
  refine (add_calls w2 (fun _ => True) liveC liveG0 _ _ (Gr.zero _ _ _ _) live_s0 (by decide) (by decide) (by decide)).mono ?_
  rw [live_a1]
  rintro e w3 ⟨vn, ve, rfl, hg3, hb3⟩
  obtain ⟨⟨A1, c1, rfl⟩, ⟨A2, c2, rfl⟩⟩ := hg3.slices
  have K3 := Lib.hid (K2.out.trans (hb3.mono s2))
  have s3 := K3.out.size
  have G3 := Lib.hid hg3
  clear hb3 hg3 K2 s2
  simp only [liveG1, List.length_cons, List.length_nil]
  go_wp2_with fail
  have G3b := Lib.hid (G3.out.below (Below.heap1 w3 (.cells #[.slice A1 1 c1, .slice A2 0 c2, .int .i64 2, .int .i64 1] 27)).drew)
  have B3 := Lib.hid (Box4.made w3 27 (.slice A1 1 c1) (.slice A2 0 c2) (.int .i64 2) (.int .i64 1))
  have K3b := Lib.hid (K3.out.trans ((Below.heap1 w3 (.cells #[.slice A1 1 c1, .slice A2 0 c2, .int .i64 2, .int .i64 1] 27)).drew.mono s3))
  refine wp_region_tr (fun k => ¬ k = w3.heap.size) (.two 0 (.step 1 (.step 2 (.take 3 (.take 4 (.take 5 (.take 6 (.step 7 (.take 8 (.take 9 .nil))))))))) 1 (.step 0 (.step 2 (.take 3 (.take 4 (.take 5 (.take 6 (.step 7 (.take 8 (.take 9 .nil)))))))))) (by kernel_rfl) (by kernel_rfl) (fun hS => ?_)
  have HK := Lib.hid hS
  clear hS
  refine tr_two (by simp only [List.getElem?_toArray, List.getElem?_cons_succ, List.getElem?_cons_zero]; rfl) ?brA (by simp only [List.getElem?_toArray, List.getElem?_cons_succ, List.getElem?_cons_zero]; rfl) ?brB
  case' brA =>
    go_wp2_with fail
    refine (plain_calls _).mono ?_
    rintro e w4 ⟨rfl, hb4⟩
    have HK4 := Lib.hid (HK.out.below hb4)
    have K4 := Lib.hid (K3b.out.trans (hb4.mono (by simp; omega)))
    have G4 := Lib.hid (G3b.out.below hb4)
    have B4 := Lib.hid (B3.out.keep (hb4.block w3.heap.size (by simp)))
    have s4 := hb4.size
    clear hb4
    simp only [World.size_alloc, World.size_drew] at s4
    obtain ⟨x0, x1, x2, x3, xf⟩ := B4.out
    go_wp2_with fail
    refine tr_on HK4.out ?_
    refine tr_step (by simp only [List.getElem?_toArray, List.getElem?_cons_succ, List.getElem?_cons_zero]; rfl) ?_
    go_wp2_with fail
    refine tr_on HK4.out ?_
    clear x0 x1 x2 x3 xf
  case' brB =>
    go_wp2_with fail
    refine tr_on HK.out ?_
    refine tr_step (by simp only [List.getElem?_toArray, List.getElem?_cons_succ, List.getElem?_cons_zero]; rfl) ?_
    go_wp2_with fail
    refine (plain_calls _).mono ?_
    rintro e w4 ⟨rfl, hb4⟩
    have HK4 := Lib.hid (HK.out.below hb4)
    have K4 := Lib.hid (K3b.out.trans (hb4.mono (by simp; omega)))
    have G4 := Lib.hid (G3b.out.below hb4)
    have B4 := Lib.hid (B3.out.keep (hb4.block w3.heap.size (by simp)))
    have s4 := hb4.size
    clear hb4
    simp only [World.size_alloc, World.size_drew] at s4
    go_wp2_with fail
    refine tr_on HK4.out ?_
  all_goals
    clear HK G3 G3b B3 K3 K3b
    refine tr_step (by simp only [List.getElem?_toArray, List.getElem?_cons_succ, List.getElem?_cons_zero]; rfl) ?_
    go_wp2_with fail
    refine (add_calls w4 _ liveC liveG1 _ _ G4.out live_s1 (by decide) (by decide) (by decide)).mono ?_
    rw [live_a2]
    rintro e w5 ⟨vn5, ve5, rfl, hg5, hb5⟩
    obtain ⟨⟨A5, c5, rfl⟩, ⟨A6, c6, rfl⟩⟩ := hg5.slices
    have HK5 := Lib.hid (HK4.out.below hb5)
    have K5 := Lib.hid (K4.out.trans (hb5.mono (by omega)))
    have s5 := hb5.size
    have G5 := Lib.hid hg5
    have B5 := Lib.hid (B4.out.keep (hb5.block w3.heap.size (by omega)))
    clear hb5 hg5 HK4 K4 G4 B4
    simp only [liveG2, List.length_cons, List.length_nil]
    obtain ⟨x0, x1, x2, x3, xf⟩ := B5.out
    go_wp2_with fail
    refine tr_on HK5.out ?_
    repeat (refine tr_take (v := ?_) (by simp only [List.getElem?_toArray, List.getElem?_cons_succ, List.getElem?_cons_zero]; rfl) (Or.inl ⟨by rfl, fun W hW => ?_⟩) HK5.out ?_; rotate_left; (skip; clear hW; go_simp; with_reducible rfl); simp only [Act.put, List.setIfInBounds_toArray, List.set_cons_zero, List.set_cons_succ])
    refine tr_step (by simp only [List.getElem?_toArray, List.getElem?_cons_succ, List.getElem?_cons_zero]; rfl) ?_
    go_wp2_with fail
    have HKs := Lib.hid ((((HK5.out.setCell (p := ⟨w3.heap.size, 0, none⟩) (.inr (by simp)) (.slice A5 2 c5)).setCell (p := ⟨w3.heap.size, 1, none⟩) (.inr (by simp)) (.slice A6 0 c6)).setCell (p := ⟨w3.heap.size, 2, none⟩) (.inr (by simp)) (.int .i64 3)).setCell (p := ⟨w3.heap.size, 3, none⟩) (.inr (by simp)) (.int .i64 1))
    refine tr_on HKs.out ?_
    repeat (refine tr_take (v := ?_) (by simp only [List.getElem?_toArray, List.getElem?_cons_succ, List.getElem?_cons_zero]; rfl) (Or.inl ⟨by rfl, fun W hW => ?_⟩) HKs.out ?_; rotate_left; (skip; clear hW; go_simp; with_reducible rfl); simp only [Act.put, List.setIfInBounds_toArray, List.set_cons_zero, List.set_cons_succ])
    clear HKs
    refine tr_done ?_
    clear x0 x1 x2 x3 xf
    have hbx : w3.heap.size < w4.heap.size := by omega
    obtain ⟨W5, hW⟩ : ∃ W, W = set4 w5 w3.heap.size (.slice A5 2 c5) (.slice A6 0 c6) (.int .i64 3) (.int .i64 1) := ⟨_, rfl⟩
    have BWW5 := Lib.hid (show Box4 W5 w3.heap.size (.slice A5 2 c5) (.slice A6 0 c6) (.int .i64 3) (.int .i64 1) by rw [hW]; exact B5.out.set _ _ _ _)
    have KWW5 := Lib.hid (show Below w.heap.size w W5 by rw [hW]; exact set4_below K5.out (by omega) _ _ _ _)
    have GWW5 := Lib.hid (G5.out.move (w' := W5) (fun k hk _ => by rw [hW]; exact set4_heap _ _ _ _ _ _ k (by omega)))
    have sWW5 : W5.heap.size = w5.heap.size := by rw [hW, set4_size]
    unfold set4 at hW
    rw [← hW]
    clear hW
    clear HK5
    go_wp2_with fail
    refine wp_region_tr (fun k => ¬ k = w3.heap.size) (.take 2 (.take 3 (.two 0 (.step 1 (.step 4 (.take 5 (.take 6 (.take 7 (.take 8 (.step 9 (.take 10 (.take 11 .nil))))))))) 1 (.step 0 (.step 4 (.take 5 (.take 6 (.take 7 (.take 8 (.step 9 (.take 10 (.take 11 .nil)))))))))))) (by kernel_rfl) (by kernel_rfl) (fun hS => ?_)
    have HK := Lib.hid hS
    clear hS
    repeat (refine tr_take (v := ?_) (by simp only [List.getElem?_toArray, List.getElem?_cons_succ, List.getElem?_cons_zero]; rfl) (Or.inl ⟨by rfl, fun W hW => ?_⟩) HK.out ?_; rotate_left; (skip; clear hW; go_simp; with_reducible rfl); simp only [Act.put, List.setIfInBounds_toArray, List.set_cons_zero, List.set_cons_succ])
    refine tr_two (by simp only [List.getElem?_toArray, List.getElem?_cons_succ, List.getElem?_cons_zero]; rfl) ?_ (by simp only [List.getElem?_toArray, List.getElem?_cons_succ, List.getElem?_cons_zero]; rfl) (Hid.out ?_)
    go_wp2_with fail
    refine (plain_calls _).mono ?_
    rintro e w6 ⟨rfl, hb6⟩
    have HK6 := Lib.hid (HK.out.below hb6)
    have K6 := Lib.hid (KWW5.out.drew.trans (hb6.mono (by simp; omega)))
    have G6 := Lib.hid ((GWW5.out.below (Below.refl _ _).drew).below hb6)
    have B6 := Lib.hid (BWW5.out.keep (hb6.block w3.heap.size (by simp; omega)))
    have s6 := hb6.size
    clear hb6
    simp only [World.size_alloc, World.size_drew] at s6
    obtain ⟨x0, x1, x2, x3, xf⟩ := B6.out
    go_wp2_with fail
    refine tr_on HK6.out ?_
    refine tr_step (by simp only [List.getElem?_toArray, List.getElem?_cons_succ, List.getElem?_cons_zero]; rfl) ?_
    go_wp2_with fail
    refine tr_on HK6.out ?_
    clear x0 x1 x2 x3 xf
    rotate_left
    refine Lib.hid ?_
    obtain ⟨x0, x1, x2, x3, xf⟩ := BWW5.out
    go_wp2_with fail
    refine tr_on HK.out ?_
    refine tr_step (by simp only [List.getElem?_toArray, List.getElem?_cons_succ, List.getElem?_cons_zero]; rfl) ?_
    clear x0 x1 x2 x3 xf
    go_wp2_with fail
    refine (plain_calls _).mono ?_
    rintro e w6 ⟨rfl, hb6⟩
    have HK6 := Lib.hid (HK.out.below hb6)
    have K6 := Lib.hid (KWW5.out.drew.trans (hb6.mono (by simp; omega)))
    have G6 := Lib.hid ((GWW5.out.below (Below.refl _ _).drew).below hb6)
    have B6 := Lib.hid (BWW5.out.keep (hb6.block w3.heap.size (by simp; omega)))
    have s6 := hb6.size
    clear hb6
    simp only [World.size_alloc, World.size_drew] at s6
    go_wp2_with fail
    refine tr_on HK6.out ?_
    all_goals
      refine tr_step (by simp only [List.getElem?_toArray, List.getElem?_cons_succ, List.getElem?_cons_zero]; rfl) ?_
      go_wp2_with fail
      refine (link_calls w6 _ liveC liveG2 _ _ 1 2 G6.out live_s2 (by decide) (by decide) (by decide)).mono ?_
      rw [live_a3]
      rintro e w7 ⟨vn7, ve7, rfl, hg7, hb7⟩
      obtain ⟨⟨A7, c7, rfl⟩, ⟨A8, c8, rfl⟩⟩ := hg7.slices
      have HK7 := Lib.hid (HK6.out.below hb7)
      have K7 := Lib.hid (K6.out.trans (hb7.mono (by omega)))
      have s7 := hb7.size
      have G7 := Lib.hid hg7
      have B7 := Lib.hid (B6.out.keep (hb7.block w3.heap.size (by omega)))
      clear hb7 hg7 HK6 K6 G6 B6
      simp only [liveG3, List.length_cons, List.length_nil]
      obtain ⟨x0, x1, x2, x3, xf⟩ := B7.out
      go_wp2_with fail
      refine tr_on HK7.out ?_
      repeat (refine tr_take (v := ?_) (by simp only [List.getElem?_toArray, List.getElem?_cons_succ, List.getElem?_cons_zero]; rfl) (Or.inl ⟨by rfl, fun W hW => ?_⟩) HK7.out ?_; rotate_left; (skip; clear hW; go_simp; with_reducible rfl); simp only [Act.put, List.setIfInBounds_toArray, List.set_cons_zero, List.set_cons_succ])
      refine tr_step (by simp only [List.getElem?_toArray, List.getElem?_cons_succ, List.getElem?_cons_zero]; rfl) ?_
      go_wp2_with fail
      have HKs := Lib.hid ((((HK7.out.setCell (p := ⟨w3.heap.size, 0, none⟩) (.inr (by simp)) (.slice A7 2 c7)).setCell (p := ⟨w3.heap.size, 1, none⟩) (.inr (by simp)) (.slice A8 1 c8)).setCell (p := ⟨w3.heap.size, 2, none⟩) (.inr (by simp)) (.int .i64 3)).setCell (p := ⟨w3.heap.size, 3, none⟩) (.inr (by simp)) (.int .i64 2))
      refine tr_on HKs.out ?_
      repeat (refine tr_take (v := ?_) (by simp only [List.getElem?_toArray, List.getElem?_cons_succ, List.getElem?_cons_zero]; rfl) (Or.inl ⟨by rfl, fun W hW => ?_⟩) HKs.out ?_; rotate_left; (skip; clear hW; go_simp; with_reducible rfl); simp only [Act.put, List.setIfInBounds_toArray, List.set_cons_zero, List.set_cons_succ])
      clear HKs
      refine tr_done ?_
      clear x0 x1 x2 x3 xf
      have hbx2 : w3.heap.size < w6.heap.size := by omega
      obtain ⟨W7, hW⟩ : ∃ W, W = set4 w7 w3.heap.size (.slice A7 2 c7) (.slice A8 1 c8) (.int .i64 3) (.int .i64 2) := ⟨_, rfl⟩
      have BWW7 := Lib.hid (show Box4 W7 w3.heap.size (.slice A7 2 c7) (.slice A8 1 c8) (.int .i64 3) (.int .i64 2) by rw [hW]; exact B7.out.set _ _ _ _)
      have KWW7 := Lib.hid (show Below w.heap.size w W7 by rw [hW]; exact set4_below K7.out (by omega) _ _ _ _)
      have GWW7 := Lib.hid (G7.out.move (w' := W7) (fun k hk _ => by rw [hW]; exact set4_heap _ _ _ _ _ _ k (by omega)))
      have sWW7 : W7.heap.size = w7.heap.size := by rw [hW, set4_size]
      unfold set4 at hW
      rw [← hW]
      clear hW
      obtain ⟨x0, x1, x2, x3, xf⟩ := BWW7.out
      go_wp2_with fail
      refine (fuse0_calls W7 _ liveG3 _ _ 1 2 GWW7.out live_s3 (by decide) live_a4 live_a5 (xi := ⟨1, []⟩) (xj := ⟨2, []⟩) rfl rfl rfl (by decide)).mono ?_
      rw [live_a6]
      rintro e w8 ⟨vn9, ve9, rfl, hg9, hb9⟩
      obtain ⟨⟨A9, c9, rfl⟩, ⟨A10, c10, rfl⟩⟩ := hg9.slices
      have hKs := KWW7.out.size
      have K9 := Lib.hid (KWW7.out.trans (hb9.mono hKs))
      have s9 := hb9.size
      have G9 := Lib.hid hg9
      have B9 := Lib.hid (BWW7.out.keep (hb9.block w3.heap.size (by omega)))
      clear hb9 hg9 x0 x1 x2 x3 xf
      have hz : liveG3.nn = 3 ∧ liveG3.ne = 2 := ⟨rfl, rfl⟩
      rw [hz.1, hz.2]
      clear hz
      simp only [liveG4, List.length_cons, List.length_nil]
      obtain ⟨x0, x1, x2, x3, xf⟩ := B9.out
      go_wp2_with fail
      have hW : ∃ W, W = set4 w8 w3.heap.size (.slice A9 1 c9) (.slice A10 1 c10) (.int .i64 3) (.int .i64 2) := ⟨_, rfl⟩
      obtain ⟨W9, hW⟩ := hW
      have BW9 := Lib.hid (show Box4 W9 w3.heap.size (.slice A9 1 c9) (.slice A10 1 c10) (.int .i64 3) (.int .i64 2) by rw [hW]; exact B9.out.set _ _ _ _)
      have KW9 := Lib.hid (show Below w.heap.size w W9 by rw [hW]; exact set4_below K9.out (by omega) _ _ _ _)
      have sW9 : W9.heap.size = w8.heap.size := by rw [hW, set4_size]
      have GW9 := Lib.hid (G9.out.move (w' := W9) (fun k hk _ => by rw [hW]; exact set4_heap _ _ _ _ _ _ k (by omega)))
      unfold set4 at hW
      rw [← hW]
      clear hW x0 x1 x2 x3 xf
      refine (near_calls W9 _ liveG4 _ _ 1 GW9.out (by decide) (by decide)).mono ?_
      rw [live_a7]
      rintro e w10 ⟨vo, vi, rfl, hro, hri, hb10⟩
      have hKs2 := KW9.out.size
      have K10 := Lib.hid (KW9.out.trans (hb10.mono hKs2))
      have B10 := Lib.hid (BW9.out.keep (hb10.block w3.heap.size (by omega)))
      obtain ⟨Ao, co, rfl⟩ := hro.slice
      obtain ⟨Ai, ci, rfl⟩ := hri.slice
      obtain ⟨bo, oo, rfl, _, hbo, o0, o1⟩ := hro.atP (j := 0) (x := ⟨1, 1⟩) rfl
      obtain ⟨bi, oi, rfl, _, hbi, i0, i1⟩ := hri.atP (j := 0) (x := ⟨1, 1⟩) rfl
      clear hro hri hb10
      simp only [List.length_cons, List.length_nil, Nat.zero_mul, Nat.add_zero] at o0 o1 i0 i1 ⊢
      obtain ⟨x0, x1, x2, x3, xf⟩ := B10.out
      go_wp2
      go_ret
      exact ⟨rfl, K10.out⟩
end Go.Proofs.Ytpehmmdbjakkpaa
namespace Go.Proofs.Ytpehmmdbjakkpaa
open Go.RowKit Go.Shelf
set_option linter.unusedSimpArgs false
set_option linter.unusedVariables false
/-- Small enough to be played. -/
def GraphD.few (g : GraphD) : Prop := g.nodes.length ≤ 100 ∧ g.edges.length ≤ 100 ∧ ∀ x ∈ g.nodes, x.ps.length ≤ 100
theorem GraphD.few.small {g : GraphD} (h : g.few) : g.small := ⟨by have := h.1; omega, by have := h.2.1; omega, fun x hx => by have := h.2.2 x hx; omega⟩
set_option maxRecDepth 20000 in
set_option maxHeartbeats 8000000 in
theorem few_calls (w : World) (S : Nat → Prop) (g : GraphD) (vn ve : Value) (h : Gr w S g vn ve) : Calls Try.prog 45 #[.agg #[vn, ve, .int .i64 g.nn, .int .i64 g.ne]] w fun e w' => ∃ b : Bool, e = .returned (.bool b) ∧ (b = true → g.few) ∧ Below w.heap.size w w' := by
  have hm := h.len
  unfold maxLen at hm
  obtain ⟨hm1, hm2⟩ := hm
  obtain ⟨⟨A1, c1, rfl⟩, ⟨A2, c2, rfl⟩⟩ := h.slices
  have H := Lib.hid h
  have BX := Lib.hid (Box4.made w 27 (.slice A1 g.nodes.length c1) (.slice A2 g.edges.length c2) (.int .i64 g.nn) (.int .i64 g.ne))
  clear h
  go_enter Try.func45, Try.ntmps45
  go_wp2
  go_loopw [8] (fun p wr => ∃ k : Nat, k ≤ g.nodes.length ∧ p = .int .i64 (k : Int) ∧ Hid (∀ (i : Nat) (x : NodeD), i < k → g.nodes[i]? = some x → x.ps.length ≤ 100) ∧ Hid (Below w.heap.size w wr) ∧ Hid (Box4 wr w.heap.size (.slice A1 g.nodes.length c1) (.slice A2 g.edges.length c2) (.int .i64 g.nn) (.int .i64 g.ne)) ∧ w.heap.size + 1 ≤ wr.heap.size) (fun p _ => g.nodes.length - (intOf p).toNat)
  case atStart => exact ⟨0, by omega, rfl, (fun i x h => by omega), Below.heap1 w _, BX, by simp⟩
  case round =>
    obtain ⟨wa, rfl⟩ : ∃ wa, wa = wr := ⟨wr, rfl⟩
    obtain ⟨k, hk, rfl, hall, hb, hbx, hsz⟩ := hrel
    have hwr := hb.out.size
    by_cases hlt : k < g.nodes.length
    · obtain ⟨x, hx⟩ := getElem?_of_lt hlt
      obtain ⟨b, off, a, d, rfl, _, hbl, hr, x0, x1⟩ := (H.out.below hb.out).atN hx
      have hpl := hr.len
      unfold maxLen at hpl
      have HX := Lib.hid hx
      clear hx hr
      have g1 : wa.heap.size < wa.heap.size + 1 := by omega
      have g2 : b < wa.heap.size + 1 := by omega
      by_cases hp : 100 < x.ps.length
      · go_wp2
        go_ret
        exact ⟨false, rfl, (fun e => by cases e), hb.out.alloc (by omega) _⟩
      · have HN := Lib.hid (show ∀ (i : Nat) (x : NodeD), i < k + 1 → g.nodes[i]? = some x → x.ps.length ≤ 100 from fun i y hi hy => by
          rcases Nat.lt_or_ge i k with h3 | h3
          · exact hall.out i y h3 hy
          · obtain rfl : i = k := by omega
            rw [HX.out] at hy
            injection hy with hy
            subst hy
            omega)
        go_wp2
        go_roundw
        case rel => exact ⟨k + 1, by omega, by first | (go_num; done) | (go_num; omega), HN, Lib.hid (hb.out.alloc (by omega) _), Lib.hid (hbx.out.keep (Below.heap_alloc _ _ _ (by omega))), by simp; omega⟩
        case measure => simp [intOf]; omega
    · obtain rfl : k = g.nodes.length := by omega
      obtain ⟨x0, x1, x2, x3, xf⟩ := hbx.out
      by_cases h1 : g.nodes.length ≤ 100
      · have HF := Lib.hid (show decide ((g.edges.length : Int) ≤ 100) = true → g.few from fun h2 => ⟨h1, by have := of_decide_eq_true h2; omega, fun x hx => by
          obtain ⟨i, hi⟩ := List.mem_iff_getElem?.1 hx
          exact hall.out i x (List.getElem?_eq_some_iff.1 hi).1 hi⟩)
        go_wp2
        go_ret
        exact ⟨decide ((g.edges.length : Int) ≤ 100), rfl, HF.out, hb.out⟩
      · have hd : decide ((g.nodes.length : Int) ≤ 100) = false := decide_eq_false (by omega)
        go_wp2
        go_ret
        exact ⟨false, rfl, (fun e => by cases e), hb.out⟩
set_option maxRecDepth 20000 in
set_option maxHeartbeats 8000000 in
theorem refAt_calls (w : World) (S : Nat → Prop) (g : GraphD) (vn ve : Value) (n : Int) (h : Gr w S g vn ve) (hlen : g.nodes.length ≤ 1000000) : Calls Try.prog 81 #[.agg #[vn, ve, .int .i64 g.nn, .int .i64 g.ne], .int .i64 n] w fun e w' => e = .returned (.int .i64 (atOf g.nodes n)) ∧ Below w.heap.size w w' := by
  obtain ⟨⟨A1, c1, rfl⟩, ⟨A2, c2, rfl⟩⟩ := h.slices
  have H := Lib.hid h
  clear h
  go_enter Try.func81, Try.ntmps81
  go_wp2
  go_loopw [10] (fun p wr => ∃ k : Nat, k ≤ g.nodes.length ∧ p = .int .i64 (k : Int) ∧ Hid (∀ (i : Nat) (x : NodeD), i < k → g.nodes[i]? = some x → (x.id == n) = false) ∧ Hid (Below w.heap.size w wr)) (fun p _ => g.nodes.length - (intOf p).toNat)
  case atStart => exact ⟨0, by omega, rfl, (fun i x h => by omega), Below.heap1 w _⟩
  case round =>
    obtain ⟨wa, rfl⟩ : ∃ wa, wa = wr := ⟨wr, rfl⟩
    obtain ⟨k, hk, rfl, hall, hb⟩ := hrel
    have hwr := hb.out.size
    by_cases hlt : k < g.nodes.length
    · obtain ⟨x, hx⟩ := getElem?_of_lt hlt
      obtain ⟨b, off, a, d, rfl, _, hbl, hr, x0, x1⟩ := (H.out.below hb.out).atN hx
      have HX := Lib.hid hx
      clear hx hr
      have g1 : wa.heap.size < wa.heap.size + 1 := by omega
      have g2 : b < wa.heap.size + 1 := by omega
      by_cases hp : x.id = n
      · have HI := Lib.hid (show atOf g.nodes n = (k : Int) from idxB_at HX.out (beq_iff_eq.mpr hp) hall.out)
        replace hp : (x.id == n) = true := beq_iff_eq.mpr hp
        go_wp2
        go_ret
        exact ⟨by rw [HI.out]; rfl, hb.out.alloc (by omega) _⟩
      · have HN := Lib.hid (show ∀ (i : Nat) (x : NodeD), i < k + 1 → g.nodes[i]? = some x → (x.id == n) = false from fun i y hi hy => by
          rcases Nat.lt_or_ge i k with h3 | h3
          · exact hall.out i y h3 hy
          · obtain rfl : i = k := by omega
            rw [HX.out] at hy
            injection hy with hy
            subst hy
            exact beq_eq_false_iff_ne.mpr hp)
        replace hp : (x.id == n) = false := beq_eq_false_iff_ne.mpr hp
        go_wp2
        go_roundw
        case rel => exact ⟨k + 1, by omega, by first | (go_num; done) | (go_num; omega), HN, Lib.hid (hb.out.alloc (by omega) _)⟩
        case measure => simp [intOf]; omega
    · obtain rfl : k = g.nodes.length := by omega
      have HI := Lib.hid (show atOf g.nodes n = -1 from idxB_none fun i y hy => hall.out i y (List.getElem?_eq_some_iff.1 hy).1 hy)
      go_wp2
      go_ret
      exact ⟨by rw [HI.out]; rfl, hb.out⟩
/-- A configuration that may be. -/
def CfgD.ok (c : CfgD) : Prop := (1 ≤ c.nodes ∧ c.nodes ≤ 64) ∧ (1 ≤ c.edges ∧ c.edges ≤ 64) ∧ (1 ≤ c.props ∧ c.props ≤ 64) ∧ (1 ≤ c.ids ∧ c.ids ≤ 64) ∧ (1 ≤ c.eids ∧ c.eids ≤ 64)
def CfgD.nth (c : CfgD) : Nat → Int
  | 0 => c.nodes
  | 1 => c.edges
  | 2 => c.props
  | 3 => c.ids
  | _ => c.eids
theorem CfgD.ok_nth {c : CfgD} : c.ok ↔ ∀ i, i < 5 → 1 ≤ c.nth i ∧ c.nth i ≤ 64 := by
  constructor
  · rintro ⟨h0, h1, h2, h3, h4⟩ i hi
    rcases (by omega : i = 0 ∨ i = 1 ∨ i = 2 ∨ i = 3 ∨ i = 4) with rfl | rfl | rfl | rfl | rfl <;> assumption
  · intro h
    exact ⟨h 0 (by omega), h 1 (by omega), h 2 (by omega), h 3 (by omega), h 4 (by omega)⟩
set_option maxRecDepth 20000 in
set_option maxHeartbeats 8000000 in
theorem ref03_calls (w : World) (c : CfgD) : Calls Try.prog 52 #[c.val] w fun e w' => ∃ x : Int, e = .returned (.int .i64 x) ∧ ((x = 0 ∧ c.ok) ∨ (x = 1 ∧ ¬ c.ok)) ∧ Below w.heap.size w w' := by
  unfold CfgD.val
  have hcell : ∀ i, i < 5 → ((w.alloc (.cells #[.int .i64 c.nodes, .int .i64 c.edges, .int .i64 c.props, .int .i64 c.ids, .int .i64 c.eids] 23)).alloc (.cells #[.int .i64 c.nodes, .int .i64 c.edges, .int .i64 c.props, .int .i64 c.ids, .int .i64 c.eids] 3)).cell? ⟨w.heap.size + 1, i, none⟩ = some (.int .i64 (c.nth i)) := fun i hi => by
    rcases (by omega : i = 0 ∨ i = 1 ∨ i = 2 ∨ i = 3 ∨ i = 4) with rfl | rfl | rfl | rfl | rfl <;> simp [go_sem, CfgD.nth]
  have HC := Lib.hid hcell
  clear hcell
  go_enter Try.func52, Try.ntmps52
  go_wp2
  go_loopw [17] (fun p wr => ∃ k : Nat, k ≤ 5 ∧ p = .int .i64 (k : Int) ∧ Hid (∀ i, i < k → 1 ≤ c.nth i ∧ c.nth i ≤ 64) ∧ wr = ((w.alloc (.cells #[.int .i64 c.nodes, .int .i64 c.edges, .int .i64 c.props, .int .i64 c.ids, .int .i64 c.eids] 23)).alloc (.cells #[.int .i64 c.nodes, .int .i64 c.edges, .int .i64 c.props, .int .i64 c.ids, .int .i64 c.eids] 3))) (fun p _ => 5 - (intOf p).toNat)
  case atStart => exact ⟨0, by omega, rfl, (fun i h => by omega), rfl⟩
  case round =>
    obtain ⟨k, hk, rfl, hall, hww⟩ := hrel
    have HW := Lib.hid (show Below w.heap.size w wr by rw [hww]; exact ((Below.refl w.heap.size w).alloc (Nat.le_refl _) _).alloc (by simp) _)
    by_cases hlt : k < 5
    · have hc := HC.out k hlt
      rw [← hww] at hc
      have HWW := Lib.hid hww
      clear hww
      by_cases h1 : c.nth k < 1
      · have HN := Lib.hid (show ¬ c.ok from fun h => by have := CfgD.ok_nth.1 h k hlt; omega)
        go_wp2
        go_ret
        exact ⟨1, rfl, .inr ⟨rfl, HN.out⟩, HW.out⟩
      · by_cases h2 : 64 < c.nth k
        · have HN := Lib.hid (show ¬ c.ok from fun h => by have := CfgD.ok_nth.1 h k hlt; omega)
          have hd : decide (c.nth k < 1) = false := decide_eq_false h1
          go_wp2
          go_ret
          exact ⟨1, rfl, .inr ⟨rfl, HN.out⟩, HW.out⟩
        · have HN := Lib.hid (show ∀ i, i < k + 1 → 1 ≤ c.nth i ∧ c.nth i ≤ 64 from fun i hi => by
            rcases Nat.lt_or_ge i k with h3 | h3
            · exact hall.out i h3
            · obtain rfl : i = k := by omega
              omega)
          have hd : decide (c.nth k < 1) = false := decide_eq_false h1
          have hd2 : decide (64 < c.nth k) = false := decide_eq_false h2
          go_wp2
          go_roundw
          case rel => exact ⟨k + 1, by omega, by first | (go_num; done) | (go_num; omega), HN, HWW.out⟩
          case measure => simp [intOf]; omega
    · have HO := Lib.hid (CfgD.ok_nth.2 fun i hi => hall.out i (by omega))
      obtain rfl : k = 5 := by omega
      clear hww
      go_wp2
      go_ret
      exact ⟨0, rfl, .inl ⟨rfl, HO.out⟩, HW.out⟩
end Go.Proofs.Ytpehmmdbjakkpaa
