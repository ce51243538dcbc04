/- LinWrong: a result that no order can tell is told as such. -/
import Derived.Test.YtpehmmdbjakkpaaLinFoundW
import Derived.Test.YtpehmmdbjakkpaaHistM
namespace Go.Proofs.Ytpehmmdbjakkpaa
open Go.RowKit Go.Shelf
set_option linter.unusedSimpArgs false
set_option linter.unusedVariables false
theorem elemEv : ElemOf Try.prog 88 96 tEv.sz 144 (.agg #[.int .i64 0, .bool false, .int .i64 0, .int .i64 0, .int .i64 0, .int .i64 0, .int .i64 0, .int .i64 0, .int .i64 0, .slice none 0 0, .slice none 0 0, .slice none 0 0]) := ⟨Try.underlying88, by kernel_rfl, rfl⟩
theorem Own.setEv {w : World} {e : TypeId} {S : Nat → Prop} {g n c : Nat} {xs : List EvD} (h : Own tEv e w S (.slice (some ⟨g, 0, none⟩) n c) xs) {p : Nat} {y : EvD} (hy : xs[p]? = some y) (r : ResD) {vp vo vi : Value} (hv : Sl w (fun k => S k ∧ k ≠ g) r vp vo vi) :
    Own tEv e (((((w.setCell ⟨g, p * 12 + 7, none⟩ (.int .i64 r.st)).setCell ⟨g, p * 12 + 8, none⟩ (.int .i64 r.id)).setCell ⟨g, p * 12 + 9, none⟩ vp).setCell ⟨g, p * 12 + 10, none⟩ vo).setCell ⟨g, p * 12 + 11, none⟩ vi) S (.slice (some ⟨g, 0, none⟩) n c) (xs.set p ⟨y.th, y.done, y.op, r⟩) := by
  obtain ⟨hS, inner, ho, hk⟩ := h
  have hn : n = xs.length := by
    rcases ho.2 with ⟨h1, _⟩ | ⟨_, _, _, h1, _⟩
    · simp at h1
    · injection h1
  subst hn
  have hp : p < xs.length := (List.getElem?_eq_some_iff.1 hy).1
  have hs : Same (fun k => S k ∧ (Value.slice (some ⟨g, 0, none⟩) xs.length c).ownBlock ≠ some k) w (((((w.setCell ⟨g, p * 12 + 7, none⟩ (.int .i64 r.st)).setCell ⟨g, p * 12 + 8, none⟩ (.int .i64 r.id)).setCell ⟨g, p * 12 + 9, none⟩ vp).setCell ⟨g, p * 12 + 10, none⟩ vo).setCell ⟨g, p * 12 + 11, none⟩ vi) := by
    intro k hk hl
    have hne : k ≠ g := fun e => hk.2 (by rw [e]; rfl)
    rw [Below.heap_setCell _ ⟨g, p * 12 + 11, none⟩ _ k hne, Below.heap_setCell _ ⟨g, p * 12 + 10, none⟩ _ k hne, Below.heap_setCell _ ⟨g, p * 12 + 9, none⟩ _ k hne, Below.heap_setCell _ ⟨g, p * 12 + 8, none⟩ _ k hne, Below.heap_setCell _ ⟨g, p * 12 + 7, none⟩ _ k hne]
  have ho6 := ((((((ho.stored (p * 12 + 7) (.int .i64 r.st)).1.stored (p * 12 + 8) (.int .i64 r.id)).1).stored (p * 12 + 9) vp).1.stored (p * 12 + 10) vo).1.stored (p * 12 + 11) vi).1
  refine ⟨hS, _, by rw [List.length_set]; exact ho6, fun j x hj => ?_⟩
  have hsz : tEv.sz = 12 := rfl
  rw [hsz]
  rw [List.getElem?_set] at hj
  simp only [drop_take_set]
  by_cases hjp : p = j
  · subst hjp
    rw [if_pos rfl, if_pos hp] at hj
    injection hj with hj
    subst hj
    obtain ⟨p0, o0, i0, _, hc⟩ := hk p y hy
    rw [hsz] at hc
    have f : ∀ q, q < 12 → (p * 12 ≤ p * 12 + q ∧ p * 12 + q < p * 12 + 12) := fun q hq => by omega
    have g' : ∀ q, p * 12 + q - p * 12 = q := fun q => by omega
    rw [if_pos (f 11 (by omega)), if_pos (f 10 (by omega)), if_pos (f 9 (by omega)), if_pos (f 8 (by omega)), if_pos (f 7 (by omega)), g', g', g', g', g', hc]
    refine ⟨vp, vo, vi, (hv.mono fun k hk _ => ⟨hk.1, fun e => hk.2 (by have := Option.some.inj e; exact this.symm)⟩).move hs, rfl⟩
  · rw [if_neg hjp] at hj
    have f : ∀ q, q < 12 → ¬ (j * 12 ≤ p * 12 + q ∧ p * 12 + q < j * 12 + 12) := fun q hq => by omega
    rw [if_neg (f 11 (by omega)), if_neg (f 10 (by omega)), if_neg (f 9 (by omega)), if_neg (f 8 (by omega)), if_neg (f 7 (by omega))]
    have := hk j x hj
    rw [hsz] at this
    exact tEv.move hs this
theorem Own.atEv {e : TypeId} {w : World} {S : Nat → Prop} {g n c : Nat} {xs : List EvD} (h : Own tEv e w S (.slice (some ⟨g, 0, none⟩) n c) xs) {j : Nat} {y : EvD} (hj : xs[j]? = some y) :
    ∃ p o i, w.cell? ⟨g, j * 12 + 7, none⟩ = some (.int .i64 y.res.st) ∧ w.cell? ⟨g, j * 12 + 8, none⟩ = some (.int .i64 y.res.id) ∧ w.cell? ⟨g, j * 12 + 9, none⟩ = some p ∧ w.cell? ⟨g, j * 12 + 10, none⟩ = some o ∧ w.cell? ⟨g, j * 12 + 11, none⟩ = some i := by
  obtain ⟨b, off, cs, hA, _, hl, ⟨p, o, i, hs, rfl⟩, hr⟩ := h.row.at hj
  injection hA with hA
  injection hA with h1 h2
  subst h1 h2
  rw [Nat.zero_add] at hr
  have hz : tEv.sz = 12 := rfl
  rw [hz] at hr
  exact ⟨p, o, i, hr 7 _ rfl, hr 8 _ rfl, hr 9 _ rfl, hr 10 _ rfl, hr 11 _ rfl⟩
set_option maxRecDepth 100000 in
set_option maxHeartbeats 16000000 in
theorem linWrong_walk (w : World) (c : CfgD) (v : Value) (l : List EvD) (hr : Row tEv w (fun _ => True) v l) (okl : ∀ x ∈ l, okI x.th) (n : Int) (okn : okI n) : Calls Try.prog 17 #[c.val, v, .int .i64 n] w fun e w' => e = .returned (.bool true) ∧ Below w.heap.size w w' := by
  obtain ⟨A, cA, rfl⟩ := hr.slice
  have H := Lib.hid hr
  have OK := Lib.hid okl
  clear hr okl
  unfold CfgD.val
  obtain ⟨W0, hW⟩ : ∃ W0, W0 = w.alloc (.cells #[.int .i64 c.nodes, .int .i64 c.edges, .int .i64 c.props, .int .i64 c.ids, .int .i64 c.eids] 23) := ⟨_, rfl⟩
  have K0 := Lib.hid (show Below w.heap.size w W0 by rw [hW]; exact (Below.refl _ w).alloc (Nat.le_refl _) _)
  have s0 : w.heap.size < W0.heap.size := by rw [hW]; simp
  have C0 := Lib.hid (show Box5 W0 w.heap.size _ _ _ _ _ from Box5.of (n := 23) (by rw [hW]; exact heap_alloc_new w _))
  go_enter Try.func17, Try.ntmps17
  go_wp2_with fail
  rw [← hW]
  clear hW
  refine (live13_calls W0).mono ?_
  rintro e w1 ⟨rfl, hb⟩
  have K1 := Lib.hid (K0.out.trans (hb.mono K0.out.size))
  have C1 := Lib.hid (C0.out.keep (hb.block _ s0))
  have s1 := hb.size
  clear hb C0
  go_wp2_with fail
  refine (few13_calls w1 _ _ l 6 (by omega) (H.out.below K1.out)).mono ?_
  rintro e w2 ⟨rfl, hb⟩
  have K2 := Lib.hid (K1.out.trans (hb.mono K1.out.size))
  have C2 := Lib.hid (C1.out.keep (hb.block _ (by omega)))
  have s2 := hb.size
  clear hb C1
  cases hf : few13 l 6
  case false =>
    clear hf
    go_wp2
    go_ret
    exact ⟨rfl, K2.out⟩
  obtain ⟨hfew, hlen⟩ := few13_ok (by omega) hf
  have HFW := Lib.hid hfew
  have hlen6 : l.length ≤ 12 := by have := (few13_few hf).2.1; omega
  clear hf hfew
  go_wp2_with fail
  refine (hcheck_calls w2 _ _ l (H.out.below K2.out) hlen HFW.out OK.out).mono ?_
  rintro e w3 ⟨rfl, hb⟩
  have K3 := Lib.hid (K2.out.trans (hb.mono K2.out.size))
  have C3 := Lib.hid (C2.out.keep (hb.block _ (by omega)))
  have s3 := hb.size
  clear hb C2
  by_cases he : errOf (runL l) = 0
  case neg =>
    have he1 : errOf (runL l) = 1 := by cases hx : runL l <;> simp [errOf, hx] at he ⊢
    rw [he1]
    clear he he1
    go_wp2
    go_ret
    exact ⟨rfl, K3.out⟩
  rw [he]
  clear he
  by_cases n1 : n < 0
  · go_wp2
    go_ret
    exact ⟨rfl, K3.out⟩
  by_cases n2 : (l.length : Int) ≤ n
  · go_wp2
    go_ret
    exact ⟨rfl, K3.out⟩
  obtain ⟨k, rfl⟩ : ∃ k : Nat, n = (k : Int) := ⟨n.toNat, by omega⟩
  obtain ⟨x, hx⟩ := getElem?_of_lt (show k < l.length by omega)
  obtain ⟨b, off, a1, d1, a2, d2, a3, d3, rfl, hbl, _, x0, x1, x2, x3, x4, x5, x6, x7, x8, x9, x10, x11⟩ := (H.out.below K3.out).atEvF hx
  have HX := Lib.hid hx
  clear hx
  cases hd : x.done
  · rw [hd] at x1
    go_wp2
    go_ret
    exact ⟨rfl, K3.out⟩
  have HD := Lib.hid hd
  rw [hd] at x1
  clear hd
  have HR := Lib.hid (H.out.below K3.out)
  go_wp2_with (at_builtin; refine wpList_own_append (ty := tEv) (W := w3) (S := fun _ => True) (Sy := fun _ => True) (v := .slice none 0 0) (xs := []) (ys := l) rfl _ _ 88 96 144 _ rfl elemEv rfl (Own.nil _ _ _ _) (some ⟨b, off, none⟩) l.length cA rfl HR.out rfl ?bb ?bl trivial (fun _ _ _ => ⟨trivial, by simp [Value.ownBlock]⟩) ?_)
  case bb => simp; omega
  case bl => unfold maxLen; simp; omega
  intro v1 w4 hown hg hor
  obtain ⟨B, d, rfl⟩ := hown.slice
  obtain ⟨g, rfl, _, hgl⟩ := hown.head (by omega)
  have hgg : g = w3.heap.size := by
    rcases hor with h | h
    · simp [Value.ownBlock] at h
    · simpa [Value.ownBlock] using h
  have hb : Below w3.heap.size w3 w4 := (Below.refl _ w3).grown hg (Nat.le_refl _) (fun k hk => by simp [Value.ownBlock] at hk)
  have K4 := Lib.hid (K3.out.trans (hb.mono K3.out.size))
  have C4 := Lib.hid (C3.out.keep (hb.block _ (by omega)))
  have HO := Lib.hid hown
  have sK3 := K3.out.size
  have hgw : w.heap.size < g := by omega
  clear hgg
  obtain ⟨p, o, i, y0, y1, y2, y3, y4⟩ := hown.atEv HX.out
  have fz := fun j => hown.frozenC j
  obtain ⟨Y0, Y1, Y2, Y3, Y4, FZ⟩ : Hid (w4.cell? ⟨g, k * 12 + 7, none⟩ = _) ∧ Hid (w4.cell? ⟨g, k * 12 + 8, none⟩ = _) ∧ Hid (w4.cell? ⟨g, k * 12 + 9, none⟩ = _) ∧ Hid (w4.cell? ⟨g, k * 12 + 10, none⟩ = _) ∧ Hid (w4.cell? ⟨g, k * 12 + 11, none⟩ = _) ∧ Hid (∀ j, w4.frozen? ⟨g, j, none⟩ = false) := ⟨Lib.hid y0, Lib.hid y1, Lib.hid y2, Lib.hid y3, Lib.hid y4, Lib.hid fz⟩
  clear hown hg hor hb C3 y0 y1 y2 y3 y4 fz x0 x1 x2 x3 x4 x5 x6 x7 x8 x9 x10 x11
  go_wp2_with (refine wpList_storeR (g := g) (off := k * 12 + 7) rfl _ _ rfl rfl rfl Y0.out Y1.out Y2.out Y3.out Y4.out FZ.out ?_)
  intro w5 HW5
  have HO5 := Lib.hid (show Own tEv 96 w5 (fun _ => True) (.slice (some ⟨g, 0, none⟩) l.length d) (l.set k ⟨x.th, x.done, x.op, badR⟩) from by
    rw [HW5.out]
    exact HO.out.setEv HX.out badR ⟨Row.nil _ _ _, Row.nil _ _ _, Row.nil _ _ _⟩)
  have K5 := Lib.hid (show Below w.heap.size w w5 from by
    rw [HW5.out]
    exact ((((K4.out.setCell (p := ⟨g, _, none⟩) (Nat.le_of_lt hgw) _).setCell (p := ⟨g, _, none⟩) (Nat.le_of_lt hgw) _).setCell (p := ⟨g, _, none⟩) (Nat.le_of_lt hgw) _).setCell (p := ⟨g, _, none⟩) (Nat.le_of_lt hgw) _).setCell (p := ⟨g, _, none⟩) (Nat.le_of_lt hgw) _)
  have C5 := Lib.hid (C4.out.keep (W' := w5) (by
    have hne : w.heap.size ≠ g := by omega
    rw [HW5.out, Below.heap_setCell _ ⟨g, _, none⟩ _ _ hne, Below.heap_setCell _ ⟨g, _, none⟩ _ _ hne, Below.heap_setCell _ ⟨g, _, none⟩ _ _ hne, Below.heap_setCell _ ⟨g, _, none⟩ _ _ hne, Below.heap_setCell _ ⟨g, _, none⟩ _ _ hne]))
  have z5 : w5.heap.size = w4.heap.size := by rw [HW5.out]; simp [World.setCell]
  have l5 : w.heap.size < w5.heap.size := by omega
  have HBAD := Lib.hid (wrong_law (c := c) (l := l.set k ⟨x.th, x.done, x.op, badR⟩) (k := k) (x := ⟨x.th, x.done, x.op, badR⟩) (by rw [List.getElem?_set_self]; omega) HD.out rfl)
  clear HW5 Y0 Y1 Y2 Y3 Y4 FZ C4 HO K4
  obtain ⟨c0, c1, c2, c3, c4, cf⟩ := C5.out
  go_wp2_with fail
  refine (search_calls w5 _ c _ (l.set k ⟨x.th, x.done, x.op, badR⟩) HO5.out.row (by rw [List.length_set]; exact hlen) (fun y hy => ?_) (fun y hy => ?_)).mono ?_
  · rcases List.mem_or_eq_of_mem_set hy with hy | rfl
    · exact HFW.out y hy
    · exact ⟨by simp [badR], by simp [badR], by simp [badR]⟩
  · rcases List.mem_or_eq_of_mem_set hy with hy | rfl
    · exact OK.out y hy
    · exact OK.out x (List.mem_of_getElem? HX.out)
  rintro e w6 hp
  have hbad := HBAD.out
  have hbad2 := found_bad (r := startD c (l.set k ⟨x.th, x.done, x.op, badR⟩)) (good := fun _ => true) hbad.1
  obtain ⟨r, hrr⟩ : ∃ r, r = firstD (startD c (l.set k ⟨x.th, x.done, x.op, badR⟩)) fun _ => true := ⟨_, rfl⟩
  rw [← hrr] at hp hbad2
  obtain ⟨vo, vn, ve, rfl, hro, hgr, hb⟩ := hp
  obtain ⟨y, e⟩ := r
  simp only at hro hgr hbad2 ⊢
  obtain ⟨ho, hee⟩ := hbad2
  obtain ⟨⟨A3, c3', rfl⟩, ⟨A4, c4', rfl⟩⟩ := hgr.slices
  obtain ⟨A5, c5, rfl⟩ := hro.slice
  have ho2 : y.order.length = 0 := by rw [ho]; rfl
  rw [ho2]
  have K6 := Lib.hid (K5.out.trans (hb.mono K5.out.size))
  clear hb hro hgr hbad hrr HBAD c0 c1 c2 c3 c4 cf
  rcases hee with rfl | rfl
  · go_wp2
    go_ret
    exact ⟨rfl, K6.out.alloc K6.out.size _⟩
  · go_wp2
    go_ret
    exact ⟨rfl, K6.out.alloc K6.out.size _⟩
end Go.Proofs.Ytpehmmdbjakkpaa
