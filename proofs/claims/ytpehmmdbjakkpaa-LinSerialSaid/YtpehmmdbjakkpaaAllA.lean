/- apply.All. -/
import Derived.Test.YtpehmmdbjakkpaaOpTy
namespace Go.Proofs.Ytpehmmdbjakkpaa
open Go.RowKit Go.Shelf
set_option linter.unusedSimpArgs false
set_option linter.unusedVariables false
/-- What lies ready from the start on. -/
structure AB (w : World) (c : CfgD) (l : List OpD) (vl : Value) (W : World) : Prop where
  K : Below w.heap.size w W
  hl : w.heap.size + 2 ≤ W.heap.size
  cf : Box5 W w.heap.size (.int .i64 c.nodes) (.int .i64 c.edges) (.int .i64 c.props) (.int .i64 c.ids) (.int .i64 c.eids)
  b4 : Box4 W (w.heap.size + 1) (.slice none 0 0) (.slice none 0 0) (.int .i64 0) (.int .i64 0)
  row : Row tOp W (fun j => j < w.heap.size) vl l
structure GZ (w : World) (b : Nat) (n : Int) (W : World) : Prop where
  lt : b < W.heap.size
  ge : w.heap.size + 2 ≤ b
  box : Box4 W b (.slice none 0 0) (.slice none 0 0) (.int .i64 n) (.int .i64 n)
structure RZ (w : World) (b n : Nat) (W : World) : Prop where
  lt : b < W.heap.size
  ge : w.heap.size + 2 ≤ b
  own : Own tRV 75 W (fun j => j = b) (.slice (some ⟨b, 0, none⟩) n n) (List.replicate n RV.zero)
/-- .. in the loop. -/
structure AL (w : World) (c : CfgD) (l : List OpD) (vl : Value) (bG bR : Nat) (g : GraphD) (rs : List ResD) (W : World) : Prop where
  ab : AB w c l vl W
  lg : bG < W.heap.size ∧ w.heap.size + 2 ≤ bG
  lr : bR < W.heap.size ∧ w.heap.size + 2 ≤ bR
  gr : ∃ vn ve, Box4 W bG vn ve (.int .i64 g.nn) (.int .i64 g.ne) ∧ Gr W (fun j => w.heap.size + 2 ≤ j ∧ j ≠ bG ∧ j ≠ bR) g vn ve
  rs : ∃ rvs, Own tRV 75 W (fun j => j = bR) (.slice (some ⟨bR, 0, none⟩) l.length l.length) rvs ∧ RVs W (fun j => w.heap.size + 2 ≤ j ∧ j ≠ bG ∧ j ≠ bR) rvs rs
section
variable {w : World} {c : CfgD} {l : List OpD} {vl : Value} {W W' : World} {bG bR : Nat}
theorem AB.below (h : AB w c l vl W) (hb : Below W.heap.size W W') : AB w c l vl W' := by
  have h1 := h.hl
  exact ⟨h.K.trans (hb.mono h.K.size), Nat.le_trans h1 hb.size, h.cf.keep (hb.block _ (by omega)), h.b4.keep (hb.block _ (by omega)), h.row.below hb⟩
/-- Blocks from w.heap.size + 2 on may be written. -/
theorem AB.move (h : AB w c l vl W) (hK : Below w.heap.size w W') (hs : ∀ j, j < w.heap.size + 2 → W'.heap[j]? = W.heap[j]?) (hz : W.heap.size ≤ W'.heap.size) : AB w c l vl W' := by
  have h1 := h.hl
  exact ⟨hK, by omega, h.cf.keep (hs _ (by omega)), h.b4.keep (hs _ (by omega)), h.row.move fun j hj _ => hs j (by (try simp only at hj); omega)⟩
theorem GZ.below {n : Int} (h : GZ w bG n W) (hb : Below W.heap.size W W') : GZ w bG n W' := ⟨Nat.lt_of_lt_of_le h.lt hb.size, h.ge, h.box.keep (hb.block _ h.lt)⟩
theorem RZ.below {n : Nat} (h : RZ w bR n W) (hb : Below W.heap.size W W') : RZ w bR n W' := ⟨Nat.lt_of_lt_of_le h.lt hb.size, h.ge, h.own.below hb⟩
theorem AL.below {g : GraphD} {rs : List ResD} (h : AL w c l vl bG bR g rs W) (hb : Below W.heap.size W W') : AL w c l vl bG bR g rs W' := by
  obtain ⟨vn, ve, h1, h2⟩ := h.gr
  obtain ⟨rvs, h3, h4⟩ := h.rs
  exact ⟨h.ab.below hb, ⟨Nat.lt_of_lt_of_le h.lg.1 hb.size, h.lg.2⟩, ⟨Nat.lt_of_lt_of_le h.lr.1 hb.size, h.lr.2⟩, ⟨vn, ve, h1.keep (hb.block _ h.lg.1), h2.below hb⟩, ⟨rvs, h3.below hb, h4.below hb⟩⟩
/-- One operation is done: the graph's box and the result's place are written. -/
theorem AL.next {g z : GraphD} {rs rs' : List ResD} {r : ResD} {W1 : World} {zn ze : Value} {a1 a2 a3 : Option Addr} {d1 d2 d3 : Nat} {m k : Nat} (h : AL w c l vl bG bR g (rs ++ List.replicate (m + 1) ResD.nil) W) (hne : bG ≠ bR) (hrk : rs.length = k) (hrs : (rs ++ [r]) ++ List.replicate m ResD.nil = rs') (hz : Gr W (fun j => W1.heap.size ≤ j) z zn ze)
    (hr : Res W (fun j => W1.heap.size ≤ j) r (.agg #[.int .i64 r.st, .int .i64 r.id, .slice a1 r.ps.length d1, .slice a2 r.os.length d2, .slice a3 r.is.length d3])) (hW : bG < W1.heap.size ∧ bR < W1.heap.size) :
    AL w c l vl bG bR z rs' ((((((set4 W bG zn ze (.int .i64 z.nn) (.int .i64 z.ne)).setCell ⟨bR, k * 5 + 0, none⟩ (.int .i64 r.st)).setCell ⟨bR, k * 5 + 1, none⟩ (.int .i64 r.id)).setCell ⟨bR, k * 5 + 2, none⟩ (.slice a1 r.ps.length d1)).setCell ⟨bR, k * 5 + 3, none⟩ (.slice a2 r.os.length d2)).setCell ⟨bR, k * 5 + 4, none⟩ (.slice a3 r.is.length d3)) := by
  obtain ⟨vn, ve, h1, h2⟩ := h.gr
  obtain ⟨rvs, h3, h4⟩ := h.rs
  have hlg := h.lg
  have hlr := h.lr
  have hb4 : Below w.heap.size w (set4 W bG zn ze (.int .i64 z.nn) (.int .i64 z.ne)) := set4_below h.ab.K (by omega) _ _ _ _
  have k4 : ∀ j, j ≠ bG → (set4 W bG zn ze (.int .i64 z.nn) (.int .i64 z.ne)).heap[j]? = W.heap[j]? := fun j hj => set4_heap _ _ _ _ _ _ _ hj
  have s4 : (set4 W bG zn ze (.int .i64 z.nn) (.int .i64 z.ne)).heap.size = W.heap.size := set4_size _ _ _ _ _ _
  have hbox := h1.set zn ze (.int .i64 z.nn) (.int .i64 z.ne)
  generalize set4 W bG zn ze (.int .i64 z.nn) (.int .i64 z.ne) = V at *
  have hv := RV1.of hr
  have hlen : k < rvs.length := by rw [h4.1]; simp; omega
  have ho : Own tRV 75 V (fun j => j = bR) (.slice (some ⟨bR, 0, none⟩) l.length l.length) rvs := h3.move fun j hj _ => k4 j (by (try simp only at hj); omega)
  have ho2 := ho.setR hlen ⟨r.st, r.id, a1, r.ps.length, d1, a2, r.os.length, d2, a3, r.is.length, d3⟩
  have hbV : Below w.heap.size w (((((V.setCell ⟨bR, k * 5 + 0, none⟩ (.int .i64 r.st)).setCell ⟨bR, k * 5 + 1, none⟩ (.int .i64 r.id)).setCell ⟨bR, k * 5 + 2, none⟩ (.slice a1 r.ps.length d1)).setCell ⟨bR, k * 5 + 3, none⟩ (.slice a2 r.os.length d2)).setCell ⟨bR, k * 5 + 4, none⟩ (.slice a3 r.is.length d3)) :=
    ((((hb4.setCell (p := ⟨bR, k * 5 + 0, none⟩) (by simp only; omega) _).setCell (p := ⟨bR, k * 5 + 1, none⟩) (by simp only; omega) _).setCell (p := ⟨bR, k * 5 + 2, none⟩) (by simp only; omega) _).setCell (p := ⟨bR, k * 5 + 3, none⟩) (by simp only; omega) _).setCell (p := ⟨bR, k * 5 + 4, none⟩) (by simp only; omega) _
  have kV : ∀ j, j ≠ bR → (((((V.setCell ⟨bR, k * 5 + 0, none⟩ (.int .i64 r.st)).setCell ⟨bR, k * 5 + 1, none⟩ (.int .i64 r.id)).setCell ⟨bR, k * 5 + 2, none⟩ (.slice a1 r.ps.length d1)).setCell ⟨bR, k * 5 + 3, none⟩ (.slice a2 r.os.length d2)).setCell ⟨bR, k * 5 + 4, none⟩ (.slice a3 r.is.length d3)).heap[j]? = V.heap[j]? := fun j hj => by
    rw [Below.heap_setCell _ ⟨bR, k * 5 + 4, none⟩ _ j hj, Below.heap_setCell _ ⟨bR, k * 5 + 3, none⟩ _ j hj, Below.heap_setCell _ ⟨bR, k * 5 + 2, none⟩ _ j hj, Below.heap_setCell _ ⟨bR, k * 5 + 1, none⟩ _ j hj, Below.heap_setCell _ ⟨bR, k * 5 + 0, none⟩ _ j hj]
  have sV : (((((V.setCell ⟨bR, k * 5 + 0, none⟩ (.int .i64 r.st)).setCell ⟨bR, k * 5 + 1, none⟩ (.int .i64 r.id)).setCell ⟨bR, k * 5 + 2, none⟩ (.slice a1 r.ps.length d1)).setCell ⟨bR, k * 5 + 3, none⟩ (.slice a2 r.os.length d2)).setCell ⟨bR, k * 5 + 4, none⟩ (.slice a3 r.is.length d3)).heap.size = V.heap.size := by simp
  generalize ((((V.setCell ⟨bR, k * 5 + 0, none⟩ (.int .i64 r.st)).setCell ⟨bR, k * 5 + 1, none⟩ (.int .i64 r.id)).setCell ⟨bR, k * 5 + 2, none⟩ (.slice a1 r.ps.length d1)).setCell ⟨bR, k * 5 + 3, none⟩ (.slice a2 r.os.length d2)).setCell ⟨bR, k * 5 + 4, none⟩ (.slice a3 r.is.length d3) = U at *
  have kU : ∀ j, j ≠ bG → j ≠ bR → U.heap[j]? = W.heap[j]? := fun j h5 h6 => (kV j h6).trans (k4 j h5)
  have hhl := h.ab.hl
  refine ⟨h.ab.move hbV (fun j hj => kU j (by omega) (by omega)) (by omega), ⟨by omega, hlg.2⟩, ⟨by omega, hlr.2⟩, ⟨zn, ze, hbox.keep (kV bG hne), ?_⟩, ⟨_, ho2, ?_⟩⟩
  · exact (hz.move (w' := U) fun j hj _ => kU j (by (try simp only at hj); omega) (by (try simp only at hj); omega)).mono fun j hj _ => ⟨by (try simp only at hj); omega, by (try simp only at hj); omega, by (try simp only at hj); omega⟩
  · have hv2 : RV1 U (fun j => w.heap.size + 2 ≤ j ∧ j ≠ bG ∧ j ≠ bR) _ r := (hv.move (w' := U) fun j hj _ => kU j (by (try simp only at hj); omega) (by (try simp only at hj); omega)).mono fun j hj _ => ⟨by (try simp only at hj); omega, by (try simp only at hj); omega, by (try simp only at hj); omega⟩
    have h5 := (h4.move (w' := U) fun j hj _ => kU j hj.2.1 hj.2.2).put hv2 k
    rw [← hrs, ← put_next, hrk]
    exact h5
end
set_option maxRecDepth 100000 in
set_option maxHeartbeats 16000000 in
theorem all_calls (w : World) (S : Nat → Prop) (c : CfgD) (l : List OpD) (vl : Value) (hl : Row tOp w S vl l) (hc : c.ok) (hn : l.length ≤ 60) : Calls Try.prog 53 #[c.val, vl] w (AllPost w (stG c .new l l.length) (resG c .new l l.length)) := by
  obtain ⟨A1, c1, rfl⟩ := hl.slice
  have HC := Lib.hid hc
  obtain ⟨W0, hW⟩ : ∃ W0, W0 = (w.alloc (.cells #[.int .i64 c.nodes, .int .i64 c.edges, .int .i64 c.props, .int .i64 c.ids, .int .i64 c.eids] 23)).alloc (.cells #[.slice none 0 0, .slice none 0 0, .int .i64 0, .int .i64 0] 27) := ⟨_, rfl⟩
  have hb0 : Below w.heap.size w W0 := by rw [hW]; exact (by repeat (first | (with_reducible exact Below.refl _ _) | (with_reducible exact Below.refl _ _) | (with_reducible refine Below.drew ?_) | (with_reducible refine Below.alloc ?_ (by simp; try omega) _) | (with_reducible refine Below.setCell ?_ (by simp; try omega) _)))
  have s0 : W0.heap.size = w.heap.size + 2 := by rw [hW]; simp
  have AB0 := Lib.hid (show AB w c l (.slice A1 l.length c1) W0 from ⟨hb0, by omega, Box5.of (n := 23) (by rw [hW]; exact (Below.heap_alloc _ _ _ (by simp)).trans (heap_alloc_new w _)), Box4.of (n := 27) (by
    rw [hW]
    have := heap_alloc_new (w.alloc (.cells #[.int .i64 c.nodes, .int .i64 c.edges, .int .i64 c.props, .int .i64 c.ids, .int .i64 c.eids] 23)) (.cells #[.slice none 0 0, .slice none 0 0, .int .i64 0, .int .i64 0] 27)
    rw [World.size_alloc] at this
    exact this), (hl.bound.mono (S' := fun j => j < w.heap.size) fun j hj _ => hj.2).below hb0⟩)
  clear hl hc hb0
  unfold CfgD.val
  go_enter Try.func53, Try.ntmps53
  go_wp2
  rw [← hW]
  clear hW
  refine wp_region_tr3 (fun _ => True) (.take 1 (.take 2 (.three 0 (.two 3 (.step 4 (.step 5 (.take 6 .nil))) 4 (.two 3 (.step 5 (.take 6 .nil)) 5 (.step 3 (.take 6 .nil)))) 3 (.two 0 (.step 4 (.step 5 (.take 6 .nil))) 4 (.step 0 (.step 5 (.take 6 .nil)))) 4 (.two 0 (.two 3 (.step 5 (.take 6 .nil)) 5 (.step 3 (.take 6 .nil))) 3 (.step 0 (.step 5 (.take 6 .nil))))))) (by kernel_rfl) (by kernel_rfl) (fun hS => ?_)
  have HK := Lib.hid hS
  clear hS
  have B0 := Lib.hid (AB0.out.below (Below.refl W0.heap.size W0).drew)
  have z0 : w.heap.size + 2 ≤ W0.drew.heap.size := by simp; omega
  have s1 : W0.heap.size ≤ w.heap.size + 2 := by omega
  clear AB0 s0
  revert HK B0 z0
  generalize W0.drew = V0
  intro HK B0 z0
  have hmk : ∀ W : World, (Instr.makeSlice 67 (.int .i64 (l.length : Int)) (.int .i64 (l.length : Int))).run Try.prog W = .ok (.slice (some ⟨W.heap.size, 0, none⟩) l.length l.length) (W.alloc (.cells (madeCells zeroR (l.length * 5)) 75)) := fun W => makeR_run W l.length (by omega)
  rename_i Kr ar
  have CUT0 : ∀ (u0 u3 u5 u8 u9 u10 u11 u12 u13 u14 u15 u16 u17 u18 u19 u20 u21 u22 u23 u24 u25 u26 u27 u28 u29 u30 u31 u32 u33 : Value) (bG bR : Nat) (W : World), AB w c l (.slice A1 l.length c1) W → GZ w bG 1 W → RZ w bR l.length W → bG ≠ bR → Kr {tmps := #[u0, .slice A1 l.length c1, .pointer (some ⟨w.heap.size, 0, none⟩), u3, .pointer (some ⟨w.heap.size + 1, 0, none⟩), u5, .pointer (some ⟨bG, 0, none⟩), .slice (some ⟨bR, 0, none⟩) l.length l.length, u8, u9, u10, u11, u12, u13, u14, u15, u16, u17, u18, u19, u20, u21, u22, u23, u24, u25, u26, u27, u28, u29, u30, u31, u32, u33], defers := []} W := by
    intro u0 u3 u5 u8 u9 u10 u11 u12 u13 u14 u15 u16 u17 u18 u19 u20 u21 u22 u23 u24 u25 u26 u27 u28 u29 u30 u31 u32 u33 bG bR W hab hgz hrz hne
    refine ar _ _ ?_
    have L0 := Lib.hid (show AL w c l (.slice A1 l.length c1) bG bR (stG c .new l 0) (resG c .new l 0 ++ List.replicate (l.length - 0) ResD.nil) W from ⟨hab, ⟨hgz.lt, hgz.ge⟩, ⟨hrz.lt, hrz.ge⟩, ⟨_, _, hgz.box, Gr.zero _ _ _ _⟩, ⟨_, hrz.own, by show RVs W _ _ (List.replicate l.length ResD.nil); exact RVs.zeros _ _ _⟩⟩)
    clear ar Kr hab hgz hrz HK B0 hmk z0 V0
    go_wp2
    go_loopw [16] (fun p wr => ∃ k : Nat, k ≤ l.length ∧ p = .int .i64 (k : Int) ∧ Hid (AL w c l (.slice A1 l.length c1) bG bR (stG c .new l k) (resG c .new l k ++ List.replicate (l.length - k) ResD.nil) wr)) (fun p wr => l.length - (intOf p).toNat)
    case atStart => exact ⟨0, Nat.zero_le _, rfl, L0⟩
    case round =>
      clear L0
      obtain ⟨wa, rfl⟩ : ∃ wa, wa = wr := ⟨wr, rfl⟩
      obtain ⟨k, hk, rfl, hal⟩ := hrel
      have hlg := hal.out.lg
      have hlr := hal.out.lr
      have hhl := hal.out.ab.hl
      by_cases hlt : k < l.length
      case neg =>
        obtain rfl : k = l.length := by omega
        obtain ⟨vn, ve, hbox, hgr⟩ := hal.out.gr
        obtain ⟨⟨A3, L3, c3, rfl⟩, A4, L4, c4, rfl⟩ := hgr.sl3
        have HGR := Lib.hid hgr
        obtain ⟨x0, x1, x2, x3, xf⟩ := hbox
        obtain ⟨y0, y1, y2, y3, yf⟩ := hal.out.ab.b4
        clear hgr
        have e1 : ¬ bG = w.heap.size + 1 := by omega
        have e2 : ¬ w.heap.size + 1 = bG := by omega
        go_wp2
        generalize hg : stG c .new l l.length = g at *
        generalize hrr : resG c .new l l.length = rs at *
        refine bodyPost_ret (v := .tuple #[.agg #[.slice A3 L3 c3, .slice A4 L4 c4, .int .i64 g.nn, .int .i64 g.ne], .slice (some ⟨bR, 0, none⟩) l.length l.length]) (by simp [results, Try.results53, go_sem, y0, y1, y2, y3]; try rfl) rfl ?_
        obtain ⟨rvs, ho, hrv⟩ := hal.out.rs
        rw [Nat.sub_self, List.replicate_zero, List.append_nil] at hrv
        have hs4 : ∀ j, j ≠ w.heap.size + 1 → (set4 wa (w.heap.size + 1) (.slice A3 L3 c3) (.slice A4 L4 c4) (.int .i64 g.nn) (.int .i64 g.ne)).heap[j]? = wa.heap[j]? := fun j hj => set4_heap _ _ _ _ _ _ _ hj
        refine ⟨_, _, _, rvs, rfl, (HGR.out.move (w' := set4 wa (w.heap.size + 1) _ _ _ _) fun j hj _ => hs4 j (by (try simp only at hj); omega)).mono fun j hj _ => ⟨by (try simp only at hj); omega, fun e => hj.2.2 (by injection e with e; exact e.symm)⟩, (ho.move (w' := set4 wa (w.heap.size + 1) _ _ _ _) fun j hj _ => hs4 j (by (try simp only at hj); omega)).mono fun j hj _ => by (try simp only at hj); omega, (hrv.move (w' := set4 wa (w.heap.size + 1) _ _ _ _) fun j hj _ => hs4 j (by (try simp only at hj); omega)).mono fun j hj _ => ⟨by (try simp only at hj); omega, fun e => hj.2.2 (by injection e with e; exact e.symm)⟩, set4_below hal.out.ab.K (by omega) _ _ _ _⟩
      obtain ⟨x, hx⟩ := getElem?_of_lt hlt
      obtain ⟨bo, oo, rfl, hbo, hbl, o0, o1, o2, o3, o4⟩ := hal.out.ab.row.atOp hx
      have HX := Lib.hid hx
      clear hx
      obtain ⟨vn, ve, hbox, hgr⟩ := hal.out.gr
      obtain ⟨⟨A3, L3, c3, rfl⟩, A4, L4, c4, rfl⟩ := hgr.sl3
      have HGR := Lib.hid hgr
      obtain ⟨x0, x1, x2, x3, xf⟩ := hbox
      obtain ⟨d0, d1, d2, d3, d4, df⟩ := hal.out.ab.cf
      have q1 : w.heap.size < wa.heap.size := by omega
      clear hgr
      obtain ⟨W1, hW1⟩ : ∃ W1, W1 = wa.alloc (.cells #[.int .i64 x.k, .int .i64 x.a, .int .i64 x.b, .int .i64 x.p, .int .i64 x.v] 73) := ⟨_, rfl⟩
      go_wp2_with fail
      rw [← hW1]
      have hb1 : Below wa.heap.size wa W1 := by rw [hW1]; exact (Below.refl _ wa).alloc (Nat.le_refl _) _
      have s1 : W1.heap.size = wa.heap.size + 1 := by rw [hW1]; simp
      clear hW1
      refine (do_calls W1 _ c (stG c .new l k) _ _ x (HGR.out.below hb1) (run_rdy HC.out hn hk)).mono ?_
      rintro e w2 hpost
      obtain ⟨A5, L5, c5, A6, L6, c6, a1, d1', a2, d2', a3, d3', rfl, hgz, hrz, hb⟩ := do_slices hpost
      have L1 := Lib.hid (hal.out.below hb1)
      have L2 := Lib.hid (show AL w c l _ bG bR (stG c .new l k) (resG c .new l k ++ List.replicate (l.length - (k + 1) + 1) ResD.nil) w2 from by rw [show l.length - (k + 1) + 1 = l.length - k by omega]; exact L1.out.below hb)
      have HST := Lib.hid (stG_succ (c := c) (g := .new) HX.out)
      have HRS := Lib.hid (resG_succ (c := c) (g := .new) HX.out)
      revert HST HRS hgz hrz
      generalize doOf c (stG c .new l k) x = d
      intro hgz hrz HST HRS
      obtain ⟨z, r⟩ := d
      simp only at HST HRS hgz hrz ⊢
      have HZ := Lib.hid hgz
      have HR := Lib.hid hrz
      have s2 := hb.size
      clear hpost hgz hrz hb hb1 o0 o1 o2 o3 o4 d0 d1 d2 d3 d4 df x0 x1 x2 x3 xf HGR hal L1
      obtain ⟨vn2, ve2, hbox2, _⟩ := L2.out.gr
      obtain ⟨x0, x1, x2, x3, xf⟩ := hbox2
      obtain ⟨rvs, ho, hrv⟩ := L2.out.rs
      have HF := Lib.hid (fun j => ho.frozenC j)
      have hlr2 := L2.out.lr
      have hlg2 := L2.out.lg
      have f0 := HF.out
      have hkl : k < rvs.length := by rw [hrv.1, List.length_append, resG_len (by omega), List.length_replicate]; omega
      obtain ⟨bq, oq, hq, _, _, v0, v1, v2, v3, v4⟩ := ho.row.atRV (List.getElem?_eq_getElem hkl)
      injection hq with hq
      injection hq with hq1 hq2
      subst hq1 hq2
      rw [Nat.zero_add] at v0 v1 v2 v3 v4
      generalize rvs[k] = y at v0 v1 v2 v3 v4
      clear ho hrv hkl
      have e1 : ¬ bG = bR := hne
      have e2 : ¬ bR = bG := fun e => hne e.symm
      go_wp2
      have LN := L2.out.next (k := k) hne (resG_len (by omega)) rfl HZ.out HR.out ⟨by omega, by omega⟩
      refine ⟨⟨k + 1, by omega, by first | (go_num; done) | (go_num; omega), Lib.hid ?_⟩, by simp [intOf]; omega⟩
      rw [HST.out, HRS.out]
      exact LN
  have CUT := Lib.hid CUT0
  clear ar CUT0
  repeat (refine tr3_take (v := ?_) (by simp only [List.getElem?_toArray, List.getElem?_cons_succ, List.getElem?_cons_zero]; rfl) (Or.inl ⟨by rfl, fun W hW => ?_⟩) HK.out ?_; rotate_left; (skip; clear hW; go_simp; with_reducible rfl); simp only [Act.put, List.setIfInBounds_toArray, List.set_cons_zero, List.set_cons_succ])
  refine tr3_three (by simp only [List.getElem?_toArray, List.getElem?_cons_succ, List.getElem?_cons_zero]; rfl) ?_ (by simp only [List.getElem?_toArray, List.getElem?_cons_succ, List.getElem?_cons_zero]; rfl) (Hid.out ?_) (by simp only [List.getElem?_toArray, List.getElem?_cons_succ, List.getElem?_cons_zero]; rfl) (Hid.out ?_)
  · skip
    go_wp2_with fail
    refine (new_calls _).mono ?_
    rintro e V1 ⟨rfl, hb⟩
    have z1 := hb.size
    have HK1 := Lib.hid (HK.out.below hb)
    have B1 := Lib.hid (B0.out.below hb)
    clear hb
    go_wp2_with fail
    refine tr_on HK1.out ?_
    refine tr_two (by simp only [List.getElem?_toArray, List.getElem?_cons_succ, List.getElem?_cons_zero]; rfl) ?_ (by simp only [List.getElem?_toArray, List.getElem?_cons_succ, List.getElem?_cons_zero]; rfl) (Hid.out ?_)
    · skip
      obtain ⟨V2, hV⟩ : ∃ V, V = V1.alloc (.cells (madeCells zeroR (l.length * 5)) 75) := ⟨_, rfl⟩
      have hb : Below V1.heap.size V1 V2 := by rw [hV]; exact (Below.refl _ V1).alloc (Nat.le_refl _) _
      have z2 : V1.heap.size < V2.heap.size := by rw [hV]; simp
      go_wp2_with fail
      rw [← hV]
      have HK2 := Lib.hid (HK1.out.below hb)
      have B2 := Lib.hid (B1.out.below hb)
      have R := Lib.hid (show RZ w V1.heap.size l.length V2 from ⟨by omega, by omega, by rw [hV]; exact Own.madeR (by unfold maxLen; omega) _ rfl⟩)
      clear hb hV
      refine tr_on HK2.out ?_
      refine tr_step (by simp only [List.getElem?_toArray, List.getElem?_cons_succ, List.getElem?_cons_zero]; rfl) ?_
      obtain ⟨V3, hV⟩ : ∃ V, V = V2.alloc (.cells #[.slice none 0 0, .slice none 0 0, .int .i64 0, .int .i64 0] 27) := ⟨_, rfl⟩
      have hb : Below V2.heap.size V2 V3 := by rw [hV]; exact (Below.refl _ V2).alloc (Nat.le_refl _) _
      have z3 : V2.heap.size < V3.heap.size := by rw [hV]; simp
      go_wp2_with fail
      rw [← hV]
      have HK3 := Lib.hid (HK2.out.below hb)
      have B3 := Lib.hid (B2.out.below hb)
      replace R := Lib.hid (R.out.below hb)
      have G := Lib.hid (show GZ w V2.heap.size 0 V3 from ⟨by omega, by omega, by rw [hV]; exact Box4.made V2 _ _ _ _ _⟩)
      clear hb hV
      refine tr_on HK3.out ?_
      refine tr_step (by simp only [List.getElem?_toArray, List.getElem?_cons_succ, List.getElem?_cons_zero]; rfl) ?_
      have hne0 : ¬ V2.heap.size = V1.heap.size := by omega
      have hlg := G.out.lt
      have hgg := G.out.ge
      obtain ⟨y0, y1, y2, y3, yf⟩ := G.out.box
      go_wp2_with fail
      obtain ⟨V4, hV⟩ : ∃ V, V = (((V3.setCell ⟨V2.heap.size, 0, none⟩ (.slice none 0 0)).setCell ⟨V2.heap.size, 1, none⟩ (.slice none 0 0)).setCell ⟨V2.heap.size, 2, none⟩ (.int .i64 1)).setCell ⟨V2.heap.size, 3, none⟩ (.int .i64 1) := ⟨_, rfl⟩
      rw [← hV]
      have hs4 : ∀ j, j ≠ V2.heap.size → V4.heap[j]? = V3.heap[j]? := fun j hj => by rw [hV]; exact set4_heap V3 (V2.heap.size) _ _ _ _ _ hj
      have hz : V4.heap.size = V3.heap.size := by rw [hV]; exact set4_size V3 (V2.heap.size) _ _ _ _
      have HK4 := Lib.hid (show Kept W0 (fun _ => True) V4 from by rw [hV]; exact (by repeat (first | (with_reducible exact HK3.out) | (with_reducible exact Kept.refl _ _) | (with_reducible refine Kept.drew ?_) | (with_reducible refine Kept.drewN ?_ _) | (with_reducible refine Kept.alloc ?_ _) | (with_reducible refine Kept.setCell ?_ (.inl (by simp; try omega)) _))))
      have hbk : Below w.heap.size w V4 := by rw [hV]; exact set4_below B3.out.K (by omega) _ _ _ _
      have B4 := Lib.hid (B3.out.move hbk (fun j hj => hs4 j (by omega)) (by omega))
      have G1 := Lib.hid (show GZ w (V2.heap.size) 1 V4 from ⟨by omega, hgg, by rw [hV]; exact G.out.box.set _ _ _ _⟩)
      have hne := hne0
      replace R := Lib.hid (show RZ w (V1.heap.size) l.length V4 from ⟨by have := R.out.lt; omega, R.out.ge, R.out.own.move fun j hj _ => hs4 j (by (try simp only at hj); omega)⟩)
      have z4 : V3.heap.size ≤ V4.heap.size := by omega
      clear hV hs4 hz hbk G y0 y1 y2 y3 yf
      have G := G1
      clear G1
      refine tr_on HK4.out ?_
      repeat (refine tr_take (v := ?_) (by simp only [List.getElem?_toArray, List.getElem?_cons_succ, List.getElem?_cons_zero]; rfl) (Or.inl ⟨by rfl, fun W hW => ?_⟩) HK4.out ?_; rotate_left; (skip; clear hW; go_simp; with_reducible rfl); simp only [Act.put, List.setIfInBounds_toArray, List.set_cons_zero, List.set_cons_succ])
      refine tr_done ?_
      exact CUT.out _ _ _ _ _ _ _ _ _ _ _ _ _ _ _ _ _ _ _ _ _ _ _ _ _ _ _ _ _ (V2.heap.size) (V1.heap.size) _ B4.out G.out R.out (by have := G.out.lt; have := R.out.lt; omega)
    · refine Lib.hid ?_
      obtain ⟨V2, hV⟩ : ∃ V, V = V1.alloc (.cells #[.slice none 0 0, .slice none 0 0, .int .i64 0, .int .i64 0] 27) := ⟨_, rfl⟩
      have hb : Below V1.heap.size V1 V2 := by rw [hV]; exact (Below.refl _ V1).alloc (Nat.le_refl _) _
      have z2 : V1.heap.size < V2.heap.size := by rw [hV]; simp
      go_wp2_with fail
      rw [← hV]
      have HK2 := Lib.hid (HK1.out.below hb)
      have B2 := Lib.hid (B1.out.below hb)
      have G := Lib.hid (show GZ w V1.heap.size 0 V2 from ⟨by omega, by omega, by rw [hV]; exact Box4.made V1 _ _ _ _ _⟩)
      clear hb hV
      refine tr_on HK2.out ?_
      refine tr_two (by simp only [List.getElem?_toArray, List.getElem?_cons_succ, List.getElem?_cons_zero]; rfl) ?_ (by simp only [List.getElem?_toArray, List.getElem?_cons_succ, List.getElem?_cons_zero]; rfl) (Hid.out ?_)
      · skip
        obtain ⟨V3, hV⟩ : ∃ V, V = V2.alloc (.cells (madeCells zeroR (l.length * 5)) 75) := ⟨_, rfl⟩
        have hb : Below V2.heap.size V2 V3 := by rw [hV]; exact (Below.refl _ V2).alloc (Nat.le_refl _) _
        have z3 : V2.heap.size < V3.heap.size := by rw [hV]; simp
        go_wp2_with fail
        rw [← hV]
        have HK3 := Lib.hid (HK2.out.below hb)
        have B3 := Lib.hid (B2.out.below hb)
        replace G := Lib.hid (G.out.below hb)
        have R := Lib.hid (show RZ w V2.heap.size l.length V3 from ⟨by omega, by omega, by rw [hV]; exact Own.madeR (by unfold maxLen; omega) _ rfl⟩)
        clear hb hV
        refine tr_on HK3.out ?_
        refine tr_step (by simp only [List.getElem?_toArray, List.getElem?_cons_succ, List.getElem?_cons_zero]; rfl) ?_
        have hne0 : ¬ V1.heap.size = V2.heap.size := by omega
        have hlg := G.out.lt
        have hgg := G.out.ge
        obtain ⟨y0, y1, y2, y3, yf⟩ := G.out.box
        go_wp2_with fail
        obtain ⟨V4, hV⟩ : ∃ V, V = (((V3.setCell ⟨V1.heap.size, 0, none⟩ (.slice none 0 0)).setCell ⟨V1.heap.size, 1, none⟩ (.slice none 0 0)).setCell ⟨V1.heap.size, 2, none⟩ (.int .i64 1)).setCell ⟨V1.heap.size, 3, none⟩ (.int .i64 1) := ⟨_, rfl⟩
        rw [← hV]
        have hs4 : ∀ j, j ≠ V1.heap.size → V4.heap[j]? = V3.heap[j]? := fun j hj => by rw [hV]; exact set4_heap V3 (V1.heap.size) _ _ _ _ _ hj
        have hz : V4.heap.size = V3.heap.size := by rw [hV]; exact set4_size V3 (V1.heap.size) _ _ _ _
        have HK4 := Lib.hid (show Kept W0 (fun _ => True) V4 from by rw [hV]; exact (by repeat (first | (with_reducible exact HK3.out) | (with_reducible exact Kept.refl _ _) | (with_reducible refine Kept.drew ?_) | (with_reducible refine Kept.drewN ?_ _) | (with_reducible refine Kept.alloc ?_ _) | (with_reducible refine Kept.setCell ?_ (.inl (by simp; try omega)) _))))
        have hbk : Below w.heap.size w V4 := by rw [hV]; exact set4_below B3.out.K (by omega) _ _ _ _
        have B4 := Lib.hid (B3.out.move hbk (fun j hj => hs4 j (by omega)) (by omega))
        have G1 := Lib.hid (show GZ w (V1.heap.size) 1 V4 from ⟨by omega, hgg, by rw [hV]; exact G.out.box.set _ _ _ _⟩)
        have hne := hne0
        replace R := Lib.hid (show RZ w (V2.heap.size) l.length V4 from ⟨by have := R.out.lt; omega, R.out.ge, R.out.own.move fun j hj _ => hs4 j (by (try simp only at hj); omega)⟩)
        have z4 : V3.heap.size ≤ V4.heap.size := by omega
        clear hV hs4 hz hbk G y0 y1 y2 y3 yf
        have G := G1
        clear G1
        refine tr_on HK4.out ?_
        repeat (refine tr_take (v := ?_) (by simp only [List.getElem?_toArray, List.getElem?_cons_succ, List.getElem?_cons_zero]; rfl) (Or.inl ⟨by rfl, fun W hW => ?_⟩) HK4.out ?_; rotate_left; (skip; clear hW; go_simp; with_reducible rfl); simp only [Act.put, List.setIfInBounds_toArray, List.set_cons_zero, List.set_cons_succ])
        refine tr_done ?_
        exact CUT.out _ _ _ _ _ _ _ _ _ _ _ _ _ _ _ _ _ _ _ _ _ _ _ _ _ _ _ _ _ (V1.heap.size) (V2.heap.size) _ B4.out G.out R.out (by have := G.out.lt; have := R.out.lt; omega)
      · refine Lib.hid ?_
        have hlg := G.out.lt
        have hgg := G.out.ge
        obtain ⟨y0, y1, y2, y3, yf⟩ := G.out.box
        go_wp2_with fail
        obtain ⟨V3, hV⟩ : ∃ V, V = (((V2.setCell ⟨V1.heap.size, 0, none⟩ (.slice none 0 0)).setCell ⟨V1.heap.size, 1, none⟩ (.slice none 0 0)).setCell ⟨V1.heap.size, 2, none⟩ (.int .i64 1)).setCell ⟨V1.heap.size, 3, none⟩ (.int .i64 1) := ⟨_, rfl⟩
        rw [← hV]
        have hs4 : ∀ j, j ≠ V1.heap.size → V3.heap[j]? = V2.heap[j]? := fun j hj => by rw [hV]; exact set4_heap V2 (V1.heap.size) _ _ _ _ _ hj
        have hz : V3.heap.size = V2.heap.size := by rw [hV]; exact set4_size V2 (V1.heap.size) _ _ _ _
        have HK3 := Lib.hid (show Kept W0 (fun _ => True) V3 from by rw [hV]; exact (by repeat (first | (with_reducible exact HK2.out) | (with_reducible exact Kept.refl _ _) | (with_reducible refine Kept.drew ?_) | (with_reducible refine Kept.drewN ?_ _) | (with_reducible refine Kept.alloc ?_ _) | (with_reducible refine Kept.setCell ?_ (.inl (by simp; try omega)) _))))
        have hbk : Below w.heap.size w V3 := by rw [hV]; exact set4_below B2.out.K (by omega) _ _ _ _
        have B3 := Lib.hid (B2.out.move hbk (fun j hj => hs4 j (by omega)) (by omega))
        have G1 := Lib.hid (show GZ w (V1.heap.size) 1 V3 from ⟨by omega, hgg, by rw [hV]; exact G.out.box.set _ _ _ _⟩)
        have z3 : V2.heap.size ≤ V3.heap.size := by omega
        clear hV hs4 hz hbk G y0 y1 y2 y3 yf
        have G := G1
        clear G1
        refine tr_on HK3.out ?_
        refine tr_step (by simp only [List.getElem?_toArray, List.getElem?_cons_succ, List.getElem?_cons_zero]; rfl) ?_
        obtain ⟨V4, hV⟩ : ∃ V, V = V3.alloc (.cells (madeCells zeroR (l.length * 5)) 75) := ⟨_, rfl⟩
        have hb : Below V3.heap.size V3 V4 := by rw [hV]; exact (Below.refl _ V3).alloc (Nat.le_refl _) _
        have z4 : V3.heap.size < V4.heap.size := by rw [hV]; simp
        go_wp2_with fail
        rw [← hV]
        have HK4 := Lib.hid (HK3.out.below hb)
        have B4 := Lib.hid (B3.out.below hb)
        replace G := Lib.hid (G.out.below hb)
        have R := Lib.hid (show RZ w V3.heap.size l.length V4 from ⟨by omega, by omega, by rw [hV]; exact Own.madeR (by unfold maxLen; omega) _ rfl⟩)
        clear hb hV
        refine tr_on HK4.out ?_
        repeat (refine tr_take (v := ?_) (by simp only [List.getElem?_toArray, List.getElem?_cons_succ, List.getElem?_cons_zero]; rfl) (Or.inl ⟨by rfl, fun W hW => ?_⟩) HK4.out ?_; rotate_left; (skip; clear hW; go_simp; with_reducible rfl); simp only [Act.put, List.setIfInBounds_toArray, List.set_cons_zero, List.set_cons_succ])
        refine tr_done ?_
        exact CUT.out _ _ _ _ _ _ _ _ _ _ _ _ _ _ _ _ _ _ _ _ _ _ _ _ _ _ _ _ _ (V1.heap.size) (V3.heap.size) _ B4.out G.out R.out (by have := G.out.lt; have := R.out.lt; omega)
  · refine Lib.hid ?_
    obtain ⟨V1, hV⟩ : ∃ V, V = V0.alloc (.cells (madeCells zeroR (l.length * 5)) 75) := ⟨_, rfl⟩
    have hb : Below V0.heap.size V0 V1 := by rw [hV]; exact (Below.refl _ V0).alloc (Nat.le_refl _) _
    have z1 : V0.heap.size < V1.heap.size := by rw [hV]; simp
    go_wp2_with fail
    rw [← hV]
    have HK1 := Lib.hid (HK.out.below hb)
    have B1 := Lib.hid (B0.out.below hb)
    have R := Lib.hid (show RZ w V0.heap.size l.length V1 from ⟨by omega, by omega, by rw [hV]; exact Own.madeR (by unfold maxLen; omega) _ rfl⟩)
    clear hb hV
    refine tr_on HK1.out ?_
    refine tr_two (by simp only [List.getElem?_toArray, List.getElem?_cons_succ, List.getElem?_cons_zero]; rfl) ?_ (by simp only [List.getElem?_toArray, List.getElem?_cons_succ, List.getElem?_cons_zero]; rfl) (Hid.out ?_)
    · skip
      go_wp2_with fail
      refine (new_calls _).mono ?_
      rintro e V2 ⟨rfl, hb⟩
      have z2 := hb.size
      have HK2 := Lib.hid (HK1.out.below hb)
      have B2 := Lib.hid (B1.out.below hb)
      replace R := Lib.hid (R.out.below hb)
      clear hb
      go_wp2_with fail
      refine tr_on HK2.out ?_
      refine tr_step (by simp only [List.getElem?_toArray, List.getElem?_cons_succ, List.getElem?_cons_zero]; rfl) ?_
      obtain ⟨V3, hV⟩ : ∃ V, V = V2.alloc (.cells #[.slice none 0 0, .slice none 0 0, .int .i64 0, .int .i64 0] 27) := ⟨_, rfl⟩
      have hb : Below V2.heap.size V2 V3 := by rw [hV]; exact (Below.refl _ V2).alloc (Nat.le_refl _) _
      have z3 : V2.heap.size < V3.heap.size := by rw [hV]; simp
      go_wp2_with fail
      rw [← hV]
      have HK3 := Lib.hid (HK2.out.below hb)
      have B3 := Lib.hid (B2.out.below hb)
      replace R := Lib.hid (R.out.below hb)
      have G := Lib.hid (show GZ w V2.heap.size 0 V3 from ⟨by omega, by omega, by rw [hV]; exact Box4.made V2 _ _ _ _ _⟩)
      clear hb hV
      refine tr_on HK3.out ?_
      refine tr_step (by simp only [List.getElem?_toArray, List.getElem?_cons_succ, List.getElem?_cons_zero]; rfl) ?_
      have hne0 : ¬ V2.heap.size = V0.heap.size := by omega
      have hlg := G.out.lt
      have hgg := G.out.ge
      obtain ⟨y0, y1, y2, y3, yf⟩ := G.out.box
      go_wp2_with fail
      obtain ⟨V4, hV⟩ : ∃ V, V = (((V3.setCell ⟨V2.heap.size, 0, none⟩ (.slice none 0 0)).setCell ⟨V2.heap.size, 1, none⟩ (.slice none 0 0)).setCell ⟨V2.heap.size, 2, none⟩ (.int .i64 1)).setCell ⟨V2.heap.size, 3, none⟩ (.int .i64 1) := ⟨_, rfl⟩
      rw [← hV]
      have hs4 : ∀ j, j ≠ V2.heap.size → V4.heap[j]? = V3.heap[j]? := fun j hj => by rw [hV]; exact set4_heap V3 (V2.heap.size) _ _ _ _ _ hj
      have hz : V4.heap.size = V3.heap.size := by rw [hV]; exact set4_size V3 (V2.heap.size) _ _ _ _
      have HK4 := Lib.hid (show Kept W0 (fun _ => True) V4 from by rw [hV]; exact (by repeat (first | (with_reducible exact HK3.out) | (with_reducible exact Kept.refl _ _) | (with_reducible refine Kept.drew ?_) | (with_reducible refine Kept.drewN ?_ _) | (with_reducible refine Kept.alloc ?_ _) | (with_reducible refine Kept.setCell ?_ (.inl (by simp; try omega)) _))))
      have hbk : Below w.heap.size w V4 := by rw [hV]; exact set4_below B3.out.K (by omega) _ _ _ _
      have B4 := Lib.hid (B3.out.move hbk (fun j hj => hs4 j (by omega)) (by omega))
      have G1 := Lib.hid (show GZ w (V2.heap.size) 1 V4 from ⟨by omega, hgg, by rw [hV]; exact G.out.box.set _ _ _ _⟩)
      have hne := hne0
      replace R := Lib.hid (show RZ w (V0.heap.size) l.length V4 from ⟨by have := R.out.lt; omega, R.out.ge, R.out.own.move fun j hj _ => hs4 j (by (try simp only at hj); omega)⟩)
      have z4 : V3.heap.size ≤ V4.heap.size := by omega
      clear hV hs4 hz hbk G y0 y1 y2 y3 yf
      have G := G1
      clear G1
      refine tr_on HK4.out ?_
      repeat (refine tr_take (v := ?_) (by simp only [List.getElem?_toArray, List.getElem?_cons_succ, List.getElem?_cons_zero]; rfl) (Or.inl ⟨by rfl, fun W hW => ?_⟩) HK4.out ?_; rotate_left; (skip; clear hW; go_simp; with_reducible rfl); simp only [Act.put, List.setIfInBounds_toArray, List.set_cons_zero, List.set_cons_succ])
      refine tr_done ?_
      exact CUT.out _ _ _ _ _ _ _ _ _ _ _ _ _ _ _ _ _ _ _ _ _ _ _ _ _ _ _ _ _ (V2.heap.size) (V0.heap.size) _ B4.out G.out R.out (by have := G.out.lt; have := R.out.lt; omega)
    · refine Lib.hid ?_
      obtain ⟨V2, hV⟩ : ∃ V, V = V1.alloc (.cells #[.slice none 0 0, .slice none 0 0, .int .i64 0, .int .i64 0] 27) := ⟨_, rfl⟩
      have hb : Below V1.heap.size V1 V2 := by rw [hV]; exact (Below.refl _ V1).alloc (Nat.le_refl _) _
      have z2 : V1.heap.size < V2.heap.size := by rw [hV]; simp
      go_wp2_with fail
      rw [← hV]
      have HK2 := Lib.hid (HK1.out.below hb)
      have B2 := Lib.hid (B1.out.below hb)
      replace R := Lib.hid (R.out.below hb)
      have G := Lib.hid (show GZ w V1.heap.size 0 V2 from ⟨by omega, by omega, by rw [hV]; exact Box4.made V1 _ _ _ _ _⟩)
      clear hb hV
      refine tr_on HK2.out ?_
      refine tr_step (by simp only [List.getElem?_toArray, List.getElem?_cons_succ, List.getElem?_cons_zero]; rfl) ?_
      go_wp2_with fail
      refine (new_calls _).mono ?_
      rintro e V3 ⟨rfl, hb⟩
      have z3 := hb.size
      have HK3 := Lib.hid (HK2.out.below hb)
      have B3 := Lib.hid (B2.out.below hb)
      replace G := Lib.hid (G.out.below hb)
      replace R := Lib.hid (R.out.below hb)
      clear hb
      go_wp2_with fail
      refine tr_on HK3.out ?_
      refine tr_step (by simp only [List.getElem?_toArray, List.getElem?_cons_succ, List.getElem?_cons_zero]; rfl) ?_
      have hne0 : ¬ V1.heap.size = V0.heap.size := by omega
      have hlg := G.out.lt
      have hgg := G.out.ge
      obtain ⟨y0, y1, y2, y3, yf⟩ := G.out.box
      go_wp2_with fail
      obtain ⟨V4, hV⟩ : ∃ V, V = (((V3.setCell ⟨V1.heap.size, 0, none⟩ (.slice none 0 0)).setCell ⟨V1.heap.size, 1, none⟩ (.slice none 0 0)).setCell ⟨V1.heap.size, 2, none⟩ (.int .i64 1)).setCell ⟨V1.heap.size, 3, none⟩ (.int .i64 1) := ⟨_, rfl⟩
      rw [← hV]
      have hs4 : ∀ j, j ≠ V1.heap.size → V4.heap[j]? = V3.heap[j]? := fun j hj => by rw [hV]; exact set4_heap V3 (V1.heap.size) _ _ _ _ _ hj
      have hz : V4.heap.size = V3.heap.size := by rw [hV]; exact set4_size V3 (V1.heap.size) _ _ _ _
      have HK4 := Lib.hid (show Kept W0 (fun _ => True) V4 from by rw [hV]; exact (by repeat (first | (with_reducible exact HK3.out) | (with_reducible exact Kept.refl _ _) | (with_reducible refine Kept.drew ?_) | (with_reducible refine Kept.drewN ?_ _) | (with_reducible refine Kept.alloc ?_ _) | (with_reducible refine Kept.setCell ?_ (.inl (by simp; try omega)) _))))
      have hbk : Below w.heap.size w V4 := by rw [hV]; exact set4_below B3.out.K (by omega) _ _ _ _
      have B4 := Lib.hid (B3.out.move hbk (fun j hj => hs4 j (by omega)) (by omega))
      have G1 := Lib.hid (show GZ w (V1.heap.size) 1 V4 from ⟨by omega, hgg, by rw [hV]; exact G.out.box.set _ _ _ _⟩)
      have hne := hne0
      replace R := Lib.hid (show RZ w (V0.heap.size) l.length V4 from ⟨by have := R.out.lt; omega, R.out.ge, R.out.own.move fun j hj _ => hs4 j (by (try simp only at hj); omega)⟩)
      have z4 : V3.heap.size ≤ V4.heap.size := by omega
      clear hV hs4 hz hbk G y0 y1 y2 y3 yf
      have G := G1
      clear G1
      refine tr_on HK4.out ?_
      repeat (refine tr_take (v := ?_) (by simp only [List.getElem?_toArray, List.getElem?_cons_succ, List.getElem?_cons_zero]; rfl) (Or.inl ⟨by rfl, fun W hW => ?_⟩) HK4.out ?_; rotate_left; (skip; clear hW; go_simp; with_reducible rfl); simp only [Act.put, List.setIfInBounds_toArray, List.set_cons_zero, List.set_cons_succ])
      refine tr_done ?_
      exact CUT.out _ _ _ _ _ _ _ _ _ _ _ _ _ _ _ _ _ _ _ _ _ _ _ _ _ _ _ _ _ (V1.heap.size) (V0.heap.size) _ B4.out G.out R.out (by have := G.out.lt; have := R.out.lt; omega)
  · refine Lib.hid ?_
    obtain ⟨V1, hV⟩ : ∃ V, V = V0.alloc (.cells #[.slice none 0 0, .slice none 0 0, .int .i64 0, .int .i64 0] 27) := ⟨_, rfl⟩
    have hb : Below V0.heap.size V0 V1 := by rw [hV]; exact (Below.refl _ V0).alloc (Nat.le_refl _) _
    have z1 : V0.heap.size < V1.heap.size := by rw [hV]; simp
    go_wp2_with fail
    rw [← hV]
    have HK1 := Lib.hid (HK.out.below hb)
    have B1 := Lib.hid (B0.out.below hb)
    have G := Lib.hid (show GZ w V0.heap.size 0 V1 from ⟨by omega, by omega, by rw [hV]; exact Box4.made V0 _ _ _ _ _⟩)
    clear hb hV
    refine tr_on HK1.out ?_
    refine tr_two (by simp only [List.getElem?_toArray, List.getElem?_cons_succ, List.getElem?_cons_zero]; rfl) ?_ (by simp only [List.getElem?_toArray, List.getElem?_cons_succ, List.getElem?_cons_zero]; rfl) (Hid.out ?_)
    · skip
      go_wp2_with fail
      refine (new_calls _).mono ?_
      rintro e V2 ⟨rfl, hb⟩
      have z2 := hb.size
      have HK2 := Lib.hid (HK1.out.below hb)
      have B2 := Lib.hid (B1.out.below hb)
      replace G := Lib.hid (G.out.below hb)
      clear hb
      go_wp2_with fail
      refine tr_on HK2.out ?_
      refine tr_two (by simp only [List.getElem?_toArray, List.getElem?_cons_succ, List.getElem?_cons_zero]; rfl) ?_ (by simp only [List.getElem?_toArray, List.getElem?_cons_succ, List.getElem?_cons_zero]; rfl) (Hid.out ?_)
      · skip
        obtain ⟨V3, hV⟩ : ∃ V, V = V2.alloc (.cells (madeCells zeroR (l.length * 5)) 75) := ⟨_, rfl⟩
        have hb : Below V2.heap.size V2 V3 := by rw [hV]; exact (Below.refl _ V2).alloc (Nat.le_refl _) _
        have z3 : V2.heap.size < V3.heap.size := by rw [hV]; simp
        go_wp2_with fail
        rw [← hV]
        have HK3 := Lib.hid (HK2.out.below hb)
        have B3 := Lib.hid (B2.out.below hb)
        replace G := Lib.hid (G.out.below hb)
        have R := Lib.hid (show RZ w V2.heap.size l.length V3 from ⟨by omega, by omega, by rw [hV]; exact Own.madeR (by unfold maxLen; omega) _ rfl⟩)
        clear hb hV
        refine tr_on HK3.out ?_
        refine tr_step (by simp only [List.getElem?_toArray, List.getElem?_cons_succ, List.getElem?_cons_zero]; rfl) ?_
        have hne0 : ¬ V0.heap.size = V2.heap.size := by omega
        have hlg := G.out.lt
        have hgg := G.out.ge
        obtain ⟨y0, y1, y2, y3, yf⟩ := G.out.box
        go_wp2_with fail
        obtain ⟨V4, hV⟩ : ∃ V, V = (((V3.setCell ⟨V0.heap.size, 0, none⟩ (.slice none 0 0)).setCell ⟨V0.heap.size, 1, none⟩ (.slice none 0 0)).setCell ⟨V0.heap.size, 2, none⟩ (.int .i64 1)).setCell ⟨V0.heap.size, 3, none⟩ (.int .i64 1) := ⟨_, rfl⟩
        rw [← hV]
        have hs4 : ∀ j, j ≠ V0.heap.size → V4.heap[j]? = V3.heap[j]? := fun j hj => by rw [hV]; exact set4_heap V3 (V0.heap.size) _ _ _ _ _ hj
        have hz : V4.heap.size = V3.heap.size := by rw [hV]; exact set4_size V3 (V0.heap.size) _ _ _ _
        have HK4 := Lib.hid (show Kept W0 (fun _ => True) V4 from by rw [hV]; exact (by repeat (first | (with_reducible exact HK3.out) | (with_reducible exact Kept.refl _ _) | (with_reducible refine Kept.drew ?_) | (with_reducible refine Kept.drewN ?_ _) | (with_reducible refine Kept.alloc ?_ _) | (with_reducible refine Kept.setCell ?_ (.inl (by simp; try omega)) _))))
        have hbk : Below w.heap.size w V4 := by rw [hV]; exact set4_below B3.out.K (by omega) _ _ _ _
        have B4 := Lib.hid (B3.out.move hbk (fun j hj => hs4 j (by omega)) (by omega))
        have G1 := Lib.hid (show GZ w (V0.heap.size) 1 V4 from ⟨by omega, hgg, by rw [hV]; exact G.out.box.set _ _ _ _⟩)
        have hne := hne0
        replace R := Lib.hid (show RZ w (V2.heap.size) l.length V4 from ⟨by have := R.out.lt; omega, R.out.ge, R.out.own.move fun j hj _ => hs4 j (by (try simp only at hj); omega)⟩)
        have z4 : V3.heap.size ≤ V4.heap.size := by omega
        clear hV hs4 hz hbk G y0 y1 y2 y3 yf
        have G := G1
        clear G1
        refine tr_on HK4.out ?_
        repeat (refine tr_take (v := ?_) (by simp only [List.getElem?_toArray, List.getElem?_cons_succ, List.getElem?_cons_zero]; rfl) (Or.inl ⟨by rfl, fun W hW => ?_⟩) HK4.out ?_; rotate_left; (skip; clear hW; go_simp; with_reducible rfl); simp only [Act.put, List.setIfInBounds_toArray, List.set_cons_zero, List.set_cons_succ])
        refine tr_done ?_
        exact CUT.out _ _ _ _ _ _ _ _ _ _ _ _ _ _ _ _ _ _ _ _ _ _ _ _ _ _ _ _ _ (V0.heap.size) (V2.heap.size) _ B4.out G.out R.out (by have := G.out.lt; have := R.out.lt; omega)
      · refine Lib.hid ?_
        have hlg := G.out.lt
        have hgg := G.out.ge
        obtain ⟨y0, y1, y2, y3, yf⟩ := G.out.box
        go_wp2_with fail
        obtain ⟨V3, hV⟩ : ∃ V, V = (((V2.setCell ⟨V0.heap.size, 0, none⟩ (.slice none 0 0)).setCell ⟨V0.heap.size, 1, none⟩ (.slice none 0 0)).setCell ⟨V0.heap.size, 2, none⟩ (.int .i64 1)).setCell ⟨V0.heap.size, 3, none⟩ (.int .i64 1) := ⟨_, rfl⟩
        rw [← hV]
        have hs4 : ∀ j, j ≠ V0.heap.size → V3.heap[j]? = V2.heap[j]? := fun j hj => by rw [hV]; exact set4_heap V2 (V0.heap.size) _ _ _ _ _ hj
        have hz : V3.heap.size = V2.heap.size := by rw [hV]; exact set4_size V2 (V0.heap.size) _ _ _ _
        have HK3 := Lib.hid (show Kept W0 (fun _ => True) V3 from by rw [hV]; exact (by repeat (first | (with_reducible exact HK2.out) | (with_reducible exact Kept.refl _ _) | (with_reducible refine Kept.drew ?_) | (with_reducible refine Kept.drewN ?_ _) | (with_reducible refine Kept.alloc ?_ _) | (with_reducible refine Kept.setCell ?_ (.inl (by simp; try omega)) _))))
        have hbk : Below w.heap.size w V3 := by rw [hV]; exact set4_below B2.out.K (by omega) _ _ _ _
        have B3 := Lib.hid (B2.out.move hbk (fun j hj => hs4 j (by omega)) (by omega))
        have G1 := Lib.hid (show GZ w (V0.heap.size) 1 V3 from ⟨by omega, hgg, by rw [hV]; exact G.out.box.set _ _ _ _⟩)
        have z3 : V2.heap.size ≤ V3.heap.size := by omega
        clear hV hs4 hz hbk G y0 y1 y2 y3 yf
        have G := G1
        clear G1
        refine tr_on HK3.out ?_
        refine tr_step (by simp only [List.getElem?_toArray, List.getElem?_cons_succ, List.getElem?_cons_zero]; rfl) ?_
        obtain ⟨V4, hV⟩ : ∃ V, V = V3.alloc (.cells (madeCells zeroR (l.length * 5)) 75) := ⟨_, rfl⟩
        have hb : Below V3.heap.size V3 V4 := by rw [hV]; exact (Below.refl _ V3).alloc (Nat.le_refl _) _
        have z4 : V3.heap.size < V4.heap.size := by rw [hV]; simp
        go_wp2_with fail
        rw [← hV]
        have HK4 := Lib.hid (HK3.out.below hb)
        have B4 := Lib.hid (B3.out.below hb)
        replace G := Lib.hid (G.out.below hb)
        have R := Lib.hid (show RZ w V3.heap.size l.length V4 from ⟨by omega, by omega, by rw [hV]; exact Own.madeR (by unfold maxLen; omega) _ rfl⟩)
        clear hb hV
        refine tr_on HK4.out ?_
        repeat (refine tr_take (v := ?_) (by simp only [List.getElem?_toArray, List.getElem?_cons_succ, List.getElem?_cons_zero]; rfl) (Or.inl ⟨by rfl, fun W hW => ?_⟩) HK4.out ?_; rotate_left; (skip; clear hW; go_simp; with_reducible rfl); simp only [Act.put, List.setIfInBounds_toArray, List.set_cons_zero, List.set_cons_succ])
        refine tr_done ?_
        exact CUT.out _ _ _ _ _ _ _ _ _ _ _ _ _ _ _ _ _ _ _ _ _ _ _ _ _ _ _ _ _ (V0.heap.size) (V3.heap.size) _ B4.out G.out R.out (by have := G.out.lt; have := R.out.lt; omega)
    · refine Lib.hid ?_
      obtain ⟨V2, hV⟩ : ∃ V, V = V1.alloc (.cells (madeCells zeroR (l.length * 5)) 75) := ⟨_, rfl⟩
      have hb : Below V1.heap.size V1 V2 := by rw [hV]; exact (Below.refl _ V1).alloc (Nat.le_refl _) _
      have z2 : V1.heap.size < V2.heap.size := by rw [hV]; simp
      go_wp2_with fail
      rw [← hV]
      have HK2 := Lib.hid (HK1.out.below hb)
      have B2 := Lib.hid (B1.out.below hb)
      replace G := Lib.hid (G.out.below hb)
      have R := Lib.hid (show RZ w V1.heap.size l.length V2 from ⟨by omega, by omega, by rw [hV]; exact Own.madeR (by unfold maxLen; omega) _ rfl⟩)
      clear hb hV
      refine tr_on HK2.out ?_
      refine tr_step (by simp only [List.getElem?_toArray, List.getElem?_cons_succ, List.getElem?_cons_zero]; rfl) ?_
      go_wp2_with fail
      refine (new_calls _).mono ?_
      rintro e V3 ⟨rfl, hb⟩
      have z3 := hb.size
      have HK3 := Lib.hid (HK2.out.below hb)
      have B3 := Lib.hid (B2.out.below hb)
      replace G := Lib.hid (G.out.below hb)
      replace R := Lib.hid (R.out.below hb)
      clear hb
      go_wp2_with fail
      refine tr_on HK3.out ?_
      refine tr_step (by simp only [List.getElem?_toArray, List.getElem?_cons_succ, List.getElem?_cons_zero]; rfl) ?_
      have hne0 : ¬ V0.heap.size = V1.heap.size := by omega
      have hlg := G.out.lt
      have hgg := G.out.ge
      obtain ⟨y0, y1, y2, y3, yf⟩ := G.out.box
      go_wp2_with fail
      obtain ⟨V4, hV⟩ : ∃ V, V = (((V3.setCell ⟨V0.heap.size, 0, none⟩ (.slice none 0 0)).setCell ⟨V0.heap.size, 1, none⟩ (.slice none 0 0)).setCell ⟨V0.heap.size, 2, none⟩ (.int .i64 1)).setCell ⟨V0.heap.size, 3, none⟩ (.int .i64 1) := ⟨_, rfl⟩
      rw [← hV]
      have hs4 : ∀ j, j ≠ V0.heap.size → V4.heap[j]? = V3.heap[j]? := fun j hj => by rw [hV]; exact set4_heap V3 (V0.heap.size) _ _ _ _ _ hj
      have hz : V4.heap.size = V3.heap.size := by rw [hV]; exact set4_size V3 (V0.heap.size) _ _ _ _
      have HK4 := Lib.hid (show Kept W0 (fun _ => True) V4 from by rw [hV]; exact (by repeat (first | (with_reducible exact HK3.out) | (with_reducible exact Kept.refl _ _) | (with_reducible refine Kept.drew ?_) | (with_reducible refine Kept.drewN ?_ _) | (with_reducible refine Kept.alloc ?_ _) | (with_reducible refine Kept.setCell ?_ (.inl (by simp; try omega)) _))))
      have hbk : Below w.heap.size w V4 := by rw [hV]; exact set4_below B3.out.K (by omega) _ _ _ _
      have B4 := Lib.hid (B3.out.move hbk (fun j hj => hs4 j (by omega)) (by omega))
      have G1 := Lib.hid (show GZ w (V0.heap.size) 1 V4 from ⟨by omega, hgg, by rw [hV]; exact G.out.box.set _ _ _ _⟩)
      have hne := hne0
      replace R := Lib.hid (show RZ w (V1.heap.size) l.length V4 from ⟨by have := R.out.lt; omega, R.out.ge, R.out.own.move fun j hj _ => hs4 j (by (try simp only at hj); omega)⟩)
      have z4 : V3.heap.size ≤ V4.heap.size := by omega
      clear hV hs4 hz hbk G y0 y1 y2 y3 yf
      have G := G1
      clear G1
      refine tr_on HK4.out ?_
      repeat (refine tr_take (v := ?_) (by simp only [List.getElem?_toArray, List.getElem?_cons_succ, List.getElem?_cons_zero]; rfl) (Or.inl ⟨by rfl, fun W hW => ?_⟩) HK4.out ?_; rotate_left; (skip; clear hW; go_simp; with_reducible rfl); simp only [Act.put, List.setIfInBounds_toArray, List.set_cons_zero, List.set_cons_succ])
      refine tr_done ?_
      exact CUT.out _ _ _ _ _ _ _ _ _ _ _ _ _ _ _ _ _ _ _ _ _ _ _ _ _ _ _ _ _ (V0.heap.size) (V1.heap.size) _ B4.out G.out R.out (by have := G.out.lt; have := R.out.lt; omega)
end Go.Proofs.Ytpehmmdbjakkpaa
