/- tendrilref11.All. -/
import Derived.Test.YtpehmmdbjakkpaaAllA
namespace Go.Proofs.Ytpehmmdbjakkpaa
open Go.RowKit Go.Shelf
set_option linter.unusedSimpArgs false
set_option linter.unusedVariables false
theorem newR_calls (w : World) : Calls Try.prog 50 #[] w fun e w' => e = .returned (.agg #[.slice none 0 0, .slice none 0 0, .int .i64 1, .int .i64 1]) ∧ Below w.heap.size w w' := by
  go_enter Try.func50, Try.ntmps50
  go_wp2
  refine bodyPost_ret (v := .agg #[.slice none 0 0, .slice none 0 0, .int .i64 1, .int .i64 1]) (by simp [results, Try.results50, go_sem]; try rfl) rfl ⟨rfl, (Below.refl _ _).alloc (Nat.le_refl _) _⟩
/-- A graph in its box, and results in a slice of the call's own that grows; B: from where on. -/
structure AR (w : World) (B bG : Nat) (g : GraphD) (v : Value) (rvs : List RV) (rs : List ResD) (W : World) : Prop where
  K : Below w.heap.size w W
  lg : bG < W.heap.size ∧ B ≤ bG
  hB : w.heap.size ≤ B
  gr : ∃ vn ve, Box4 W bG vn ve (.int .i64 g.nn) (.int .i64 g.ne) ∧ Gr W (fun j => B ≤ j ∧ j ≠ bG ∧ v.ownBlock ≠ some j) g vn ve
  own : Own tRV 75 W (fun j => B ≤ j ∧ j ≠ bG) v rvs
  rs : RVs W (fun j => B ≤ j ∧ j ≠ bG ∧ v.ownBlock ≠ some j) rvs rs
section
variable {w : World} {B bG : Nat} {g : GraphD} {v : Value} {rvs : List RV} {rs : List ResD} {W W' : World}
theorem AR.below (h : AR w B bG g v rvs rs W) (hb : Below W.heap.size W W') : AR w B bG g v rvs rs W' := by
  obtain ⟨vn, ve, h1, h2⟩ := h.gr
  exact ⟨h.K.trans (hb.mono h.K.size), ⟨Nat.lt_of_lt_of_le h.lg.1 hb.size, h.lg.2⟩, h.hB, ⟨vn, ve, h1.keep (hb.block _ h.lg.1), h2.below hb⟩, h.own.below hb, h.rs.below hb⟩
theorem AR.setG (h : AR w B bG g v rvs rs W) {z : GraphD} {zn ze : Value} (hz : Gr W (fun j => B ≤ j ∧ j ≠ bG ∧ v.ownBlock ≠ some j) z zn ze) : AR w B bG z v rvs rs (set4 W bG zn ze (.int .i64 z.nn) (.int .i64 z.ne)) := by
  obtain ⟨vn, ve, h1, h2⟩ := h.gr
  have hlg := h.lg
  have hB := h.hB
  have hk : ∀ j, j ≠ bG → (set4 W bG zn ze (.int .i64 z.nn) (.int .i64 z.ne)).heap[j]? = W.heap[j]? := fun j hj => set4_heap _ _ _ _ _ _ _ hj
  exact ⟨set4_below h.K (by omega) _ _ _ _, by rw [set4_size]; exact hlg, hB, ⟨zn, ze, h1.set _ _ _ _, hz.move fun j hj _ => hk j hj.2.1⟩, h.own.move fun j hj _ => hk j hj.2, h.rs.move fun j hj _ => hk j hj.2.1⟩
/-- Blocks ahead of B but not w's may be written: the box of what is handed back. -/
theorem AR.app (h : AR w B bG g v rvs rs W) {v' : Value} {rv : RV} {r : ResD} (hr : RV1 W (fun j => B ≤ j ∧ j ≠ bG ∧ v.ownBlock ≠ some j) rv r) (hK : Below w.heap.size w W') (ho : Own tRV 75 W' (fun j => B ≤ j ∧ j ≠ bG) v' (rvs ++ [rv])) (hg : W.grownBy W' v.ownBlock) (hv : v'.ownBlock = v.ownBlock ∨ v'.ownBlock = some (W.heap.size + 1)) : AR w B bG g v' (rvs ++ [rv]) (rs ++ [r]) W' := by
  obtain ⟨vn, ve, h1, h2⟩ := h.gr
  have hlg := h.lg
  have hB := h.hB
  have hk : ∀ j, j < W.heap.size → v.ownBlock ≠ some j → W'.heap[j]? = W.heap[j]? := fun j h1 h2 => hg.block j h1 (fun e => h2 e.symm)
  have hn : ∀ j, j < W.heap.size → v.ownBlock ≠ some j → v'.ownBlock ≠ some j := fun j h1 h2 => by
    rcases hv with e | e
    · rw [e]; exact h2
    · rw [e]; intro h3; injection h3 with h3; omega
  refine ⟨hK, ⟨Nat.lt_of_lt_of_le hlg.1 hg.size, hlg.2⟩, hB, ⟨vn, ve, h1.keep (hk bG hlg.1 fun e => (h.own.1 bG e).2 rfl), ?_⟩, ho, ?_⟩
  · exact (h2.bound.move (w' := W') fun j hj _ => hk j hj.2 hj.1.2.2).mono fun j hj _ => ⟨hj.1.1, hj.1.2.1, hn j hj.2 hj.1.2.2⟩
  · have h3 := (h.rs.snoc hr).bound
    exact (h3.move (w' := W') fun j hj _ => hk j hj.2 hj.1.2.2).mono fun j hj _ => ⟨hj.1.1, hj.1.2.1, hn j hj.2 hj.1.2.2⟩
theorem AR.lt (h : AR w B bG g v rvs rs W) {j : Nat} (hj : v.ownBlock = some j) : B ≤ j ∧ j < W.heap.size ∧ j ≠ bG := ⟨(h.own.1 j hj).1, h.own.lt j hj, (h.own.1 j hj).2⟩
end
set_option maxRecDepth 100000 in
set_option maxHeartbeats 16000000 in
theorem refAll_calls (w : World) (S : Nat → Prop) (c : CfgD) (l : List OpD) (vl : Value) (hl : Row tOp w S vl l) (hc : c.ok) (hn : l.length ≤ 60) : Calls Try.prog 54 #[c.val, vl] w (AllPost w (stG c .new l l.length) (resG c .new l l.length)) := by
  obtain ⟨A1, c1, rfl⟩ := hl.slice
  have HC := Lib.hid hc
  obtain ⟨W0, hW⟩ : ∃ W0, W0 = (w.alloc (.cells #[.int .i64 c.nodes, .int .i64 c.edges, .int .i64 c.props, .int .i64 c.ids, .int .i64 c.eids] 23)).alloc (.cells #[.slice none 0 0, .slice none 0 0, .int .i64 0, .int .i64 0] 27) := ⟨_, rfl⟩
  have hb0 : Below w.heap.size w W0 := by rw [hW]; exact (by repeat (first | (with_reducible exact Below.refl _ _) | (with_reducible exact Below.refl _ _) | (with_reducible refine Below.drew ?_) | (with_reducible refine Below.alloc ?_ (by simp; try omega) _) | (with_reducible refine Below.setCell ?_ (by simp; try omega) _)))
  have s0 : W0.heap.size = w.heap.size + 2 := by rw [hW]; simp
  have AB0 := Lib.hid (show AB w c l (.slice A1 l.length c1) W0 from ⟨hb0, by omega, Box5.of (n := 23) (by rw [hW]; exact (Below.heap_alloc _ _ _ (by simp)).trans (heap_alloc_new w _)), Box4.of (n := 27) (by
    rw [hW]
    have := heap_alloc_new (w.alloc (.cells #[.int .i64 c.nodes, .int .i64 c.edges, .int .i64 c.props, .int .i64 c.ids, .int .i64 c.eids] 23)) (.cells #[.slice none 0 0, .slice none 0 0, .int .i64 0, .int .i64 0] 27)
    rw [World.size_alloc] at this
    exact this), (hl.bound.mono (S' := fun j => j < w.heap.size) fun j hj _ => hj.2).below hb0⟩)
  clear hl hc hb0
  unfold CfgD.val
  go_enter Try.func54, Try.ntmps54
  go_wp2_with fail
  rw [← hW]
  clear hW
  refine (newR_calls W0).mono ?_
  rintro e w1 ⟨rfl, hb⟩
  have AB1 := Lib.hid (AB0.out.below hb)
  have z1 := hb.size
  clear hb AB0
  obtain ⟨W2, hW2⟩ : ∃ W2, W2 = w1.alloc (.cells #[.slice none 0 0, .slice none 0 0, .int .i64 1, .int .i64 1] 27) := ⟨_, rfl⟩
  go_wp2
  rw [← hW2]
  have hb2 : Below w1.heap.size w1 W2 := by rw [hW2]; exact (Below.refl _ w1).alloc (Nat.le_refl _) _
  have hx2 : Box4 W2 w1.heap.size (.slice none 0 0) (.slice none 0 0) (.int .i64 1) (.int .i64 1) := by rw [hW2]; exact Box4.made w1 _ _ _ _ _
  have z2 : w1.heap.size < W2.heap.size := by rw [hW2]; simp
  clear hW2
  generalize hbG : w1.heap.size = bG at *
  have L0 := Lib.hid (show AB w c l (.slice A1 l.length c1) W2 ∧ AR w (w.heap.size + 2) bG (stG c .new l 0) (.slice none 0 0) [] (resG c .new l 0) W2 from ⟨AB1.out.below (by rw [hbG]; exact hb2), (AB1.out.below (by rw [hbG]; exact hb2)).K, ⟨z2, by omega⟩, by omega, ⟨_, _, hx2, Gr.zero _ _ _ _⟩, Own.nil _ _ _ _, RVs.nil _ _⟩)
  clear hb2 hx2 z1 z2 AB1 hbG s0
  go_loopw [7, 15] (fun t p wr => ∃ (k : Nat) (rvs : List RV), k ≤ l.length ∧ p = .int .i64 (k : Int) ∧ Hid (AB w c l (.slice A1 l.length c1) wr ∧ AR w (w.heap.size + 2) bG (stG c .new l k) t rvs (resG c .new l k) wr)) (fun _ p _ => l.length - (intOf p).toNat)
  case atStart => exact ⟨0, [], Nat.zero_le _, rfl, L0⟩
  case round =>
    clear L0
    obtain ⟨wa, rfl⟩ : ∃ wa, wa = wr := ⟨wr, rfl⟩
    rename_i t7 t15
    obtain ⟨k, rvs, hk, rfl, hal⟩ := hrel
    obtain ⟨At, ct, rfl⟩ := hal.out.2.own.slice
    have hlg := hal.out.2.lg
    have hhl := hal.out.1.hl
    by_cases hlt : k < l.length
    case neg =>
      obtain rfl : k = l.length := by omega
      obtain ⟨vn, ve, hbox, hgr⟩ := hal.out.2.gr
      obtain ⟨⟨A3, L3, c3, rfl⟩, A4, L4, c4, rfl⟩ := hgr.sl3
      have HGR := Lib.hid hgr
      obtain ⟨x0, x1, x2, x3, xf⟩ := hbox
      obtain ⟨y0, y1, y2, y3, yf⟩ := hal.out.1.b4
      clear hgr
      have e1 : ¬ bG = w.heap.size + 1 := by omega
      have e2 : ¬ w.heap.size + 1 = bG := by omega
      go_wp2
      generalize hg : stG c .new l l.length = g at *
      generalize hrr : resG c .new l l.length = rs at *
      refine bodyPost_ret (v := .tuple #[.agg #[.slice A3 L3 c3, .slice A4 L4 c4, .int .i64 g.nn, .int .i64 g.ne], .slice At rvs.length ct]) (by simp [results, Try.results54, go_sem, y0, y1, y2, y3]; try rfl) rfl ?_
      have hs4 : ∀ j, j ≠ w.heap.size + 1 → (set4 wa (w.heap.size + 1) (.slice A3 L3 c3) (.slice A4 L4 c4) (.int .i64 g.nn) (.int .i64 g.ne)).heap[j]? = wa.heap[j]? := fun j hj => set4_heap _ _ _ _ _ _ _ hj
      refine ⟨_, _, _, rvs, rfl, (HGR.out.move (w' := set4 wa (w.heap.size + 1) _ _ _ _) fun j hj _ => hs4 j (by (try simp only at hj); omega)).mono fun j hj _ => ⟨by (try simp only at hj); omega, hj.2.2⟩, (hal.out.2.own.move (w' := set4 wa (w.heap.size + 1) _ _ _ _) fun j hj _ => hs4 j (by (try simp only at hj); omega)).mono fun j hj _ => by (try simp only at hj); omega, (hal.out.2.rs.move (w' := set4 wa (w.heap.size + 1) _ _ _ _) fun j hj _ => hs4 j (by (try simp only at hj); omega)).mono fun j hj _ => ⟨by (try simp only at hj); omega, hj.2.2⟩, set4_below hal.out.1.K (by omega) _ _ _ _⟩
    obtain ⟨x, hx⟩ := getElem?_of_lt hlt
    obtain ⟨bo, oo, rfl, hbo, hbl, o0, o1, o2, o3, o4⟩ := hal.out.1.row.atOp hx
    have HX := Lib.hid hx
    clear hx
    obtain ⟨vn, ve, hbox, hgr⟩ := hal.out.2.gr
    obtain ⟨⟨A3, L3, c3, rfl⟩, A4, L4, c4, rfl⟩ := hgr.sl3
    have HGR := Lib.hid hgr
    obtain ⟨x0, x1, x2, x3, xf⟩ := hbox
    obtain ⟨d0, d1, d2, d3, d4, df⟩ := hal.out.1.cf
    have q1 : w.heap.size < wa.heap.size := by omega
    clear hgr
    obtain ⟨W1, hW1⟩ : ∃ W1, W1 = wa.alloc (.cells #[.int .i64 x.k, .int .i64 x.a, .int .i64 x.b, .int .i64 x.p, .int .i64 x.v] 73) := ⟨_, rfl⟩
    go_wp2_with fail
    rw [← hW1]
    have hb1 : Below wa.heap.size wa W1 := by rw [hW1]; exact (Below.refl _ wa).alloc (Nat.le_refl _) _
    have s1 : wa.heap.size < W1.heap.size := by rw [hW1]; simp
    clear hW1
    refine (refDo_calls W1 _ c (stG c .new l k) _ _ x (HGR.out.below hb1) (run_rdy HC.out hn hk)).mono ?_
    rintro e w2 hpost
    obtain ⟨A5, L5, c5, A6, L6, c6, a1, d1', a2, d2', a3, d3', rfl, hgz, hrz, hb⟩ := do_slices hpost
    have HST := Lib.hid (stG_succ (c := c) (g := .new) HX.out)
    have HRS := Lib.hid (resG_succ (c := c) (g := .new) HX.out)
    revert HST HRS hgz hrz
    generalize doOf c (stG c .new l k) x = d
    intro hgz hrz HST HRS
    obtain ⟨z, r⟩ := d
    simp only at HST HRS hgz hrz ⊢
    have s2 := hb.size
    have hown := Lib.hid (fun j (hj : Value.ownBlock (.slice At rvs.length ct) = some j) => hal.out.2.lt hj)
    have HZ := Lib.hid (hgz.mono (S' := fun j => w.heap.size + 2 ≤ j ∧ j ≠ bG ∧ (Value.slice At rvs.length ct).ownBlock ≠ some j) fun j hj _ => ⟨by (try simp only at hj); omega, by (try simp only at hj); omega, fun e => by have := hown.out j e; (try simp only at hj); omega⟩)
    have HR := (RV1.of hrz).mono (S' := fun j => w.heap.size + 2 ≤ j ∧ j ≠ bG ∧ (Value.slice At rvs.length ct).ownBlock ≠ some j) fun j hj _ => ⟨by (try simp only at hj); omega, by (try simp only at hj); omega, fun e => by have := hown.out j e; (try simp only at hj); omega⟩
    have AB2 := (hal.out.1.below hb1).below hb
    have AR2 := (hal.out.2.below hb1).below hb
    obtain ⟨U, hU⟩ : ∃ U, U = set4 w2 bG (.slice A5 L5 c5) (.slice A6 L6 c6) (.int .i64 z.nn) (.int .i64 z.ne) := ⟨_, rfl⟩
    have hUk : ∀ j, j ≠ bG → U.heap[j]? = w2.heap[j]? := fun j hj => by rw [hU]; exact set4_heap _ _ _ _ _ _ _ hj
    have hUs : U.heap.size = w2.heap.size := by rw [hU]; exact set4_size _ _ _ _ _ _
    have ABU := AB2.move (W' := U) (by rw [hU]; exact set4_below AB2.K (by omega) _ _ _ _) (fun j hj => hUk j (by omega)) (by omega)
    have ARU := AR2.setG HZ.out
    rw [← hU] at ARU
    have HRU := HR.move (w' := U) fun j hj _ => hUk j hj.2.1
    have hb3 : Below U.heap.size U ((U.alloc (.cells #[.slice A5 L5 c5, .slice A6 L6 c6, .int .i64 z.nn, .int .i64 z.ne] 27)).alloc (.cells #[.int .i64 r.st, .int .i64 r.id, .slice a1 r.ps.length d1', .slice a2 r.os.length d2', .slice a3 r.is.length d3'] 75)) := (by repeat (first | (with_reducible exact Below.refl _ _) | (with_reducible exact Below.refl _ _) | (with_reducible refine Below.drew ?_) | (with_reducible refine Below.alloc ?_ (by simp; try omega) _) | (with_reducible refine Below.setCell ?_ (by simp; try omega) _)))
    have AB4 := Lib.hid (ABU.below hb3)
    have AR4 := Lib.hid (ARU.below hb3)
    have HR4 := Lib.hid ((⟨HRU.st, HRU.id, HRU.ps.below hb3, HRU.os.below hb3, HRU.is.below hb3⟩ : RV1 _ _ _ _))
    unfold set4 at hU
    subst hU
    have HL := Lib.hid (show rvs.length ≤ 60 from by rw [hal.out.2.rs.1, resG_len (by omega)]; omega)
    obtain ⟨x0, x1, x2, x3, xf⟩ : Box4 w2 bG (.slice A3 L3 c3) (.slice A4 L4 c4) (.int .i64 (stG c .new l k).nn) (.int .i64 (stG c .new l k).ne) := Box4.keep ⟨x0, x1, x2, x3, xf⟩ ((hb.block _ (by omega)).trans (hb1.block _ (by omega)))
    clear hpost hgz hrz hb hb1 hb3 o0 o1 o2 o3 o4 d0 d1 d2 d3 d4 df HGR hal HR HRU ABU ARU hUk hUs AB2 AR2 HZ
    have n1 : ¬ bG = w2.heap.size := by omega
    have n2 : ¬ bG = w2.heap.size + 1 := by omega
    have n3 : ¬ w2.heap.size = bG := by omega
    have n4 : ¬ w2.heap.size + 1 = bG := by omega
    have g1 : bG < w2.heap.size := by omega
    go_wp2_with (at_builtin; refine wpList_own_append1 (ty := tRV) (w := w) (S := fun j => w.heap.size + 2 ≤ j ∧ j ≠ bG) (Sy := fun _ => False) (v := .slice At rvs.length ct) (xs := rvs) (x := ⟨r.st, r.id, a1, r.ps.length, d1', a2, r.os.length, d2', a3, r.is.length, d3'⟩) rfl _ _ 67 75 88 _ rfl elemRes rfl ?hown rfl (by simp <;> omega) rfl ?hB ?hSw ?hSn ?hbytes ?hlen (fun _ h => h.elim) ?_)
    case hown => exact AR4.out.own
    case hB => exact AR4.out.K
    case hSw => exact fun j hj => by have := hj.1; omega
    case hSn => exact fun j _ hj => ⟨by simp at hj; omega, by simp at hj; omega⟩
    case hbytes => have := HL.out; omega
    case hlen => have := HL.out; unfold maxLen; omega
    intro v3 w3 ho3 hb3 hg3 hor3
    have AR5 := Lib.hid (AR4.out.app HR4.out hb3 ho3 hg3 (by simp only [World.size_alloc, World.size_setCell]; exact hor3))
    have hl4 := AB4.out.hl
    have AB5 := Lib.hid (AB4.out.move hb3 (fun j hj => hg3.block j (Nat.lt_of_lt_of_le hj hl4) (fun e => by have := (AR4.out.lt e.symm).1; omega)) hg3.size)
    clear AR4 AB4 HR4 hl4 hg3 hb3 ho3 hor3 x0 x1 x2 x3 xf
    go_wp2
    go_roundw
    case rel => exact ⟨k + 1, _, by omega, by first | (go_num; done) | (go_num; omega), Lib.hid ⟨AB5.out, by rw [HST.out, HRS.out]; exact AR5.out⟩⟩
    case measure => simp [intOf]; omega
end Go.Proofs.Ytpehmmdbjakkpaa
