/- ApplyAll: any operations done, one after the other, from nothing on. -/
import Derived.Test.YtpehmmdbjakkpaaLiveA
import Derived.Test.YtpehmmdbjakkpaaRefSameB
namespace Go.Proofs.Ytpehmmdbjakkpaa
open Go.RowKit Go.Shelf
set_option linter.unusedSimpArgs false
set_option linter.unusedVariables false
theorem all_slices {w : World} {g : GraphD} {rs : List ResD} {e : Ending} {w' : World} (h : AllPost w g rs e w') : ∃ A L c B M d C e1 rvs, e = .returned (.tuple #[.agg #[.slice A L c, .slice B M d, .int .i64 g.nn, .int .i64 g.ne], .slice C rvs.length e1]) ∧ Gr w' (fun k => w.heap.size ≤ k ∧ (Value.slice C rvs.length e1).ownBlock ≠ some k) g (.slice A L c) (.slice B M d) ∧ Own tRV 75 w' (fun k => w.heap.size ≤ k) (.slice C rvs.length e1) rvs ∧ RVs w' (fun k => w.heap.size ≤ k ∧ (Value.slice C rvs.length e1).ownBlock ≠ some k) rvs rs ∧ Below w.heap.size w w' := by
  obtain ⟨vn, ve, v, rvs, rfl, hg, ho, hr, hb⟩ := h
  obtain ⟨⟨A, L, c, rfl⟩, B, M, d, rfl⟩ := hg.sl3
  obtain ⟨C, e1, rfl⟩ := ho.slice
  exact ⟨A, L, c, B, M, d, C, e1, rvs, rfl, hg, ho, hr, hb⟩
set_option maxRecDepth 100000 in
set_option maxHeartbeats 16000000 in
theorem applyAll_walk (w : World) (c : CfgD) (vl : Value) (l : List OpD) {S : Nat → Prop} (hl : Row tOp w S vl l) : Calls Try.prog 9 #[c.val, vl] w fun e w' => e = .returned (.bool true) ∧ Below w.heap.size w w' := by
  have hm := hl.len
  unfold maxLen at hm
  obtain ⟨A1, c1, rfl⟩ := hl.slice
  obtain ⟨W0, hW⟩ : ∃ W0, W0 = w.alloc (.cells #[.int .i64 c.nodes, .int .i64 c.edges, .int .i64 c.props, .int .i64 c.ids, .int .i64 c.eids] 23) := ⟨_, rfl⟩
  have K0 := Lib.hid (show Below w.heap.size w W0 by rw [hW]; exact (Below.refl _ w).alloc (Nat.le_refl _) _)
  have s0 : w.heap.size < W0.heap.size := by rw [hW]; simp
  have C0 := Lib.hid (show Box5 W0 w.heap.size _ _ _ _ _ from Box5.of (n := 23) (by rw [hW]; exact heap_alloc_new w _))
  have R0 := Lib.hid (hl.below K0.out)
  clear hl
  unfold CfgD.val
  go_enter Try.func9, Try.ntmps9
  go_wp2_with fail
  rw [← hW]
  clear hW
  refine (live11_calls W0).mono ?_
  rintro e w1 ⟨rfl, hb⟩
  have s1 := hb.size
  have K1 := Lib.hid (K0.out.trans (hb.mono K0.out.size))
  have C1 := Lib.hid (C0.out.keep (hb.block _ s0))
  have R1 := Lib.hid (R0.out.below hb)
  clear hb K0 C0 R0
  obtain ⟨d0, d1, d2, d3, d4, df⟩ := C1.out
  have g1 : w.heap.size < w1.heap.size := by omega
  go_wp2_with fail
  refine (ref03_calls w1 c).mono ?_
  rintro e w2 ⟨x, rfl, hx, hb⟩
  have s2 := hb.size
  have K2 := Lib.hid (K1.out.trans (hb.mono K1.out.size))
  have C2 := Lib.hid (C1.out.keep (hb.block _ g1))
  have R2 := Lib.hid (R1.out.below hb)
  clear hb K1 C1 R1 d0 d1 d2 d3 d4 df
  rcases hx with ⟨rfl, hok⟩ | ⟨rfl, _⟩
  case inr =>
    go_wp2
    go_ret
    exact ⟨rfl, K2.out⟩
  have HOK := Lib.hid hok
  clear hok
  by_cases hn : l.length ≤ 60
  case neg =>
    have hd : decide ((60 : Int) < (l.length : Int)) = true := by simp; omega
    go_wp2
    go_ret
    exact ⟨rfl, K2.out⟩
  have hd : decide ((60 : Int) < (l.length : Int)) = false := by simp; omega
  have HN := Lib.hid hn
  clear hn
  obtain ⟨d0, d1, d2, d3, d4, df⟩ := C2.out
  have g2 : w.heap.size < w2.heap.size := by omega
  go_wp2_with fail
  clear hd
  refine (all_calls w2 _ c l _ R2.out HOK.out HN.out).mono ?_
  rintro e w3 hp
  obtain ⟨A3, L3, c3, A4, L4, c4, A5, c5, rvs, rfl, hg, ho, hr, hb⟩ := all_slices hp
  have s3 := hb.size
  have K3 := Lib.hid (K2.out.trans (hb.mono K2.out.size))
  have C3 := Lib.hid (C2.out.keep (hb.block _ g2))
  have R3 := Lib.hid (R2.out.below hb)
  clear hb hp K2 C2 R2 d0 d1 d2 d3 d4 df
  obtain ⟨z, hz⟩ : ∃ z, z = stG c .new l l.length := ⟨_, rfl⟩
  rw [← hz] at hg ⊢
  have HZ := Lib.hid hz
  clear hz
  obtain ⟨U, hU⟩ : ∃ U, U = w3.alloc (.cells #[.slice A3 L3 c3, .slice A4 L4 c4, .int .i64 z.nn, .int .i64 z.ne] 27) := ⟨_, rfl⟩
  have g3 : w.heap.size < w3.heap.size := by omega
  obtain ⟨d0, d1, d2, d3, d4, df⟩ := C3.out
  have hbu : Below w3.heap.size w3 U := by rw [hU]; exact (Below.refl _ w3).alloc (Nat.le_refl _) _
  have gU : w3.heap.size < U.heap.size := by rw [hU]; simp
  have BU := Lib.hid (show Box4 U w3.heap.size _ _ _ _ by rw [hU]; exact Box4.made w3 27 (.slice A3 L3 c3) (.slice A4 L4 c4) (.int .i64 z.nn) (.int .i64 z.ne))
  have G1 := Lib.hid (hg.below hbu)
  have O1 := Lib.hid (ho.row.below hbu)
  have V1 := Lib.hid (hr.below hbu)
  have KU := Lib.hid (K3.out.trans (hbu.mono K3.out.size))
  have RU := Lib.hid (R3.out.below hbu)
  clear hg ho hr hbu K3 C3 R3
  go_wp2_with fail
  rw [← hU]
  clear hU d0 d1 d2 d3 d4 df
  refine (refAll_calls U _ c l _ RU.out HOK.out HN.out).mono ?_
  rintro e w4 hp
  obtain ⟨A6, L6, c6, A7, L7, c7, A8, c8, svs, rfl, hg, ho, hr, hb⟩ := all_slices hp
  rw [← HZ.out] at hg ⊢
  clear HZ
  have s4 := hb.size
  have B4 := BU.out.keep (hb.block _ gU)
  have G2 := Lib.hid (G1.out.below hb)
  have O2 := Lib.hid (O1.out.below hb)
  have V2 := Lib.hid (V1.out.below hb)
  have K4 := Lib.hid (KU.out.trans (hb.mono KU.out.size))
  have G3 := Lib.hid hg
  have O3 := Lib.hid ho.row
  have V3 := Lib.hid hr
  clear hb hp hg ho hr G1 O1 V1 KU RU BU
  obtain ⟨x0, x1, x2, x3, xf⟩ := B4
  have g4 : w3.heap.size < w4.heap.size := by omega
  obtain ⟨Y, hY⟩ : ∃ Y, Y = w4.alloc (.cells #[.slice A6 L6 c6, .slice A7 L7 c7, .int .i64 z.nn, .int .i64 z.ne] 27) := ⟨_, rfl⟩
  have hby : Below w4.heap.size w4 Y := by rw [hY]; exact (Below.refl _ w4).alloc (Nat.le_refl _) _
  go_wp2_with fail
  rw [← hY]
  clear hY
  have KY := Lib.hid (K4.out.trans (hby.mono K4.out.size))
  refine (refSameB_calls Y (fun _ => True) z z _ _ _ _ ((G2.out.below hby).mono fun _ _ _ => trivial) ((G3.out.below hby).mono fun _ _ _ => trivial)).mono ?_
  rintro e w5 ⟨b, rfl, hb, hbel⟩
  obtain rfl : b = true := hb.2 (by trivial)
  have K5 := Lib.hid (KY.out.trans (hbel.mono KY.out.size))
  have hlr : rvs.length ≤ 100000 := by have h1 := V2.out.1; have h2 : (resG c .new l l.length).length = l.length := resG_len (Nat.le_refl _); have := HN.out; omega
  have HS := Lib.hid (sameAll_calls w5 _ _ _ _ _ _ rvs svs _ _ ((O2.out.below hby).below hbel) ((V2.out.below hby).below hbel) ((O3.out.below hby).below hbel) ((V3.out.below hby).below hbel) hlr)
  clear hb hbel hby x0 x1 x2 x3 xf
  go_wp2_with fail
  refine HS.out.mono ?_
  rintro e w6 ⟨b, rfl, hb, hbel⟩
  obtain rfl : b = true := hb.2 (by trivial)
  have K6 := Lib.hid (K5.out.trans (hbel.mono K5.out.size))
  clear hb hbel HS
  go_wp2
  go_ret
  exact ⟨rfl, K6.out⟩
end Go.Proofs.Ytpehmmdbjakkpaa
