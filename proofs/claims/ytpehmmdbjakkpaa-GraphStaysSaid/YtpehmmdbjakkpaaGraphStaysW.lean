/- GraphStays: what comes of a graph that may be may be, as long as there are records for it; numbers never go back. -/
import Derived.Test.YtpehmmdbjakkpaaStaysLaw
import Derived.Test.YtpehmmdbjakkpaaFuseH
import Derived.Test.YtpehmmdbjakkpaaDelG
import Derived.Test.YtpehmmdbjakkpaaGraphEdgesW
namespace Go.Proofs.Ytpehmmdbjakkpaa
open Go.RowKit Go.Shelf
set_option linter.unusedSimpArgs false
set_option linter.unusedVariables false
/-- Graphs as elements. -/
def tGr : Ty GraphD where
  sz := 4
  pos := by decide
  K := fun w S z cs => ∃ vn ve, cs = [vn, ve, .int .i64 z.nn, .int .i64 z.ne] ∧ Gr w S z vn ve
  len := by rintro w S x cs ⟨vn, ve, rfl, _⟩; rfl
  one := by
    rintro w S x cs ⟨vn, ve, rfl, h⟩ u hu
    obtain ⟨⟨A, c, rfl⟩, ⟨B, d, rfl⟩⟩ := h.slices
    simp only [List.mem_cons, List.not_mem_nil, or_false] at hu
    rcases hu with rfl | rfl | rfl | rfl <;> rfl
  mono := by rintro w S S' x cs hs ⟨vn, ve, rfl, h⟩; exact ⟨vn, ve, rfl, h.mono hs⟩
  move := by rintro w w' S x cs hs ⟨vn, ve, rfl, h⟩; exact ⟨vn, ve, rfl, h.move hs⟩
theorem elemGraphs : ElemOf Try.prog 63 27 tGr.sz 64 (.agg #[.slice none 0 0, .slice none 0 0, .int .i64 0, .int .i64 0]) := ⟨Try.underlying63, by kernel_rfl, rfl⟩
structure SSt (w : World) (c : CfgD) (g : GraphD) (vn ve : Value) (B0 : Nat) (W : World) (v : Value) (n : Nat) : Prop where
  K : Below w.heap.size w W
  cf : W.heap[w.heap.size]? = some (.cells #[.int .i64 c.nodes, .int .i64 c.edges, .int .i64 c.props, .int .i64 c.ids, .int .i64 c.eids] 23 (0, 0))
  bg : Box4 W (w.heap.size + 1) vn ve (.int .i64 g.nn) (.int .i64 g.ne)
  hg : Gr W (fun k => k < w.heap.size) g vn ve
  own : ∃ zs, Own tGr 27 W (fun k => B0 ≤ k) v zs ∧ (∀ z ∈ zs, Good c g z) ∧ zs.length ≤ n
  o1 : w.heap.size + 1 < B0
  o2 : B0 ≤ W.heap.size
section
variable {w W W' : World} {c : CfgD} {g : GraphD} {vn ve v v' : Value} {B0 n : Nat}
theorem SSt.below (h : SSt w c g vn ve B0 W v n) (hb : Below W.heap.size W W') : SSt w c g vn ve B0 W' v n := by
  have h1 := h.o1
  have h2 := h.o2
  obtain ⟨zs, h3, h4, h5⟩ := h.own
  exact ⟨h.K.trans (hb.mono h.K.size), (hb.block _ (by omega)).trans h.cf, h.bg.keep (hb.block _ (by omega)), h.hg.below hb, ⟨zs, h3.below hb, h4, h5⟩, h1, Nat.le_trans h2 hb.size⟩
theorem SSt.up (h : SSt w c g vn ve B0 W v n) {m : Nat} (hm : n ≤ m) : SSt w c g vn ve B0 W v m := by
  obtain ⟨zs, h3, h4, h5⟩ := h.own
  exact ⟨h.K, h.cf, h.bg, h.hg, ⟨zs, h3, h4, by omega⟩, h.o1, h.o2⟩
/-- One more. -/
theorem SSt.app (h : SSt w c g vn ve B0 W v n) {zs : List GraphD} {z : GraphD} (hk : ∀ k, v.ownBlock = some k → B0 ≤ k) (hg : W.grownBy W' v.ownBlock) (hB : Below w.heap.size w W') (ho : Own tGr 27 W' (fun k => B0 ≤ k) v' (zs ++ [z])) (hz : Good c g z) (hzs : ∀ z ∈ zs, Good c g z) (hn : zs.length ≤ n) : SSt w c g vn ve B0 W' v' (n + 1) := by
  have h1 := h.o1
  have h2 := h.o2
  have hs : ∀ k, k < B0 → W'.heap[k]? = W.heap[k]? := fun k hk2 => hg.block k (by omega) (fun e => by have := hk k e.symm; omega)
  refine ⟨hB, (hs _ (by omega)).trans h.cf, h.bg.keep (hs _ (by omega)), h.hg.move (fun k (hk2 : k < w.heap.size) _ => hs k (by omega)), ⟨_, ho, fun y hy => ?_, by simp; omega⟩, h1, Nat.le_trans h2 hg.size⟩
  rcases List.mem_append.1 hy with hy | hy
  · exact hzs y hy
  · simp at hy; subst hy; exact hz
theorem SSt.lt (h : SSt w c g vn ve B0 W v n) (k : Nat) (hk : v.ownBlock = some k) : B0 ≤ k ∧ k < W.heap.size := by
  obtain ⟨zs, h3, _⟩ := h.own
  exact ⟨h3.1 k hk, h3.lt k hk⟩
theorem SSt.cells (h : SSt w c g vn ve B0 W v n) : W.cell? ⟨w.heap.size, 0, none⟩ = some (.int .i64 c.nodes) ∧ W.cell? ⟨w.heap.size, 1, none⟩ = some (.int .i64 c.edges) ∧ W.cell? ⟨w.heap.size, 2, none⟩ = some (.int .i64 c.props) ∧ W.cell? ⟨w.heap.size, 3, none⟩ = some (.int .i64 c.ids) ∧ W.cell? ⟨w.heap.size, 4, none⟩ = some (.int .i64 c.eids) := by
  have h1 := h.cf
  simp [World.cell?, h1]
end
theorem Row.atGr {w : World} {S : Nat → Prop} {A : Option Addr} {n c : Nat} {xs : List GraphD} (h : Row tGr w S (.slice A n c) xs) {j : Nat} {x : GraphD} (hj : xs[j]? = some x) :
    ∃ b off a1 d1 a2 d2, A = some ⟨b, off, none⟩ ∧ S b ∧ b < w.heap.size ∧ w.cell? ⟨b, off + j * 4, none⟩ = some (.slice a1 x.nodes.length d1) ∧ w.cell? ⟨b, off + j * 4 + 1, none⟩ = some (.slice a2 x.edges.length d2) ∧ w.cell? ⟨b, off + j * 4 + 2, none⟩ = some (.int .i64 x.nn) ∧ w.cell? ⟨b, off + j * 4 + 3, none⟩ = some (.int .i64 x.ne) ∧ Gr w S x (.slice a1 x.nodes.length d1) (.slice a2 x.edges.length d2) := by
  obtain ⟨b, off, cs, hA, hS, hl, ⟨vn, ve, rfl, hg⟩, hr⟩ := h.at hj
  obtain ⟨⟨a1, d1, rfl⟩, ⟨a2, d2, rfl⟩⟩ := hg.slices
  exact ⟨b, off, a1, d1, a2, d2, hA, hS, hl, hr 0 _ rfl, hr 1 _ rfl, hr 2 _ rfl, hr 3 _ rfl, hg⟩
theorem Gr.three3 {W : World} {S : Nat → Prop} {z : GraphD} {zn ze : Value} (h : Gr W S z zn ze) : (∃ A L c, zn = .slice A L c) ∧ ∃ A L c, ze = .slice A L c := by
  obtain ⟨⟨A, c, h1⟩, ⟨B, d, h2⟩⟩ := h.slices
  exact ⟨⟨A, _, c, h1⟩, ⟨B, _, d, h2⟩⟩
set_option maxRecDepth 100000 in
set_option maxHeartbeats 16000000 in
theorem graphStays_walk (w : World) (c : CfgD) (g : GraphD) (vn ve : Value) (hg : Gr w (fun _ => True) g vn ve) (a b k v : Int) : Calls Try.prog 8 #[c.val, .agg #[vn, ve, .int .i64 g.nn, .int .i64 g.ne], .int .i64 a, .int .i64 b, .int .i64 k, .int .i64 v] w fun e w' => e = .returned (.bool true) ∧ Below w.heap.size w w' := by
  obtain ⟨⟨A1, c1, rfl⟩, ⟨A2, c2, rfl⟩⟩ := hg.slices
  have hgb := hg.bound.mono (S' := fun k => k < w.heap.size) fun k hk _ => hk.2
  obtain ⟨W0, hW⟩ : ∃ W0, W0 = (w.alloc (.cells #[.int .i64 c.nodes, .int .i64 c.edges, .int .i64 c.props, .int .i64 c.ids, .int .i64 c.eids] 23)).alloc (.cells #[.slice A1 g.nodes.length c1, .slice A2 g.edges.length c2, .int .i64 g.nn, .int .i64 g.ne] 27) := ⟨_, rfl⟩
  have hK : Below w.heap.size w W0 := by rw [hW]; exact ((Below.refl w.heap.size w).alloc (Nat.le_refl _) _).alloc (by simp) _
  have s0 : W0.heap.size = w.heap.size + 1 + 1 := by rw [hW]; simp
  have ST := Lib.hid (show SSt w c g (.slice A1 g.nodes.length c1) (.slice A2 g.edges.length c2) W0.heap.size W0 (.slice none 0 0) 0 from
    ⟨hK, by rw [hW]; exact (Below.heap_alloc _ _ _ (by simp)).trans (heap_alloc_new w _), by
      rw [hW]
      have := Box4.made (w.alloc (.cells #[.int .i64 c.nodes, .int .i64 c.edges, .int .i64 c.props, .int .i64 c.ids, .int .i64 c.eids] 23)) 27 (.slice A1 g.nodes.length c1) (.slice A2 g.edges.length c2) (.int .i64 g.nn) (.int .i64 g.ne)
      rw [World.size_alloc] at this
      exact this, hgb.below hK, ⟨[], Own.nil _ _ _ _, by simp, by simp⟩, by omega, Nat.le_refl _⟩)
  have HW := Lib.hid hW
  clear hg hgb hW hK
  unfold CfgD.val
  go_enter Try.func8, Try.ntmps8
  go_wp2_with fail
  rw [← HW.out]
  refine (live_calls W0).mono ?_
  rintro e w1 ⟨rfl, hb⟩
  have s1 := hb.size
  have ST := Lib.hid (ST.out.below hb)
  clear hb HW
  have g1 : w.heap.size + 1 < w1.heap.size := by omega
  have g2 : w.heap.size < w1.heap.size := by omega
  generalize hB0 : W0.heap.size = B0 at ST s1 s0
  clear s0 hB0
  obtain ⟨x0, x1, x2, x3, xf⟩ := ST.out.bg
  obtain ⟨d0, d1, d2, d3, d4⟩ := ST.out.cells
  go_wp2_with fail
  refine (may_calls w1 _ c g _ _ ST.out.hg).mono ?_
  rintro e w2 ⟨b0, rfl, hmay, hb⟩
  have s2 := hb.size
  have ST := Lib.hid (ST.out.below hb)
  clear hb x0 x1 x2 x3 xf d0 d1 d2 d3 d4
  cases b0
  · go_wp2
    go_ret
    exact ⟨rfl, ST.out.K⟩
  obtain ⟨hf, hm⟩ := hmay rfl
  have HM := Lib.hid hm
  have HF := Lib.hid hf
  have HS := Lib.hid hf.small
  have HGO := Lib.hid (hm.start hf)
  have HR := Lib.hid (hm.start hf).wf.rs
  have HP := Lib.hid hf.2.2
  have hf1 := hf.1
  have hf2 := hf.2.1
  have hni : c.ids ≤ 1000000 := by have := hm.head.cfg.2.2.2.1.2; omega
  have hei : c.eids ≤ 1000000 := by have := hm.head.cfg.2.2.2.2.2; omega
  have hnn : 0 ≤ g.nn := by have := hm.head.nn.1; omega
  have hne : 0 ≤ g.ne := by have := hm.head.ne.1; omega
  clear hmay hf hm
  have g3 : w.heap.size + 1 < w2.heap.size := by omega
  have g4 : w.heap.size < w2.heap.size := by omega
  obtain ⟨x0, x1, x2, x3, xf⟩ := ST.out.bg
  obtain ⟨d0, d1, d2, d3, d4⟩ := ST.out.cells
  go_wp2_with fail
  rename_i Kr ar Kc ac Ki ai
  have CUT0 : ∀ (v1 u0 u1 u8 u9 u10 u11 u14 u15 u16 u17 u18 u19 u20 u21 u22 u23 u24 u25 u26 u27 u28 u29 u30 u31 u32 u33 u34 u35 u36 u37 u38 u39 u40 u41 u42 u43 u44 u45 u46 u47 u48 u49 u50 u51 u52 u53 u54 u55 u56 u57 u58 u59 u60 u61 u62 u63 u64 u65 u66 u67 u68 u69 u70 u71 u72 u73 u74 u75 u76 u77 u78 u79 u80 u81 u82 u83 u84 u85 u86 u87 u88 u89 u90 u91 u92 u93 u94 u95 u96 u97 u98 u99 u100 u101 u102 u103 u104 u105 u106 u107 u108 u109 u110 u111 u112 u113 u114 u115 u116 u117 u118 u119 u120 u121 u122 u123 u124 u125 u126 u127 u128 u129 u130 u131 u132 u133 u134 u135 u136 u137 u138 u139 u140 u141 u142 u143 u144 u145 u146 u147 u148 u149 u150 u151 u152 u153 u154 u155 u156 u157 u158 u159 u160 u161 u162 u163 u164 u165 u166 u167 u168 u169 u170 u171 u172 u173 u174 u175 u176 u177 u178 u179 u180 u181 u182 u183 u184 u185 u186 u187 u188 u189 : Value) (W1 : World), SSt w c g (.slice A1 g.nodes.length c1) (.slice A2 g.edges.length c2) B0 W1 v1 1 → Kr {tmps := #[u0, u1, .int .i64 a, .int .i64 b, .int .i64 k, .int .i64 v, .pointer (some ⟨w.heap.size, 0, none⟩), .pointer (some ⟨w.heap.size + 1, 0, none⟩), u8, u9, u10, u11, .bool false, v1, u14, u15, u16, u17, u18, u19, u20, u21, u22, u23, u24, u25, u26, u27, u28, u29, u30, u31, u32, u33, u34, u35, u36, u37, u38, u39, u40, u41, u42, u43, u44, u45, u46, u47, u48, u49, u50, u51, u52, u53, u54, u55, u56, u57, u58, u59, u60, u61, u62, u63, u64, u65, u66, u67, u68, u69, u70, u71, u72, u73, u74, u75, u76, u77, u78, u79, u80, u81, u82, u83, u84, u85, u86, u87, u88, u89, u90, u91, u92, u93, u94, u95, u96, u97, u98, u99, u100, u101, u102, u103, u104, u105, u106, u107, u108, u109, u110, u111, u112, u113, u114, u115, u116, u117, u118, u119, u120, u121, u122, u123, u124, u125, u126, u127, u128, u129, u130, u131, u132, u133, u134, u135, u136, u137, u138, u139, u140, u141, u142, u143, u144, u145, u146, u147, u148, u149, u150, u151, u152, u153, u154, u155, u156, u157, u158, u159, u160, u161, u162, u163, u164, u165, u166, u167, u168, u169, u170, u171, u172, u173, u174, u175, u176, u177, u178, u179, u180, u181, u182, u183, u184, u185, u186, u187, u188, u189], defers := []} W1 := by
    intro v1 u0 u1 u8 u9 u10 u11 u14 u15 u16 u17 u18 u19 u20 u21 u22 u23 u24 u25 u26 u27 u28 u29 u30 u31 u32 u33 u34 u35 u36 u37 u38 u39 u40 u41 u42 u43 u44 u45 u46 u47 u48 u49 u50 u51 u52 u53 u54 u55 u56 u57 u58 u59 u60 u61 u62 u63 u64 u65 u66 u67 u68 u69 u70 u71 u72 u73 u74 u75 u76 u77 u78 u79 u80 u81 u82 u83 u84 u85 u86 u87 u88 u89 u90 u91 u92 u93 u94 u95 u96 u97 u98 u99 u100 u101 u102 u103 u104 u105 u106 u107 u108 u109 u110 u111 u112 u113 u114 u115 u116 u117 u118 u119 u120 u121 u122 u123 u124 u125 u126 u127 u128 u129 u130 u131 u132 u133 u134 u135 u136 u137 u138 u139 u140 u141 u142 u143 u144 u145 u146 u147 u148 u149 u150 u151 u152 u153 u154 u155 u156 u157 u158 u159 u160 u161 u162 u163 u164 u165 u166 u167 u168 u169 u170 u171 u172 u173 u174 u175 u176 u177 u178 u179 u180 u181 u182 u183 u184 u185 u186 u187 u188 u189 W1 hST
    refine ar _ _ ?_
    clear ai Ki ac Kc ar Kr ST x0 x1 x2 x3 xf d0 d1 d2 d3 d4 g3 g4
    have ST := Lib.hid hST
    clear hST
    have g3 : w.heap.size + 1 < W1.heap.size := by have := ST.out.o1; have := ST.out.o2; omega
    have g4 : w.heap.size < W1.heap.size := by omega
    have g6 := ST.out.o2
    obtain ⟨x0, x1, x2, x3, xf⟩ := ST.out.bg
    obtain ⟨d0, d1, d2, d3, d4⟩ := ST.out.cells
    go_wp2_with fail
    rename_i Kr ar Kc ac Ki ai
    have CUT0 : ∀ (v2 u0 u1 u8 u9 u10 u11 u14 u15 u16 u17 u18 u19 u20 u21 u22 u23 u24 u25 u26 u27 u28 u29 u30 u31 u32 u33 u34 u35 u36 u37 u38 u39 u40 u41 u42 u43 u44 u45 u46 u47 u48 u49 u50 u51 u52 u53 u54 u55 u56 u57 u58 u59 u60 u61 u62 u63 u64 u65 u66 u67 u68 u69 u70 u71 u72 u73 u74 u75 u76 u77 u78 u79 u80 u81 u82 u83 u84 u85 u86 u87 u88 u89 u90 u91 u92 u93 u94 u95 u96 u97 u98 u99 u100 u101 u102 u103 u104 u105 u106 u107 u108 u109 u110 u111 u112 u113 u114 u115 u116 u117 u118 u119 u120 u121 u122 u123 u124 u125 u126 u127 u128 u129 u130 u131 u132 u133 u134 u135 u136 u137 u138 u139 u140 u141 u142 u143 u144 u145 u146 u147 u148 u149 u150 u151 u152 u153 u154 u155 u156 u157 u158 u159 u160 u161 u162 u163 u164 u165 u166 u167 u168 u169 u170 u171 u172 u173 u174 u175 u176 u177 u178 u179 u180 u181 u182 u183 u184 u185 u186 u187 u188 u189 : Value) (W2 : World), SSt w c g (.slice A1 g.nodes.length c1) (.slice A2 g.edges.length c2) B0 W2 v2 2 → Kr {tmps := #[u0, u1, .int .i64 a, .int .i64 b, .int .i64 k, .int .i64 v, .pointer (some ⟨w.heap.size, 0, none⟩), .pointer (some ⟨w.heap.size + 1, 0, none⟩), u8, u9, u10, u11, .bool false, v2, u14, u15, u16, u17, u18, u19, u20, u21, u22, u23, u24, u25, u26, u27, u28, u29, u30, u31, u32, u33, u34, u35, u36, u37, u38, u39, u40, u41, u42, u43, u44, u45, u46, u47, u48, u49, u50, u51, u52, u53, u54, u55, u56, u57, u58, u59, u60, u61, u62, u63, u64, u65, u66, u67, u68, u69, u70, u71, u72, u73, u74, u75, u76, u77, u78, u79, u80, u81, u82, u83, u84, u85, u86, u87, u88, u89, u90, u91, u92, u93, u94, u95, u96, u97, u98, u99, u100, u101, u102, u103, u104, u105, u106, u107, u108, u109, u110, u111, u112, u113, u114, u115, u116, u117, u118, u119, u120, u121, u122, u123, u124, u125, u126, u127, u128, u129, u130, u131, u132, u133, u134, u135, u136, u137, u138, u139, u140, u141, u142, u143, u144, u145, u146, u147, u148, u149, u150, u151, u152, u153, u154, u155, u156, u157, u158, u159, u160, u161, u162, u163, u164, u165, u166, u167, u168, u169, u170, u171, u172, u173, u174, u175, u176, u177, u178, u179, u180, u181, u182, u183, u184, u185, u186, u187, u188, u189], defers := []} W2 := by
      intro v2 u0 u1 u8 u9 u10 u11 u14 u15 u16 u17 u18 u19 u20 u21 u22 u23 u24 u25 u26 u27 u28 u29 u30 u31 u32 u33 u34 u35 u36 u37 u38 u39 u40 u41 u42 u43 u44 u45 u46 u47 u48 u49 u50 u51 u52 u53 u54 u55 u56 u57 u58 u59 u60 u61 u62 u63 u64 u65 u66 u67 u68 u69 u70 u71 u72 u73 u74 u75 u76 u77 u78 u79 u80 u81 u82 u83 u84 u85 u86 u87 u88 u89 u90 u91 u92 u93 u94 u95 u96 u97 u98 u99 u100 u101 u102 u103 u104 u105 u106 u107 u108 u109 u110 u111 u112 u113 u114 u115 u116 u117 u118 u119 u120 u121 u122 u123 u124 u125 u126 u127 u128 u129 u130 u131 u132 u133 u134 u135 u136 u137 u138 u139 u140 u141 u142 u143 u144 u145 u146 u147 u148 u149 u150 u151 u152 u153 u154 u155 u156 u157 u158 u159 u160 u161 u162 u163 u164 u165 u166 u167 u168 u169 u170 u171 u172 u173 u174 u175 u176 u177 u178 u179 u180 u181 u182 u183 u184 u185 u186 u187 u188 u189 W2 hST
      refine ar _ _ ?_
      clear ai Ki ac Kc ar Kr ST x0 x1 x2 x3 xf d0 d1 d2 d3 d4 g3 g4 g6
      have ST := Lib.hid hST
      clear hST
      have g3 : w.heap.size + 1 < W2.heap.size := by have := ST.out.o1; have := ST.out.o2; omega
      have g4 : w.heap.size < W2.heap.size := by omega
      have g6 := ST.out.o2
      obtain ⟨x0, x1, x2, x3, xf⟩ := ST.out.bg
      obtain ⟨d0, d1, d2, d3, d4⟩ := ST.out.cells
      go_wp2_with fail
      rename_i Kr ar Kc ac Ki ai
      have CUT0 : ∀ (v3 u0 u1 u8 u9 u10 u11 u14 u15 u16 u17 u18 u19 u20 u21 u22 u23 u24 u25 u26 u27 u28 u29 u30 u31 u32 u33 u34 u35 u36 u37 u38 u39 u40 u41 u42 u43 u44 u45 u46 u47 u48 u49 u50 u51 u52 u53 u54 u55 u56 u57 u58 u59 u60 u61 u62 u63 u64 u65 u66 u67 u68 u69 u70 u71 u72 u73 u74 u75 u76 u77 u78 u79 u80 u81 u82 u83 u84 u85 u86 u87 u88 u89 u90 u91 u92 u93 u94 u95 u96 u97 u98 u99 u100 u101 u102 u103 u104 u105 u106 u107 u108 u109 u110 u111 u112 u113 u114 u115 u116 u117 u118 u119 u120 u121 u122 u123 u124 u125 u126 u127 u128 u129 u130 u131 u132 u133 u134 u135 u136 u137 u138 u139 u140 u141 u142 u143 u144 u145 u146 u147 u148 u149 u150 u151 u152 u153 u154 u155 u156 u157 u158 u159 u160 u161 u162 u163 u164 u165 u166 u167 u168 u169 u170 u171 u172 u173 u174 u175 u176 u177 u178 u179 u180 u181 u182 u183 u184 u185 u186 u187 u188 u189 : Value) (W3 : World), SSt w c g (.slice A1 g.nodes.length c1) (.slice A2 g.edges.length c2) B0 W3 v3 3 → Kr {tmps := #[u0, u1, .int .i64 a, .int .i64 b, .int .i64 k, .int .i64 v, .pointer (some ⟨w.heap.size, 0, none⟩), .pointer (some ⟨w.heap.size + 1, 0, none⟩), u8, u9, u10, u11, .bool false, v3, u14, u15, u16, u17, u18, u19, u20, u21, u22, u23, u24, u25, u26, u27, u28, u29, u30, u31, u32, u33, u34, u35, u36, u37, u38, u39, u40, u41, u42, u43, u44, u45, u46, u47, u48, u49, u50, u51, u52, u53, u54, u55, u56, u57, u58, u59, u60, u61, u62, u63, u64, u65, u66, u67, u68, u69, u70, u71, u72, u73, u74, u75, u76, u77, u78, u79, u80, u81, u82, u83, u84, u85, u86, u87, u88, u89, u90, u91, u92, u93, u94, u95, u96, u97, u98, u99, u100, u101, u102, u103, u104, u105, u106, u107, u108, u109, u110, u111, u112, u113, u114, u115, u116, u117, u118, u119, u120, u121, u122, u123, u124, u125, u126, u127, u128, u129, u130, u131, u132, u133, u134, u135, u136, u137, u138, u139, u140, u141, u142, u143, u144, u145, u146, u147, u148, u149, u150, u151, u152, u153, u154, u155, u156, u157, u158, u159, u160, u161, u162, u163, u164, u165, u166, u167, u168, u169, u170, u171, u172, u173, u174, u175, u176, u177, u178, u179, u180, u181, u182, u183, u184, u185, u186, u187, u188, u189], defers := []} W3 := by
        intro v3 u0 u1 u8 u9 u10 u11 u14 u15 u16 u17 u18 u19 u20 u21 u22 u23 u24 u25 u26 u27 u28 u29 u30 u31 u32 u33 u34 u35 u36 u37 u38 u39 u40 u41 u42 u43 u44 u45 u46 u47 u48 u49 u50 u51 u52 u53 u54 u55 u56 u57 u58 u59 u60 u61 u62 u63 u64 u65 u66 u67 u68 u69 u70 u71 u72 u73 u74 u75 u76 u77 u78 u79 u80 u81 u82 u83 u84 u85 u86 u87 u88 u89 u90 u91 u92 u93 u94 u95 u96 u97 u98 u99 u100 u101 u102 u103 u104 u105 u106 u107 u108 u109 u110 u111 u112 u113 u114 u115 u116 u117 u118 u119 u120 u121 u122 u123 u124 u125 u126 u127 u128 u129 u130 u131 u132 u133 u134 u135 u136 u137 u138 u139 u140 u141 u142 u143 u144 u145 u146 u147 u148 u149 u150 u151 u152 u153 u154 u155 u156 u157 u158 u159 u160 u161 u162 u163 u164 u165 u166 u167 u168 u169 u170 u171 u172 u173 u174 u175 u176 u177 u178 u179 u180 u181 u182 u183 u184 u185 u186 u187 u188 u189 W3 hST
        refine ar _ _ ?_
        clear ai Ki ac Kc ar Kr ST x0 x1 x2 x3 xf d0 d1 d2 d3 d4 g3 g4 g6
        have ST := Lib.hid hST
        clear hST
        have g3 : w.heap.size + 1 < W3.heap.size := by have := ST.out.o1; have := ST.out.o2; omega
        have g4 : w.heap.size < W3.heap.size := by omega
        have g6 := ST.out.o2
        obtain ⟨x0, x1, x2, x3, xf⟩ := ST.out.bg
        obtain ⟨d0, d1, d2, d3, d4⟩ := ST.out.cells
        go_wp2_with fail
        rename_i Kr ar Kc ac Ki ai
        have CUT0 : ∀ (v4 u0 u1 u8 u9 u10 u11 u14 u15 u16 u17 u18 u19 u20 u21 u22 u23 u24 u25 u26 u27 u28 u29 u30 u31 u32 u33 u34 u35 u36 u37 u38 u39 u40 u41 u42 u43 u44 u45 u46 u47 u48 u49 u50 u51 u52 u53 u54 u55 u56 u57 u58 u59 u60 u61 u62 u63 u64 u65 u66 u67 u68 u69 u70 u71 u72 u73 u74 u75 u76 u77 u78 u79 u80 u81 u82 u83 u84 u85 u86 u87 u88 u89 u90 u91 u92 u93 u94 u95 u96 u97 u98 u99 u100 u101 u102 u103 u104 u105 u106 u107 u108 u109 u110 u111 u112 u113 u114 u115 u116 u117 u118 u119 u120 u121 u122 u123 u124 u125 u126 u127 u128 u129 u130 u131 u132 u133 u134 u135 u136 u137 u138 u139 u140 u141 u142 u143 u144 u145 u146 u147 u148 u149 u150 u151 u152 u153 u154 u155 u156 u157 u158 u159 u160 u161 u162 u163 u164 u165 u166 u167 u168 u169 u170 u171 u172 u173 u174 u175 u176 u177 u178 u179 u180 u181 u182 u183 u184 u185 u186 u187 u188 u189 : Value) (W4 : World), SSt w c g (.slice A1 g.nodes.length c1) (.slice A2 g.edges.length c2) B0 W4 v4 4 → Kr {tmps := #[u0, u1, .int .i64 a, .int .i64 b, .int .i64 k, .int .i64 v, .pointer (some ⟨w.heap.size, 0, none⟩), .pointer (some ⟨w.heap.size + 1, 0, none⟩), u8, u9, u10, u11, .bool false, v4, u14, u15, u16, u17, u18, u19, u20, u21, u22, u23, u24, u25, u26, u27, u28, u29, u30, u31, u32, u33, u34, u35, u36, u37, u38, u39, u40, u41, u42, u43, u44, u45, u46, u47, u48, u49, u50, u51, u52, u53, u54, u55, u56, u57, u58, u59, u60, u61, u62, u63, u64, u65, u66, u67, u68, u69, u70, u71, u72, u73, u74, u75, u76, u77, u78, u79, u80, u81, u82, u83, u84, u85, u86, u87, u88, u89, u90, u91, u92, u93, u94, u95, u96, u97, u98, u99, u100, u101, u102, u103, u104, u105, u106, u107, u108, u109, u110, u111, u112, u113, u114, u115, u116, u117, u118, u119, u120, u121, u122, u123, u124, u125, u126, u127, u128, u129, u130, u131, u132, u133, u134, u135, u136, u137, u138, u139, u140, u141, u142, u143, u144, u145, u146, u147, u148, u149, u150, u151, u152, u153, u154, u155, u156, u157, u158, u159, u160, u161, u162, u163, u164, u165, u166, u167, u168, u169, u170, u171, u172, u173, u174, u175, u176, u177, u178, u179, u180, u181, u182, u183, u184, u185, u186, u187, u188, u189], defers := []} W4 := by
          intro v4 u0 u1 u8 u9 u10 u11 u14 u15 u16 u17 u18 u19 u20 u21 u22 u23 u24 u25 u26 u27 u28 u29 u30 u31 u32 u33 u34 u35 u36 u37 u38 u39 u40 u41 u42 u43 u44 u45 u46 u47 u48 u49 u50 u51 u52 u53 u54 u55 u56 u57 u58 u59 u60 u61 u62 u63 u64 u65 u66 u67 u68 u69 u70 u71 u72 u73 u74 u75 u76 u77 u78 u79 u80 u81 u82 u83 u84 u85 u86 u87 u88 u89 u90 u91 u92 u93 u94 u95 u96 u97 u98 u99 u100 u101 u102 u103 u104 u105 u106 u107 u108 u109 u110 u111 u112 u113 u114 u115 u116 u117 u118 u119 u120 u121 u122 u123 u124 u125 u126 u127 u128 u129 u130 u131 u132 u133 u134 u135 u136 u137 u138 u139 u140 u141 u142 u143 u144 u145 u146 u147 u148 u149 u150 u151 u152 u153 u154 u155 u156 u157 u158 u159 u160 u161 u162 u163 u164 u165 u166 u167 u168 u169 u170 u171 u172 u173 u174 u175 u176 u177 u178 u179 u180 u181 u182 u183 u184 u185 u186 u187 u188 u189 W4 hST
          refine ar _ _ ?_
          clear ai Ki ac Kc ar Kr ST x0 x1 x2 x3 xf d0 d1 d2 d3 d4 g3 g4 g6 W3 v3
          have ST := Lib.hid hST
          clear hST
          have g3 : w.heap.size + 1 < W4.heap.size := by have := ST.out.o1; have := ST.out.o2; omega
          have g4 : w.heap.size < W4.heap.size := by omega
          have g6 := ST.out.o2
          obtain ⟨x0, x1, x2, x3, xf⟩ := ST.out.bg
          obtain ⟨d0, d1, d2, d3, d4⟩ := ST.out.cells
          go_wp2_with fail
          rename_i Kr ar Kc ac Ki ai
          have CUT0 : ∀ (v5 u0 u1 u8 u9 u10 u11 u14 u15 u16 u17 u18 u19 u20 u21 u22 u23 u24 u25 u26 u27 u28 u29 u30 u31 u32 u33 u34 u35 u36 u37 u38 u39 u40 u41 u42 u43 u44 u45 u46 u47 u48 u49 u50 u51 u52 u53 u54 u55 u56 u57 u58 u59 u60 u61 u62 u63 u64 u65 u66 u67 u68 u69 u70 u71 u72 u73 u74 u75 u76 u77 u78 u79 u80 u81 u82 u83 u84 u85 u86 u87 u88 u89 u90 u91 u92 u93 u94 u95 u96 u97 u98 u99 u100 u101 u102 u103 u104 u105 u106 u107 u108 u109 u110 u111 u112 u113 u114 u115 u116 u117 u118 u119 u120 u121 u122 u123 u124 u125 u126 u127 u128 u129 u130 u131 u132 u133 u134 u135 u136 u137 u138 u139 u140 u141 u142 u143 u144 u145 u146 u147 u148 u149 u150 u151 u152 u153 u154 u155 u156 u157 u158 u159 u160 u161 u162 u163 u164 u165 u166 u167 u168 u169 u170 u171 u172 u173 u174 u175 u176 u177 u178 u179 u180 u181 u182 u183 u184 u185 u186 u187 u188 u189 : Value) (W5 : World), SSt w c g (.slice A1 g.nodes.length c1) (.slice A2 g.edges.length c2) B0 W5 v5 5 → Kr {tmps := #[u0, u1, .int .i64 a, .int .i64 b, .int .i64 k, .int .i64 v, .pointer (some ⟨w.heap.size, 0, none⟩), .pointer (some ⟨w.heap.size + 1, 0, none⟩), u8, u9, u10, u11, .bool false, v5, u14, u15, u16, u17, u18, u19, u20, u21, u22, u23, u24, u25, u26, u27, u28, u29, u30, u31, u32, u33, u34, u35, u36, u37, u38, u39, u40, u41, u42, u43, u44, u45, u46, u47, u48, u49, u50, u51, u52, u53, u54, u55, u56, u57, u58, u59, u60, u61, u62, u63, u64, u65, u66, u67, u68, u69, u70, u71, u72, u73, u74, u75, u76, u77, u78, u79, u80, u81, u82, u83, u84, u85, u86, u87, u88, u89, u90, u91, u92, u93, u94, u95, u96, u97, u98, u99, u100, u101, u102, u103, u104, u105, u106, u107, u108, u109, u110, u111, u112, u113, u114, u115, u116, u117, u118, u119, u120, u121, u122, u123, u124, u125, u126, u127, u128, u129, u130, u131, u132, u133, u134, u135, u136, u137, u138, u139, u140, u141, u142, u143, u144, u145, u146, u147, u148, u149, u150, u151, u152, u153, u154, u155, u156, u157, u158, u159, u160, u161, u162, u163, u164, u165, u166, u167, u168, u169, u170, u171, u172, u173, u174, u175, u176, u177, u178, u179, u180, u181, u182, u183, u184, u185, u186, u187, u188, u189], defers := []} W5 := by
            intro v5 u0 u1 u8 u9 u10 u11 u14 u15 u16 u17 u18 u19 u20 u21 u22 u23 u24 u25 u26 u27 u28 u29 u30 u31 u32 u33 u34 u35 u36 u37 u38 u39 u40 u41 u42 u43 u44 u45 u46 u47 u48 u49 u50 u51 u52 u53 u54 u55 u56 u57 u58 u59 u60 u61 u62 u63 u64 u65 u66 u67 u68 u69 u70 u71 u72 u73 u74 u75 u76 u77 u78 u79 u80 u81 u82 u83 u84 u85 u86 u87 u88 u89 u90 u91 u92 u93 u94 u95 u96 u97 u98 u99 u100 u101 u102 u103 u104 u105 u106 u107 u108 u109 u110 u111 u112 u113 u114 u115 u116 u117 u118 u119 u120 u121 u122 u123 u124 u125 u126 u127 u128 u129 u130 u131 u132 u133 u134 u135 u136 u137 u138 u139 u140 u141 u142 u143 u144 u145 u146 u147 u148 u149 u150 u151 u152 u153 u154 u155 u156 u157 u158 u159 u160 u161 u162 u163 u164 u165 u166 u167 u168 u169 u170 u171 u172 u173 u174 u175 u176 u177 u178 u179 u180 u181 u182 u183 u184 u185 u186 u187 u188 u189 W5 hST
            refine ar _ _ ?_
            clear ai Ki ac Kc ar Kr ST x0 x1 x2 x3 xf d0 d1 d2 d3 d4 g3 g4 g6 W4 v4
            have ST := Lib.hid hST
            clear hST
            have g3 : w.heap.size + 1 < W5.heap.size := by have := ST.out.o1; have := ST.out.o2; omega
            have g4 : w.heap.size < W5.heap.size := by omega
            have g6 := ST.out.o2
            obtain ⟨x0, x1, x2, x3, xf⟩ := ST.out.bg
            obtain ⟨d0, d1, d2, d3, d4⟩ := ST.out.cells
            go_wp2_with fail
            rename_i Kr ar Kc ac Ki ai
            have CUT0 : ∀ (v6 u0 u1 u8 u9 u10 u11 u14 u15 u16 u17 u18 u19 u20 u21 u22 u23 u24 u25 u26 u27 u28 u29 u30 u31 u32 u33 u34 u35 u36 u37 u38 u39 u40 u41 u42 u43 u44 u45 u46 u47 u48 u49 u50 u51 u52 u53 u54 u55 u56 u57 u58 u59 u60 u61 u62 u63 u64 u65 u66 u67 u68 u69 u70 u71 u72 u73 u74 u75 u76 u77 u78 u79 u80 u81 u82 u83 u84 u85 u86 u87 u88 u89 u90 u91 u92 u93 u94 u95 u96 u97 u98 u99 u100 u101 u102 u103 u104 u105 u106 u107 u108 u109 u110 u111 u112 u113 u114 u115 u116 u117 u118 u119 u120 u121 u122 u123 u124 u125 u126 u127 u128 u129 u130 u131 u132 u133 u134 u135 u136 u137 u138 u139 u140 u141 u142 u143 u144 u145 u146 u147 u148 u149 u150 u151 u152 u153 u154 u155 u156 u157 u158 u159 u160 u161 u162 u163 u164 u165 u166 u167 u168 u169 u170 u171 u172 u173 u174 u175 u176 u177 u178 u179 u180 u181 u182 u183 u184 u185 u186 u187 u188 u189 : Value) (W6 : World), SSt w c g (.slice A1 g.nodes.length c1) (.slice A2 g.edges.length c2) B0 W6 v6 6 → Kr {tmps := #[u0, u1, .int .i64 a, .int .i64 b, .int .i64 k, .int .i64 v, .pointer (some ⟨w.heap.size, 0, none⟩), .pointer (some ⟨w.heap.size + 1, 0, none⟩), u8, u9, u10, u11, .bool false, v6, u14, u15, u16, u17, u18, u19, u20, u21, u22, u23, u24, u25, u26, u27, u28, u29, u30, u31, u32, u33, u34, u35, u36, u37, u38, u39, u40, u41, u42, u43, u44, u45, u46, u47, u48, u49, u50, u51, u52, u53, u54, u55, u56, u57, u58, u59, u60, u61, u62, u63, u64, u65, u66, u67, u68, u69, u70, u71, u72, u73, u74, u75, u76, u77, u78, u79, u80, u81, u82, u83, u84, u85, u86, u87, u88, u89, u90, u91, u92, u93, u94, u95, u96, u97, u98, u99, u100, u101, u102, u103, u104, u105, u106, u107, u108, u109, u110, u111, u112, u113, u114, u115, u116, u117, u118, u119, u120, u121, u122, u123, u124, u125, u126, u127, u128, u129, u130, u131, u132, u133, u134, u135, u136, u137, u138, u139, u140, u141, u142, u143, u144, u145, u146, u147, u148, u149, u150, u151, u152, u153, u154, u155, u156, u157, u158, u159, u160, u161, u162, u163, u164, u165, u166, u167, u168, u169, u170, u171, u172, u173, u174, u175, u176, u177, u178, u179, u180, u181, u182, u183, u184, u185, u186, u187, u188, u189], defers := []} W6 := by
              intro v6 u0 u1 u8 u9 u10 u11 u14 u15 u16 u17 u18 u19 u20 u21 u22 u23 u24 u25 u26 u27 u28 u29 u30 u31 u32 u33 u34 u35 u36 u37 u38 u39 u40 u41 u42 u43 u44 u45 u46 u47 u48 u49 u50 u51 u52 u53 u54 u55 u56 u57 u58 u59 u60 u61 u62 u63 u64 u65 u66 u67 u68 u69 u70 u71 u72 u73 u74 u75 u76 u77 u78 u79 u80 u81 u82 u83 u84 u85 u86 u87 u88 u89 u90 u91 u92 u93 u94 u95 u96 u97 u98 u99 u100 u101 u102 u103 u104 u105 u106 u107 u108 u109 u110 u111 u112 u113 u114 u115 u116 u117 u118 u119 u120 u121 u122 u123 u124 u125 u126 u127 u128 u129 u130 u131 u132 u133 u134 u135 u136 u137 u138 u139 u140 u141 u142 u143 u144 u145 u146 u147 u148 u149 u150 u151 u152 u153 u154 u155 u156 u157 u158 u159 u160 u161 u162 u163 u164 u165 u166 u167 u168 u169 u170 u171 u172 u173 u174 u175 u176 u177 u178 u179 u180 u181 u182 u183 u184 u185 u186 u187 u188 u189 W6 hST
              refine ar _ _ ?_
              clear ai Ki ac Kc ar Kr ST x0 x1 x2 x3 xf d0 d1 d2 d3 d4 g3 g4 g6 W5 v5
              have ST := Lib.hid hST
              clear hST
              have g3 : w.heap.size + 1 < W6.heap.size := by have := ST.out.o1; have := ST.out.o2; omega
              have g4 : w.heap.size < W6.heap.size := by omega
              have g6 := ST.out.o2
              obtain ⟨x0, x1, x2, x3, xf⟩ := ST.out.bg
              obtain ⟨d0, d1, d2, d3, d4⟩ := ST.out.cells
              go_wp2_with fail
              rename_i Kr ar Kc ac Ki ai
              have CUT0 : ∀ (v7 u0 u1 u8 u9 u10 u11 u14 u15 u16 u17 u18 u19 u20 u21 u22 u23 u24 u25 u26 u27 u28 u29 u30 u31 u32 u33 u34 u35 u36 u37 u38 u39 u40 u41 u42 u43 u44 u45 u46 u47 u48 u49 u50 u51 u52 u53 u54 u55 u56 u57 u58 u59 u60 u61 u62 u63 u64 u65 u66 u67 u68 u69 u70 u71 u72 u73 u74 u75 u76 u77 u78 u79 u80 u81 u82 u83 u84 u85 u86 u87 u88 u89 u90 u91 u92 u93 u94 u95 u96 u97 u98 u99 u100 u101 u102 u103 u104 u105 u106 u107 u108 u109 u110 u111 u112 u113 u114 u115 u116 u117 u118 u119 u120 u121 u122 u123 u124 u125 u126 u127 u128 u129 u130 u131 u132 u133 u134 u135 u136 u137 u138 u139 u140 u141 u142 u143 u144 u145 u146 u147 u148 u149 u150 u151 u152 u153 u154 u155 u156 u157 u158 u159 u160 u161 u162 u163 u164 u165 u166 u167 u168 u169 u170 u171 u172 u173 u174 u175 u176 u177 u178 u179 u180 u181 u182 u183 u184 u185 u186 u187 u188 u189 : Value) (W7 : World), SSt w c g (.slice A1 g.nodes.length c1) (.slice A2 g.edges.length c2) B0 W7 v7 7 → Kr {tmps := #[u0, u1, .int .i64 a, .int .i64 b, .int .i64 k, .int .i64 v, .pointer (some ⟨w.heap.size, 0, none⟩), .pointer (some ⟨w.heap.size + 1, 0, none⟩), u8, u9, u10, u11, .bool false, v7, u14, u15, u16, u17, u18, u19, u20, u21, u22, u23, u24, u25, u26, u27, u28, u29, u30, u31, u32, u33, u34, u35, u36, u37, u38, u39, u40, u41, u42, u43, u44, u45, u46, u47, u48, u49, u50, u51, u52, u53, u54, u55, u56, u57, u58, u59, u60, u61, u62, u63, u64, u65, u66, u67, u68, u69, u70, u71, u72, u73, u74, u75, u76, u77, u78, u79, u80, u81, u82, u83, u84, u85, u86, u87, u88, u89, u90, u91, u92, u93, u94, u95, u96, u97, u98, u99, u100, u101, u102, u103, u104, u105, u106, u107, u108, u109, u110, u111, u112, u113, u114, u115, u116, u117, u118, u119, u120, u121, u122, u123, u124, u125, u126, u127, u128, u129, u130, u131, u132, u133, u134, u135, u136, u137, u138, u139, u140, u141, u142, u143, u144, u145, u146, u147, u148, u149, u150, u151, u152, u153, u154, u155, u156, u157, u158, u159, u160, u161, u162, u163, u164, u165, u166, u167, u168, u169, u170, u171, u172, u173, u174, u175, u176, u177, u178, u179, u180, u181, u182, u183, u184, u185, u186, u187, u188, u189], defers := []} W7 := by
                intro v7 u0 u1 u8 u9 u10 u11 u14 u15 u16 u17 u18 u19 u20 u21 u22 u23 u24 u25 u26 u27 u28 u29 u30 u31 u32 u33 u34 u35 u36 u37 u38 u39 u40 u41 u42 u43 u44 u45 u46 u47 u48 u49 u50 u51 u52 u53 u54 u55 u56 u57 u58 u59 u60 u61 u62 u63 u64 u65 u66 u67 u68 u69 u70 u71 u72 u73 u74 u75 u76 u77 u78 u79 u80 u81 u82 u83 u84 u85 u86 u87 u88 u89 u90 u91 u92 u93 u94 u95 u96 u97 u98 u99 u100 u101 u102 u103 u104 u105 u106 u107 u108 u109 u110 u111 u112 u113 u114 u115 u116 u117 u118 u119 u120 u121 u122 u123 u124 u125 u126 u127 u128 u129 u130 u131 u132 u133 u134 u135 u136 u137 u138 u139 u140 u141 u142 u143 u144 u145 u146 u147 u148 u149 u150 u151 u152 u153 u154 u155 u156 u157 u158 u159 u160 u161 u162 u163 u164 u165 u166 u167 u168 u169 u170 u171 u172 u173 u174 u175 u176 u177 u178 u179 u180 u181 u182 u183 u184 u185 u186 u187 u188 u189 W7 hST
                refine ar _ _ ?_
                clear ai Ki ac Kc ar Kr ST x0 x1 x2 x3 xf d0 d1 d2 d3 d4 g3 g4 g6 W6 v6
                have ST := Lib.hid hST
                clear hST
                have g3 : w.heap.size + 1 < W7.heap.size := by have := ST.out.o1; have := ST.out.o2; omega
                have g4 : w.heap.size < W7.heap.size := by omega
                have g6 := ST.out.o2
                obtain ⟨x0, x1, x2, x3, xf⟩ := ST.out.bg
                obtain ⟨d0, d1, d2, d3, d4⟩ := ST.out.cells
                go_wp2_with fail
                obtain ⟨zs, HO, hzs, hzl⟩ := ST.out.own
                have HROW := Lib.hid HO.row
                have HZS := Lib.hid hzs
                obtain ⟨Az, cz, rfl⟩ := HO.row.slice
                clear HO hzs
                have hlen : ∀ W : World, (Builtin.len_ #[63] 3 #[.slice Az zs.length cz]).run Try.prog W = .ok (.int .i64 (zs.length : Int)) W := fun W => by simp [Builtin.len_, go_sem, Try.underlying63]
                go_wp2
                rw [hlen]
                go_wp2
                clear hlen
                obtain ⟨W8, hW8⟩ : ∃ W8, W8 = W7.alloc (.cells #[.int .i64 64, .int .i64 64, .int .i64 64, .int .i64 c.ids, .int .i64 c.eids] 23) := ⟨_, rfl⟩
                have H8 := Lib.hid (show W8.heap[W7.heap.size]? = some (.cells #[.int .i64 64, .int .i64 64, .int .i64 64, .int .i64 c.ids, .int .i64 c.eids] 23 (0, 0)) by rw [hW8]; exact heap_alloc_new W7 _)
                have K8 := Lib.hid (show Below W7.heap.size W7 W8 by rw [hW8]; exact (Below.refl _ W7).alloc (Nat.le_refl _) _)
                have s8 : W8.heap.size = W7.heap.size + 1 := by rw [hW8]; simp
                have ST8 := Lib.hid (ST.out.below K8.out)
                have HROW8 := Lib.hid (HROW.out.below K8.out)
                rw [← hW8]
                clear hW8 ST HROW K8 x0 x1 x2 x3 xf d0 d1 d2 d3 d4 g3 g4
                go_loopw [140] (fun p wr => ∃ i : Nat, i ≤ zs.length ∧ p = .int .i64 (i : Int) ∧ Hid (Below W8.heap.size W8 wr)) (fun p _ => zs.length - (intOf p).toNat)
                case atStart => exact ⟨0, by omega, rfl, Below.refl _ _⟩
                case round =>
                  obtain ⟨wa, rfl⟩ : ∃ wa, wa = wr := ⟨wr, rfl⟩
                  obtain ⟨i, hi, rfl, hb⟩ := hrel
                  have sa := hb.out.size
                  have STA := Lib.hid (ST8.out.below hb.out)
                  have HROWA := Lib.hid (HROW8.out.below hb.out)
                  have HA := Lib.hid ((hb.out.block W7.heap.size (by omega)).trans H8.out)
                  by_cases hlt : i < zs.length
                  case neg =>
                    obtain rfl : i = zs.length := by omega
                    go_wp2
                    go_ret
                    exact ⟨rfl, STA.out.K⟩
                  obtain ⟨z, hz⟩ := getElem?_of_lt hlt
                  obtain ⟨bz, oz, a1, d1, a2, d2, rfl, _, hbl, z0, z1, z2, z3, hgz⟩ := HROWA.out.atGr hz
                  have HZ := Lib.hid (HZS.out z (List.mem_of_getElem? hz))
                  have HGZ := Lib.hid hgz
                  have hz1 := HZ.out.ln
                  have hz2 := HZ.out.le
                  have hzk := Lib.hid hz
                  clear hz hgz
                  obtain ⟨wb, hwb⟩ : ∃ wb, wb = wa.alloc (.cells #[.slice a1 z.nodes.length d1, .slice a2 z.edges.length d2, .int .i64 z.nn, .int .i64 z.ne] 27) := ⟨_, rfl⟩
                  have KB := Lib.hid (show Below wa.heap.size wa wb by rw [hwb]; exact (Below.refl _ wa).alloc (Nat.le_refl _) _)
                  have BZ := Lib.hid (show Box4 wb wa.heap.size (.slice a1 z.nodes.length d1) (.slice a2 z.edges.length d2) (.int .i64 z.nn) (.int .i64 z.ne) by rw [hwb]; exact Box4.made wa _ _ _ _ _)
                  have sb : wb.heap.size = wa.heap.size + 1 := by rw [hwb]; simp
                  go_wp2
                  rw [← hwb]
                  have STB := Lib.hid (STA.out.below KB.out)
                  have KW := Lib.hid (hb.out.trans (KB.out.mono sa))
                  have HROWB := Lib.hid (HROWA.out.below KB.out)
                  have HGB := Lib.hid (HGZ.out.below KB.out)
                  have HB := Lib.hid ((KB.out.block W7.heap.size (by omega)).trans HA.out)
                  clear STA HROWA HGZ HA KB hwb z0 z1 z2 z3
                  have hsum : ∀ n, psum (z.nodes.take n) ≤ 1000 * 101 := fun n => by
                    have h1 := psum_mid (xs := z.nodes.take n) fun x hx => by have := HZ.out.lp x (List.mem_of_mem_take hx); omega
                    have h2 : (z.nodes.take n).length ≤ 101 := by rw [List.length_take]; omega
                    have h3 : 1000 * (z.nodes.take n).length ≤ 1000 * 101 := Nat.mul_le_mul_left _ h2
                    omega
                  have HSUM := Lib.hid hsum
                  clear hsum
                  go_loopw [33, 147] (fun t p wr => ∃ j : Nat, j ≤ z.nodes.length ∧ p = .int .i64 (j : Int) ∧ t = .int .i64 (psum (z.nodes.take j) : Int) ∧ Hid (Below wb.heap.size wb wr)) (fun _ p _ => z.nodes.length - (intOf p).toNat)
                  case atStart => exact ⟨0, by omega, rfl, rfl, Below.refl _ _⟩
                  case round =>
                    obtain ⟨wc, rfl⟩ : ∃ wc, wc = wr := ⟨wr, rfl⟩
                    obtain ⟨j, hj, rfl, rfl, hbc⟩ := hrel
                    have sc := hbc.out.size
                    have hps := HSUM.out j
                    by_cases hjt : j < z.nodes.length
                    case pos =>
                      obtain ⟨x, hx⟩ := getElem?_of_lt hjt
                      have HGC := Lib.hid (HGB.out.below hbc.out)
                      obtain ⟨bn, on, ap, dp, rfl, _, hbn, hr, y0, y1⟩ := HGC.out.atN hx
                      have hpx := HZ.out.lp x (List.mem_of_getElem? hx)
                      have HPS := Lib.hid (psum_succ hx)
                      have KP := Lib.hid (hbc.out.trans ((Below.heap1 wc (.cells #[.int .i64 x.id, .slice ap x.ps.length dp] 32)).mono sc))
                      clear hx hr HGC
                      generalize hps0 : psum (z.nodes.take j) = ps0 at *
                      clear hps0
                      go_wp2
                      go_roundw
                      case rel => exact ⟨j + 1, by omega, by first | (go_num; done) | (go_num; omega), by rw [HPS.out]; first | (go_num; done) | (go_num; omega), KP⟩
                      case measure => simp [intOf]; omega
                    obtain rfl : j = z.nodes.length := by omega
                    rw [List.take_length] at hps ⊢
                    have STC := Lib.hid (STB.out.below hbc.out)
                    have KC := Lib.hid (KW.out.trans (hbc.out.mono KW.out.size))
                    have BZC := Lib.hid (BZ.out.keep (hbc.out.block _ (by omega)))
                    have HGC := Lib.hid (HGB.out.below hbc.out)
                    have HBC := Lib.hid ((hbc.out.block W7.heap.size (by omega)).trans HB.out)
                    clear STB KW BZ HGB HB hbc
                    have q1 : w.heap.size + 1 < wc.heap.size := by have := STC.out.o1; have := STC.out.o2; omega
                    have q2 : w.heap.size < wc.heap.size := by omega
                    have q3 : W7.heap.size < wc.heap.size := by omega
                    have q4 : wa.heap.size < wc.heap.size := by omega
                    obtain ⟨x0, x1, x2, x3, xf⟩ := BZC.out
                    obtain ⟨ps0, hps0⟩ : ∃ p, p = psum z.nodes := ⟨_, rfl⟩
                    have HPS0 := Lib.hid hps0
                    rw [← hps0] at hps ⊢
                    clear hps0
                    by_cases n1 : 64 < (ps0 : Int)
                    · have hd : decide (64 < (ps0 : Int)) = true := decide_eq_true n1
                      clear n1
                      go_wp2
                      go_roundw
                      case rel => exact ⟨i + 1, by omega, by first | (go_num; done) | (go_num; omega), KC⟩
                      case measure => simp [intOf]; omega
                    have hd1 : decide (64 < (ps0 : Int)) = false := decide_eq_false n1
                    by_cases n2 : 64 < (z.nodes.length : Int)
                    · have hd : decide (64 < (z.nodes.length : Int)) = true := decide_eq_true n2
                      clear n2
                      go_wp2
                      go_roundw
                      case rel => exact ⟨i + 1, by omega, by first | (go_num; done) | (go_num; omega), KC⟩
                      case measure => simp [intOf]; omega
                    have hd2 : decide (64 < (z.nodes.length : Int)) = false := decide_eq_false n2
                    by_cases n3 : 64 < (z.edges.length : Int)
                    · have hd : decide (64 < (z.edges.length : Int)) = true := decide_eq_true n3
                      clear n3
                      go_wp2
                      go_roundw
                      case rel => exact ⟨i + 1, by omega, by first | (go_num; done) | (go_num; omega), KC⟩
                      case measure => simp [intOf]; omega
                    have hd3 : decide (64 < (z.edges.length : Int)) = false := decide_eq_false n3
                    have HY := Lib.hid (HZ.out.may HGO.out HM.out.head.cfg (by omega) (by omega) (by rw [← HPS0.out]; omega))
                    obtain ⟨d0, d1', d2', d3', d4⟩ : wc.cell? ⟨W7.heap.size, 0, none⟩ = some (.int .i64 64) ∧ wc.cell? ⟨W7.heap.size, 1, none⟩ = some (.int .i64 64) ∧ wc.cell? ⟨W7.heap.size, 2, none⟩ = some (.int .i64 64) ∧ wc.cell? ⟨W7.heap.size, 3, none⟩ = some (.int .i64 c.ids) ∧ wc.cell? ⟨W7.heap.size, 4, none⟩ = some (.int .i64 c.eids) := by
                      have h1 := HBC.out
                      simp [World.cell?, h1]
                    go_wp2_with fail
                    refine (check_calls wc _ ⟨64, 64, 64, c.ids, c.eids⟩ z _ _ HGC.out HZ.out.mid).mono ?_
                    rintro e we ⟨x, rfl, hx, hbe⟩
                    have se := hbe.size
                    have STE := Lib.hid (STC.out.below hbe)
                    have KE := Lib.hid (KC.out.trans (hbe.mono KC.out.size))
                    have BZE := Lib.hid (BZC.out.keep (hbe.block _ q4))
                    obtain ⟨rfl, _⟩ | ⟨_, hn⟩ := hx
                    case inr => exact absurd HY.out hn
                    clear STC KC BZC HBC hbe x0 x1 x2 x3 xf d0 d1' d2' d3' d4 hd1 hd2 hd3 n1 n2 n3
                    have q5 : w.heap.size + 1 < we.heap.size := by omega
                    have q6 : wa.heap.size < we.heap.size := by omega
                    obtain ⟨x0, x1, x2, x3, xf⟩ := BZE.out
                    obtain ⟨y0, y1, y2, y3, yf⟩ := STE.out.bg
                    have hz3 := HZ.out.nn.1
                    have hz4 := HZ.out.ne.1
                    have hd1 : decide (z.nn < g.nn) = false := decide_eq_false (by omega)
                    have hd2 : decide (z.ne < g.ne) = false := decide_eq_false (by omega)
                    clear hz3 hz4
                    go_wp2
                    go_roundw
                    case rel => exact ⟨i + 1, by omega, by first | (go_num; done) | (go_num; omega), KE⟩
                    case measure => simp [intOf]; omega
              have CUT := Lib.hid CUT0
              clear ar CUT0
              refine (fuse_calls W6 _ g _ _ a b ST.out.hg HS.out HR.out HP.out).mono ?_
              have HG : (fuseOf g a b).2 = 0 → Good c g (fuseOf g a b).1 := good_fuse HGO.out
              generalize fuseOf g a b = r at HG ⊢
              have hlt := ST.out.lt
              obtain ⟨z, err⟩ := r
              rintro e wz ⟨zn, ze, rfl, hgz, hb⟩
              obtain ⟨⟨A3, L3, c3, rfl⟩, A4, L4, c4, rfl⟩ := hgz.three3
              have sz := hb.size
              have ST := Lib.hid (ST.out.below hb)
              have HZ := Lib.hid hgz
              clear hb hgz x0 x1 x2 x3 xf d0 d1 d2 d3 d4
              simp only at HG HZ ⊢
              have g5 : w.heap.size + 1 < wz.heap.size := by omega
              by_cases h0 : err = 0
              · subst h0
                have HD := Lib.hid (HG rfl)
                clear HG
                obtain ⟨zs, HO, hzs, hzl⟩ := ST.out.own
                have HZS := Lib.hid hzs
                have HO := Lib.hid HO
                have HK := Lib.hid ST.out.K
                have o2 := ST.out.o2
                clear hzs
                go_wp2_with (at_builtin; refine wpList_own_appendS (ty := tGr) (w := w) (S := fun k => B0 ≤ k) (Sy := fun k => W6.heap.size ≤ k ∧ k < wz.heap.size) (v := v6) (xs := zs) (x := z) rfl _ _ 63 27 64 _ rfl elemGraphs rfl ?hown6 rfl (by simp) ?hk6 ?hB6 ?hge6 ?hSn6 ?hbytes6 ?hlen6 ?hin6 ?_)
                case hown6 => exact HO.out.below (((Below.refl wz.heap.size wz).alloc (Nat.le_refl _) _))
                case hk6 => exact ⟨_, _, rfl, (HZ.out.bound.mono fun k h _ => h).move (Same.of_alloc _ _ _)⟩
                case hB6 => exact HK.out.alloc (by omega) _
                case hge6 => exact fun k hk => by have := hlt k hk; have := ST.out.o1; omega
                case hSn6 => exact fun k hk => by omega
                case hbytes6 => omega
                case hlen6 => exact Nat.le_trans (show _ ≤ 100 by omega) (by decide)
                case hin6 => exact fun k h1 h2 _ => ⟨by omega, fun e => by have := hlt k e; omega⟩
                intro v9 w9 ho9 hb9 hge9 hg9
                have STa := (ST.out.below ((Below.refl wz.heap.size wz).alloc (Nat.le_refl _) _)).app (fun k e => (hlt k e).1) hg9 hb9 ho9 HD.out HZS.out hzl
                clear ST hg9 hb9 ho9 HD HZS hzl HO hge9 HK HZ
                go_wp2
                exact CUT.out _ _ _ _ _ _ _ _ _ _ _ _ _ _ _ _ _ _ _ _ _ _ _ _ _ _ _ _ _ _ _ _ _ _ _ _ _ _ _ _ _ _ _ _ _ _ _ _ _ _ _ _ _ _ _ _ _ _ _ _ _ _ _ _ _ _ _ _ _ _ _ _ _ _ _ _ _ _ _ _ _ _ _ _ _ _ _ _ _ _ _ _ _ _ _ _ _ _ _ _ _ _ _ _ _ _ _ _ _ _ _ _ _ _ _ _ _ _ _ _ _ _ _ _ _ _ _ _ _ _ _ _ _ _ _ _ _ _ _ _ _ _ _ _ _ _ _ _ _ _ _ _ _ _ _ _ _ _ _ _ _ _ _ _ _ _ _ _ _ _ _ _ _ _ _ _ _ _ _ _ _ _ _ _ STa
              · go_wp2
                exact CUT.out _ _ _ _ _ _ _ _ _ _ _ _ _ _ _ _ _ _ _ _ _ _ _ _ _ _ _ _ _ _ _ _ _ _ _ _ _ _ _ _ _ _ _ _ _ _ _ _ _ _ _ _ _ _ _ _ _ _ _ _ _ _ _ _ _ _ _ _ _ _ _ _ _ _ _ _ _ _ _ _ _ _ _ _ _ _ _ _ _ _ _ _ _ _ _ _ _ _ _ _ _ _ _ _ _ _ _ _ _ _ _ _ _ _ _ _ _ _ _ _ _ _ _ _ _ _ _ _ _ _ _ _ _ _ _ _ _ _ _ _ _ _ _ _ _ _ _ _ _ _ _ _ _ _ _ _ _ _ _ _ _ _ _ _ _ _ _ _ _ _ _ _ _ _ _ _ _ _ _ _ _ _ _ _ ((ST.out.below ((Below.refl wz.heap.size wz).alloc (Nat.le_refl _) _)).up (by omega))
            have CUT := Lib.hid CUT0
            clear ar CUT0
            refine (drop_calls W5 _ g _ _ a ST.out.hg HS.out).mono ?_
            have HG : (dropOf g a).2 = 0 → Good c g (dropOf g a).1 := good_drop HGO.out
            generalize dropOf g a = r at HG ⊢
            have hlt := ST.out.lt
            obtain ⟨z, err⟩ := r
            rintro e wz ⟨zn, ze, rfl, hgz, hb⟩
            obtain ⟨⟨A3, L3, c3, rfl⟩, A4, L4, c4, rfl⟩ := hgz.three3
            have sz := hb.size
            have ST := Lib.hid (ST.out.below hb)
            have HZ := Lib.hid hgz
            clear hb hgz x0 x1 x2 x3 xf d0 d1 d2 d3 d4
            simp only at HG HZ ⊢
            have g5 : w.heap.size + 1 < wz.heap.size := by omega
            by_cases h0 : err = 0
            · subst h0
              have HD := Lib.hid (HG rfl)
              clear HG
              obtain ⟨zs, HO, hzs, hzl⟩ := ST.out.own
              have HZS := Lib.hid hzs
              have HO := Lib.hid HO
              have HK := Lib.hid ST.out.K
              have o2 := ST.out.o2
              clear hzs
              go_wp2_with (at_builtin; refine wpList_own_appendS (ty := tGr) (w := w) (S := fun k => B0 ≤ k) (Sy := fun k => W5.heap.size ≤ k ∧ k < wz.heap.size) (v := v5) (xs := zs) (x := z) rfl _ _ 63 27 64 _ rfl elemGraphs rfl ?hown5 rfl (by simp) ?hk5 ?hB5 ?hge5 ?hSn5 ?hbytes5 ?hlen5 ?hin5 ?_)
              case hown5 => exact HO.out.below (((Below.refl wz.heap.size wz).alloc (Nat.le_refl _) _))
              case hk5 => exact ⟨_, _, rfl, (HZ.out.bound.mono fun k h _ => h).move (Same.of_alloc _ _ _)⟩
              case hB5 => exact HK.out.alloc (by omega) _
              case hge5 => exact fun k hk => by have := hlt k hk; have := ST.out.o1; omega
              case hSn5 => exact fun k hk => by omega
              case hbytes5 => omega
              case hlen5 => exact Nat.le_trans (show _ ≤ 100 by omega) (by decide)
              case hin5 => exact fun k h1 h2 _ => ⟨by omega, fun e => by have := hlt k e; omega⟩
              intro v9 w9 ho9 hb9 hge9 hg9
              have STa := (ST.out.below ((Below.refl wz.heap.size wz).alloc (Nat.le_refl _) _)).app (fun k e => (hlt k e).1) hg9 hb9 ho9 HD.out HZS.out hzl
              clear ST hg9 hb9 ho9 HD HZS hzl HO hge9 HK HZ
              go_wp2
              exact CUT.out _ _ _ _ _ _ _ _ _ _ _ _ _ _ _ _ _ _ _ _ _ _ _ _ _ _ _ _ _ _ _ _ _ _ _ _ _ _ _ _ _ _ _ _ _ _ _ _ _ _ _ _ _ _ _ _ _ _ _ _ _ _ _ _ _ _ _ _ _ _ _ _ _ _ _ _ _ _ _ _ _ _ _ _ _ _ _ _ _ _ _ _ _ _ _ _ _ _ _ _ _ _ _ _ _ _ _ _ _ _ _ _ _ _ _ _ _ _ _ _ _ _ _ _ _ _ _ _ _ _ _ _ _ _ _ _ _ _ _ _ _ _ _ _ _ _ _ _ _ _ _ _ _ _ _ _ _ _ _ _ _ _ _ _ _ _ _ _ _ _ _ _ _ _ _ _ _ _ _ _ _ _ _ _ STa
            · go_wp2
              exact CUT.out _ _ _ _ _ _ _ _ _ _ _ _ _ _ _ _ _ _ _ _ _ _ _ _ _ _ _ _ _ _ _ _ _ _ _ _ _ _ _ _ _ _ _ _ _ _ _ _ _ _ _ _ _ _ _ _ _ _ _ _ _ _ _ _ _ _ _ _ _ _ _ _ _ _ _ _ _ _ _ _ _ _ _ _ _ _ _ _ _ _ _ _ _ _ _ _ _ _ _ _ _ _ _ _ _ _ _ _ _ _ _ _ _ _ _ _ _ _ _ _ _ _ _ _ _ _ _ _ _ _ _ _ _ _ _ _ _ _ _ _ _ _ _ _ _ _ _ _ _ _ _ _ _ _ _ _ _ _ _ _ _ _ _ _ _ _ _ _ _ _ _ _ _ _ _ _ _ _ _ _ _ _ _ _ ((ST.out.below ((Below.refl wz.heap.size wz).alloc (Nat.le_refl _) _)).up (by omega))
          have CUT := Lib.hid CUT0
          clear ar CUT0
          refine (del_calls W4 _ g _ _ a k ST.out.hg HS.out HR.out HP.out).mono ?_
          have HG : (delOf g a k).2 = 0 → Good c g (delOf g a k).1 := good_del HGO.out
          generalize delOf g a k = r at HG ⊢
          have hlt := ST.out.lt
          obtain ⟨z, err⟩ := r
          rintro e wz ⟨zn, ze, rfl, hgz, hb⟩
          obtain ⟨⟨A3, L3, c3, rfl⟩, A4, L4, c4, rfl⟩ := hgz.three3
          have sz := hb.size
          have ST := Lib.hid (ST.out.below hb)
          have HZ := Lib.hid hgz
          clear hb hgz x0 x1 x2 x3 xf d0 d1 d2 d3 d4
          simp only at HG HZ ⊢
          have g5 : w.heap.size + 1 < wz.heap.size := by omega
          by_cases h0 : err = 0
          · subst h0
            have HD := Lib.hid (HG rfl)
            clear HG
            obtain ⟨zs, HO, hzs, hzl⟩ := ST.out.own
            have HZS := Lib.hid hzs
            have HO := Lib.hid HO
            have HK := Lib.hid ST.out.K
            have o2 := ST.out.o2
            clear hzs
            go_wp2_with (at_builtin; refine wpList_own_appendS (ty := tGr) (w := w) (S := fun k => B0 ≤ k) (Sy := fun k => W4.heap.size ≤ k ∧ k < wz.heap.size) (v := v4) (xs := zs) (x := z) rfl _ _ 63 27 64 _ rfl elemGraphs rfl ?hown4 rfl (by simp) ?hk4 ?hB4 ?hge4 ?hSn4 ?hbytes4 ?hlen4 ?hin4 ?_)
            case hown4 => exact HO.out.below (((Below.refl wz.heap.size wz).alloc (Nat.le_refl _) _))
            case hk4 => exact ⟨_, _, rfl, (HZ.out.bound.mono fun k h _ => h).move (Same.of_alloc _ _ _)⟩
            case hB4 => exact HK.out.alloc (by omega) _
            case hge4 => exact fun k hk => by have := hlt k hk; have := ST.out.o1; omega
            case hSn4 => exact fun k hk => by omega
            case hbytes4 => omega
            case hlen4 => exact Nat.le_trans (show _ ≤ 100 by omega) (by decide)
            case hin4 => exact fun k h1 h2 _ => ⟨by omega, fun e => by have := hlt k e; omega⟩
            intro v9 w9 ho9 hb9 hge9 hg9
            have STa := (ST.out.below ((Below.refl wz.heap.size wz).alloc (Nat.le_refl _) _)).app (fun k e => (hlt k e).1) hg9 hb9 ho9 HD.out HZS.out hzl
            clear ST hg9 hb9 ho9 HD HZS hzl HO hge9 HK HZ
            go_wp2
            exact CUT.out _ _ _ _ _ _ _ _ _ _ _ _ _ _ _ _ _ _ _ _ _ _ _ _ _ _ _ _ _ _ _ _ _ _ _ _ _ _ _ _ _ _ _ _ _ _ _ _ _ _ _ _ _ _ _ _ _ _ _ _ _ _ _ _ _ _ _ _ _ _ _ _ _ _ _ _ _ _ _ _ _ _ _ _ _ _ _ _ _ _ _ _ _ _ _ _ _ _ _ _ _ _ _ _ _ _ _ _ _ _ _ _ _ _ _ _ _ _ _ _ _ _ _ _ _ _ _ _ _ _ _ _ _ _ _ _ _ _ _ _ _ _ _ _ _ _ _ _ _ _ _ _ _ _ _ _ _ _ _ _ _ _ _ _ _ _ _ _ _ _ _ _ _ _ _ _ _ _ _ _ _ _ _ _ STa
          · go_wp2
            exact CUT.out _ _ _ _ _ _ _ _ _ _ _ _ _ _ _ _ _ _ _ _ _ _ _ _ _ _ _ _ _ _ _ _ _ _ _ _ _ _ _ _ _ _ _ _ _ _ _ _ _ _ _ _ _ _ _ _ _ _ _ _ _ _ _ _ _ _ _ _ _ _ _ _ _ _ _ _ _ _ _ _ _ _ _ _ _ _ _ _ _ _ _ _ _ _ _ _ _ _ _ _ _ _ _ _ _ _ _ _ _ _ _ _ _ _ _ _ _ _ _ _ _ _ _ _ _ _ _ _ _ _ _ _ _ _ _ _ _ _ _ _ _ _ _ _ _ _ _ _ _ _ _ _ _ _ _ _ _ _ _ _ _ _ _ _ _ _ _ _ _ _ _ _ _ _ _ _ _ _ _ _ _ _ _ _ ((ST.out.below ((Below.refl wz.heap.size wz).alloc (Nat.le_refl _) _)).up (by omega))
        have CUT := Lib.hid CUT0
        clear ar CUT0
        refine (set_calls W3 _ g _ _ a k v ST.out.hg HS.out HR.out HP.out).mono ?_
        have HG : (setOf g a k v).2 = 0 → Good c g (setOf g a k v).1 := good_set HGO.out
        generalize setOf g a k v = r at HG ⊢
        have hlt := ST.out.lt
        obtain ⟨z, err⟩ := r
        rintro e wz ⟨zn, ze, rfl, hgz, hb⟩
        obtain ⟨⟨A3, L3, c3, rfl⟩, A4, L4, c4, rfl⟩ := hgz.three3
        have sz := hb.size
        have ST := Lib.hid (ST.out.below hb)
        have HZ := Lib.hid hgz
        clear hb hgz x0 x1 x2 x3 xf d0 d1 d2 d3 d4
        simp only at HG HZ ⊢
        have g5 : w.heap.size + 1 < wz.heap.size := by omega
        by_cases h0 : err = 0
        · subst h0
          have HD := Lib.hid (HG rfl)
          clear HG
          obtain ⟨zs, HO, hzs, hzl⟩ := ST.out.own
          have HZS := Lib.hid hzs
          have HO := Lib.hid HO
          have HK := Lib.hid ST.out.K
          have o2 := ST.out.o2
          clear hzs
          go_wp2_with (at_builtin; refine wpList_own_appendS (ty := tGr) (w := w) (S := fun k => B0 ≤ k) (Sy := fun k => W3.heap.size ≤ k ∧ k < wz.heap.size) (v := v3) (xs := zs) (x := z) rfl _ _ 63 27 64 _ rfl elemGraphs rfl ?hown3 rfl (by simp) ?hk3 ?hB3 ?hge3 ?hSn3 ?hbytes3 ?hlen3 ?hin3 ?_)
          case hown3 => exact HO.out.below (((Below.refl wz.heap.size wz).alloc (Nat.le_refl _) _))
          case hk3 => exact ⟨_, _, rfl, (HZ.out.bound.mono fun k h _ => h).move (Same.of_alloc _ _ _)⟩
          case hB3 => exact HK.out.alloc (by omega) _
          case hge3 => exact fun k hk => by have := hlt k hk; have := ST.out.o1; omega
          case hSn3 => exact fun k hk => by omega
          case hbytes3 => omega
          case hlen3 => exact Nat.le_trans (show _ ≤ 100 by omega) (by decide)
          case hin3 => exact fun k h1 h2 _ => ⟨by omega, fun e => by have := hlt k e; omega⟩
          intro v9 w9 ho9 hb9 hge9 hg9
          have STa := (ST.out.below ((Below.refl wz.heap.size wz).alloc (Nat.le_refl _) _)).app (fun k e => (hlt k e).1) hg9 hb9 ho9 HD.out HZS.out hzl
          clear ST hg9 hb9 ho9 HD HZS hzl HO hge9 HK HZ
          go_wp2
          exact CUT.out _ _ _ _ _ _ _ _ _ _ _ _ _ _ _ _ _ _ _ _ _ _ _ _ _ _ _ _ _ _ _ _ _ _ _ _ _ _ _ _ _ _ _ _ _ _ _ _ _ _ _ _ _ _ _ _ _ _ _ _ _ _ _ _ _ _ _ _ _ _ _ _ _ _ _ _ _ _ _ _ _ _ _ _ _ _ _ _ _ _ _ _ _ _ _ _ _ _ _ _ _ _ _ _ _ _ _ _ _ _ _ _ _ _ _ _ _ _ _ _ _ _ _ _ _ _ _ _ _ _ _ _ _ _ _ _ _ _ _ _ _ _ _ _ _ _ _ _ _ _ _ _ _ _ _ _ _ _ _ _ _ _ _ _ _ _ _ _ _ _ _ _ _ _ _ _ _ _ _ _ _ _ _ _ STa
        · go_wp2
          exact CUT.out _ _ _ _ _ _ _ _ _ _ _ _ _ _ _ _ _ _ _ _ _ _ _ _ _ _ _ _ _ _ _ _ _ _ _ _ _ _ _ _ _ _ _ _ _ _ _ _ _ _ _ _ _ _ _ _ _ _ _ _ _ _ _ _ _ _ _ _ _ _ _ _ _ _ _ _ _ _ _ _ _ _ _ _ _ _ _ _ _ _ _ _ _ _ _ _ _ _ _ _ _ _ _ _ _ _ _ _ _ _ _ _ _ _ _ _ _ _ _ _ _ _ _ _ _ _ _ _ _ _ _ _ _ _ _ _ _ _ _ _ _ _ _ _ _ _ _ _ _ _ _ _ _ _ _ _ _ _ _ _ _ _ _ _ _ _ _ _ _ _ _ _ _ _ _ _ _ _ _ _ _ _ _ _ ((ST.out.below ((Below.refl wz.heap.size wz).alloc (Nat.le_refl _) _)).up (by omega))
      have CUT := Lib.hid CUT0
      clear ar CUT0
      refine (cut_calls W2 _ g _ _ a ST.out.hg HS.out).mono ?_
      have HG : (cutOf g a).2 = 0 → Good c g (cutOf g a).1 := good_cut HGO.out
      generalize cutOf g a = r at HG ⊢
      have hlt := ST.out.lt
      obtain ⟨z, err⟩ := r
      rintro e wz ⟨zn, ze, rfl, hgz, hb⟩
      obtain ⟨⟨A3, L3, c3, rfl⟩, A4, L4, c4, rfl⟩ := hgz.three3
      have sz := hb.size
      have ST := Lib.hid (ST.out.below hb)
      have HZ := Lib.hid hgz
      clear hb hgz x0 x1 x2 x3 xf d0 d1 d2 d3 d4
      simp only at HG HZ ⊢
      have g5 : w.heap.size + 1 < wz.heap.size := by omega
      by_cases h0 : err = 0
      · subst h0
        have HD := Lib.hid (HG rfl)
        clear HG
        obtain ⟨zs, HO, hzs, hzl⟩ := ST.out.own
        have HZS := Lib.hid hzs
        have HO := Lib.hid HO
        have HK := Lib.hid ST.out.K
        have o2 := ST.out.o2
        clear hzs
        go_wp2_with (at_builtin; refine wpList_own_appendS (ty := tGr) (w := w) (S := fun k => B0 ≤ k) (Sy := fun k => W2.heap.size ≤ k ∧ k < wz.heap.size) (v := v2) (xs := zs) (x := z) rfl _ _ 63 27 64 _ rfl elemGraphs rfl ?hown2 rfl (by simp) ?hk2 ?hB2 ?hge2 ?hSn2 ?hbytes2 ?hlen2 ?hin2 ?_)
        case hown2 => exact HO.out.below (((Below.refl wz.heap.size wz).alloc (Nat.le_refl _) _))
        case hk2 => exact ⟨_, _, rfl, (HZ.out.bound.mono fun k h _ => h).move (Same.of_alloc _ _ _)⟩
        case hB2 => exact HK.out.alloc (by omega) _
        case hge2 => exact fun k hk => by have := hlt k hk; have := ST.out.o1; omega
        case hSn2 => exact fun k hk => by omega
        case hbytes2 => omega
        case hlen2 => exact Nat.le_trans (show _ ≤ 100 by omega) (by decide)
        case hin2 => exact fun k h1 h2 _ => ⟨by omega, fun e => by have := hlt k e; omega⟩
        intro v9 w9 ho9 hb9 hge9 hg9
        have STa := (ST.out.below ((Below.refl wz.heap.size wz).alloc (Nat.le_refl _) _)).app (fun k e => (hlt k e).1) hg9 hb9 ho9 HD.out HZS.out hzl
        clear ST hg9 hb9 ho9 HD HZS hzl HO hge9 HK HZ
        go_wp2
        exact CUT.out _ _ _ _ _ _ _ _ _ _ _ _ _ _ _ _ _ _ _ _ _ _ _ _ _ _ _ _ _ _ _ _ _ _ _ _ _ _ _ _ _ _ _ _ _ _ _ _ _ _ _ _ _ _ _ _ _ _ _ _ _ _ _ _ _ _ _ _ _ _ _ _ _ _ _ _ _ _ _ _ _ _ _ _ _ _ _ _ _ _ _ _ _ _ _ _ _ _ _ _ _ _ _ _ _ _ _ _ _ _ _ _ _ _ _ _ _ _ _ _ _ _ _ _ _ _ _ _ _ _ _ _ _ _ _ _ _ _ _ _ _ _ _ _ _ _ _ _ _ _ _ _ _ _ _ _ _ _ _ _ _ _ _ _ _ _ _ _ _ _ _ _ _ _ _ _ _ _ _ _ _ _ _ _ STa
      · go_wp2
        exact CUT.out _ _ _ _ _ _ _ _ _ _ _ _ _ _ _ _ _ _ _ _ _ _ _ _ _ _ _ _ _ _ _ _ _ _ _ _ _ _ _ _ _ _ _ _ _ _ _ _ _ _ _ _ _ _ _ _ _ _ _ _ _ _ _ _ _ _ _ _ _ _ _ _ _ _ _ _ _ _ _ _ _ _ _ _ _ _ _ _ _ _ _ _ _ _ _ _ _ _ _ _ _ _ _ _ _ _ _ _ _ _ _ _ _ _ _ _ _ _ _ _ _ _ _ _ _ _ _ _ _ _ _ _ _ _ _ _ _ _ _ _ _ _ _ _ _ _ _ _ _ _ _ _ _ _ _ _ _ _ _ _ _ _ _ _ _ _ _ _ _ _ _ _ _ _ _ _ _ _ _ _ _ _ _ _ ((ST.out.below ((Below.refl wz.heap.size wz).alloc (Nat.le_refl _) _)).up (by omega))
    have CUT := Lib.hid CUT0
    clear ar CUT0
    refine (link_calls W1 _ c g _ _ a b ST.out.hg HS.out hei hne (by omega)).mono ?_
    have HG : (linkOf c g a b).2.2 = 0 → Good c g (linkOf c g a b).1 := good_link HGO.out
    generalize linkOf c g a b = r at HG ⊢
    have hlt := ST.out.lt
    obtain ⟨z, x, err⟩ := r
    rintro e wz ⟨zn, ze, rfl, hgz, hb⟩
    obtain ⟨⟨A3, L3, c3, rfl⟩, A4, L4, c4, rfl⟩ := hgz.three3
    have sz := hb.size
    have ST := Lib.hid (ST.out.below hb)
    have HZ := Lib.hid hgz
    clear hb hgz x0 x1 x2 x3 xf d0 d1 d2 d3 d4
    simp only at HG HZ ⊢
    have g5 : w.heap.size + 1 < wz.heap.size := by omega
    by_cases h0 : err = 0
    · subst h0
      have HD := Lib.hid (HG rfl)
      clear HG
      obtain ⟨zs, HO, hzs, hzl⟩ := ST.out.own
      have HZS := Lib.hid hzs
      have HO := Lib.hid HO
      have HK := Lib.hid ST.out.K
      have o2 := ST.out.o2
      clear hzs
      go_wp2_with (at_builtin; refine wpList_own_appendS (ty := tGr) (w := w) (S := fun k => B0 ≤ k) (Sy := fun k => W1.heap.size ≤ k ∧ k < wz.heap.size) (v := v1) (xs := zs) (x := z) rfl _ _ 63 27 64 _ rfl elemGraphs rfl ?hown1 rfl (by simp) ?hk1 ?hB1 ?hge1 ?hSn1 ?hbytes1 ?hlen1 ?hin1 ?_)
      case hown1 => exact HO.out.below (((Below.refl wz.heap.size wz).alloc (Nat.le_refl _) _))
      case hk1 => exact ⟨_, _, rfl, (HZ.out.bound.mono fun k h _ => h).move (Same.of_alloc _ _ _)⟩
      case hB1 => exact HK.out.alloc (by omega) _
      case hge1 => exact fun k hk => by have := hlt k hk; have := ST.out.o1; omega
      case hSn1 => exact fun k hk => by omega
      case hbytes1 => omega
      case hlen1 => exact Nat.le_trans (show _ ≤ 100 by omega) (by decide)
      case hin1 => exact fun k h1 h2 _ => ⟨by omega, fun e => by have := hlt k e; omega⟩
      intro v9 w9 ho9 hb9 hge9 hg9
      have STa := (ST.out.below ((Below.refl wz.heap.size wz).alloc (Nat.le_refl _) _)).app (fun k e => (hlt k e).1) hg9 hb9 ho9 HD.out HZS.out hzl
      clear ST hg9 hb9 ho9 HD HZS hzl HO hge9 HK HZ
      go_wp2
      exact CUT.out _ _ _ _ _ _ _ _ _ _ _ _ _ _ _ _ _ _ _ _ _ _ _ _ _ _ _ _ _ _ _ _ _ _ _ _ _ _ _ _ _ _ _ _ _ _ _ _ _ _ _ _ _ _ _ _ _ _ _ _ _ _ _ _ _ _ _ _ _ _ _ _ _ _ _ _ _ _ _ _ _ _ _ _ _ _ _ _ _ _ _ _ _ _ _ _ _ _ _ _ _ _ _ _ _ _ _ _ _ _ _ _ _ _ _ _ _ _ _ _ _ _ _ _ _ _ _ _ _ _ _ _ _ _ _ _ _ _ _ _ _ _ _ _ _ _ _ _ _ _ _ _ _ _ _ _ _ _ _ _ _ _ _ _ _ _ _ _ _ _ _ _ _ _ _ _ _ _ _ _ _ _ _ _ STa
    · go_wp2
      exact CUT.out _ _ _ _ _ _ _ _ _ _ _ _ _ _ _ _ _ _ _ _ _ _ _ _ _ _ _ _ _ _ _ _ _ _ _ _ _ _ _ _ _ _ _ _ _ _ _ _ _ _ _ _ _ _ _ _ _ _ _ _ _ _ _ _ _ _ _ _ _ _ _ _ _ _ _ _ _ _ _ _ _ _ _ _ _ _ _ _ _ _ _ _ _ _ _ _ _ _ _ _ _ _ _ _ _ _ _ _ _ _ _ _ _ _ _ _ _ _ _ _ _ _ _ _ _ _ _ _ _ _ _ _ _ _ _ _ _ _ _ _ _ _ _ _ _ _ _ _ _ _ _ _ _ _ _ _ _ _ _ _ _ _ _ _ _ _ _ _ _ _ _ _ _ _ _ _ _ _ _ _ _ _ _ _ ((ST.out.below ((Below.refl wz.heap.size wz).alloc (Nat.le_refl _) _)).up (by omega))
  have CUT := Lib.hid CUT0
  clear ar CUT0
  refine (add_calls w2 _ c g _ _ ST.out.hg HS.out hni hnn (by omega)).mono ?_
  have HG : (addOf c g).2.2 = 0 → Good c g (addOf c g).1 := good_add HGO.out
  generalize addOf c g = r at HG ⊢
  have hlt := ST.out.lt
  obtain ⟨z, x, err⟩ := r
  rintro e wz ⟨zn, ze, rfl, hgz, hb⟩
  obtain ⟨⟨A3, L3, c3, rfl⟩, A4, L4, c4, rfl⟩ := hgz.three3
  have sz := hb.size
  have ST := Lib.hid (ST.out.below hb)
  have HZ := Lib.hid hgz
  clear hb hgz x0 x1 x2 x3 xf d0 d1 d2 d3 d4
  simp only at HG HZ ⊢
  generalize hv0 : Value.slice none 0 0 = v0 at ST hlt ⊢
  clear hv0
  have g5 : w.heap.size + 1 < wz.heap.size := by omega
  by_cases h0 : err = 0
  · subst h0
    have HD := Lib.hid (HG rfl)
    clear HG
    obtain ⟨zs, HO, hzs, hzl⟩ := ST.out.own
    have HZS := Lib.hid hzs
    have HO := Lib.hid HO
    have HK := Lib.hid ST.out.K
    have o2 := ST.out.o2
    clear hzs
    go_wp2_with (at_builtin; refine wpList_own_appendS (ty := tGr) (w := w) (S := fun k => B0 ≤ k) (Sy := fun k => w2.heap.size ≤ k ∧ k < wz.heap.size) (v := v0) (xs := zs) (x := z) rfl _ _ 63 27 64 _ rfl elemGraphs rfl ?hown0 rfl (by simp) ?hk0 ?hB0 ?hge0 ?hSn0 ?hbytes0 ?hlen0 ?hin0 ?_)
    case hown0 => exact HO.out.below (((Below.refl wz.heap.size wz).alloc (Nat.le_refl _) _))
    case hk0 => exact ⟨_, _, rfl, (HZ.out.bound.mono fun k h _ => h).move (Same.of_alloc _ _ _)⟩
    case hB0 => exact HK.out.alloc (by omega) _
    case hge0 => exact fun k hk => by have := hlt k hk; have := ST.out.o1; omega
    case hSn0 => exact fun k hk => by omega
    case hbytes0 => omega
    case hlen0 => exact Nat.le_trans (show _ ≤ 100 by omega) (by decide)
    case hin0 => exact fun k h1 h2 _ => ⟨by omega, fun e => by have := hlt k e; omega⟩
    intro v9 w9 ho9 hb9 hge9 hg9
    have STa := (ST.out.below ((Below.refl wz.heap.size wz).alloc (Nat.le_refl _) _)).app (fun k e => (hlt k e).1) hg9 hb9 ho9 HD.out HZS.out hzl
    clear ST hg9 hb9 ho9 HD HZS hzl HO hge9 HK HZ
    go_wp2
    exact CUT.out _ _ _ _ _ _ _ _ _ _ _ _ _ _ _ _ _ _ _ _ _ _ _ _ _ _ _ _ _ _ _ _ _ _ _ _ _ _ _ _ _ _ _ _ _ _ _ _ _ _ _ _ _ _ _ _ _ _ _ _ _ _ _ _ _ _ _ _ _ _ _ _ _ _ _ _ _ _ _ _ _ _ _ _ _ _ _ _ _ _ _ _ _ _ _ _ _ _ _ _ _ _ _ _ _ _ _ _ _ _ _ _ _ _ _ _ _ _ _ _ _ _ _ _ _ _ _ _ _ _ _ _ _ _ _ _ _ _ _ _ _ _ _ _ _ _ _ _ _ _ _ _ _ _ _ _ _ _ _ _ _ _ _ _ _ _ _ _ _ _ _ _ _ _ _ _ _ _ _ _ _ _ _ _ STa
  · go_wp2
    exact CUT.out _ _ _ _ _ _ _ _ _ _ _ _ _ _ _ _ _ _ _ _ _ _ _ _ _ _ _ _ _ _ _ _ _ _ _ _ _ _ _ _ _ _ _ _ _ _ _ _ _ _ _ _ _ _ _ _ _ _ _ _ _ _ _ _ _ _ _ _ _ _ _ _ _ _ _ _ _ _ _ _ _ _ _ _ _ _ _ _ _ _ _ _ _ _ _ _ _ _ _ _ _ _ _ _ _ _ _ _ _ _ _ _ _ _ _ _ _ _ _ _ _ _ _ _ _ _ _ _ _ _ _ _ _ _ _ _ _ _ _ _ _ _ _ _ _ _ _ _ _ _ _ _ _ _ _ _ _ _ _ _ _ _ _ _ _ _ _ _ _ _ _ _ _ _ _ _ _ _ _ _ _ _ _ _ ((ST.out.below ((Below.refl wz.heap.size wz).alloc (Nat.le_refl _) _)).up (by omega))
end Go.Proofs.Ytpehmmdbjakkpaa
