/- The reference's Copy. -/
import Derived.Test.YtpehmmdbjakkpaaGreatSameG
import Derived.Test.YtpehmmdbjakkpaaGreatLibM
namespace Go.Proofs.YtpehmmdbjakkpaaGreat
open Go.RowKit Go.Shelf
set_option linter.unusedSimpArgs false
set_option linter.unusedVariables false
set_option maxRecDepth 20000
/-- A graph's copy: its nodes and its edges may be written, and its nodes' properties lie elsewhere. -/
def CopyPost (w : World) (g : GraphD) (e : Ending) (w' : World) : Prop := ∃ vn' ve' nvs, e = .returned (.agg #[vn', ve', .int .i64 g.nn, .int .i64 g.ne]) ∧ Own tNV 72 w' (fun k => w.heap.size ≤ k) vn' nvs ∧ Own tEdge 75 w' (fun k => w.heap.size ≤ k) ve' g.edges ∧ NVs w' (fun j => w.heap.size ≤ j ∧ vn'.ownBlock ≠ some j ∧ ve'.ownBlock ≠ some j) nvs g.nodes ∧ (∀ j, ve'.ownBlock = some j → vn'.ownBlock ≠ some j) ∧ Below w.heap.size w w'
theorem NVs.snocG {w : World} {S : Nat → Prop} {nvs : List NV} {xs : List NodeD} {v : NV} {x : NodeD} (h : NVs w S nvs xs) (hid : v.id = x.id) (hr : Row tP w S (.slice v.A v.n v.c) x.ps) : NVs w S (nvs ++ [v]) (xs ++ [x]) := by
 refine ⟨by simp [h.len], fun j u y hu hy => ?_⟩
 rw [List.getElem?_append] at hu hy
 rw [h.len] at hu
 split at hu
 ·
  rename_i hj
  rw [if_pos hj] at hy
  exact h.each j u y hu hy
 ·
  rename_i hj
  rw [if_neg hj] at hy
  rcases hn : j - xs.length with _ | m
  ·
   rw [hn] at hu hy
   simp at hu hy
   subst hu hy
   exact ⟨hid, hr⟩
  ·
   rw [hn] at hu
   simp at hu
set_option maxHeartbeats 8000000 in
theorem copyO_calls (w : World) (S : Nat → Prop) (g : GraphD) (vn ve : Value) (h : Gr w S g vn ve) (hs : g.small) : Calls Tryz.prog 74 #[.agg #[vn, ve, .int .i64 g.nn, .int .i64 g.ne]] w (CopyPost w g) := by
 obtain ⟨⟨A1, c1, rfl⟩, ⟨A2, c2, rfl⟩⟩ := h.slices
 have HS := Lib.hid hs
 have hs1 := hs.1
 have hs2 := hs.2.1
 have hW0 : Below w.heap.size w ((w.alloc (.cells #[.slice A1 g.nodes.length c1, .slice A2 g.edges.length c2, .int .i64 g.nn, .int .i64 g.ne] 31)).alloc (.cells #[.slice none 0 0, .slice none 0 0, .int .i64 0, .int .i64 0] 31)) := ((Below.refl w.heap.size w).alloc (Nat.le_refl _) _).alloc (by simp) _
 have KW := Lib.hid hW0
 have H0 := Lib.hid (h.below hW0).bound
 have HG := Lib.hid h
 have BX := Lib.hid ((Box4.made w 31 (.slice A1 g.nodes.length c1) (.slice A2 g.edges.length c2) (.int .i64 g.nn) (.int .i64 g.ne)).keep (W' := ((w.alloc (.cells #[.slice A1 g.nodes.length c1, .slice A2 g.edges.length c2, .int .i64 g.nn, .int .i64 g.ne] 31)).alloc (.cells #[.slice none 0 0, .slice none 0 0, .int .i64 0, .int .i64 0] 31))) (Below.heap_alloc _ _ _ (by simp)))
 have BR := Lib.hid (Box4.made (w.alloc (.cells #[.slice A1 g.nodes.length c1, .slice A2 g.edges.length c2, .int .i64 g.nn, .int .i64 g.ne] 31)) 31 (.slice none 0 0) (.slice none 0 0) (.int .i64 0) (.int .i64 0))
 clear hW0 h hs
 simp only [World.size_alloc] at BR
 go_enter Tryz.func74, Tryz.ntmps74
 go_wp2_with fail
 obtain ⟨V0, hV⟩ : ∃ V, V = ((w.alloc (.cells #[.slice A1 g.nodes.length c1, .slice A2 g.edges.length c2, .int .i64 g.nn, .int .i64 g.ne] 31)).alloc (.cells #[.slice none 0 0, .slice none 0 0, .int .i64 0, .int .i64 0] 31)) := ⟨_, rfl⟩
 have sV : V0.heap.size = w.heap.size + 1 + 1 := by rw [hV]; simp
 rw [← hV] at KW H0 BX BR ⊢
 clear hV
 have HR0 := Lib.hid H0.out.2
 obtain ⟨x0, x1, x2, x3, xf⟩ := BX.out
 have q1 : w.heap.size < V0.heap.size := by omega
 refine wp_region_tr (fun _ => True) (.take 0 (.take 1 (.take 2 (.take 3 (.take 4 (.take 5 (.two 6 (.take 7 (.step 8 (.step 9 .nil))) 8 (.step 6 (.take 7 (.step 9 .nil)))))))))) (by kernel_rfl) (by kernel_rfl) (fun hS => ?_)
 have HK := Lib.hid hS
 clear hS
 repeat (refine tr_take (v := ?_) (by simp only [opT, opS, opZ]; rfl) (Or.inl ⟨by rfl, fun W hW => ?_⟩) HK.out ?_; rotate_left; (have hc := fun b o hb => hW.cell b o trivial hb; clear hW; go_simp; with_reducible rfl); simp only [Act.put, putT, putZ, putS])
 rename_i Kr ar
 have CUT0 : ∀ (V : World) (B : Nat) (v1 : Value), Below w.heap.size w V → B < V.heap.size → w.heap.size + 1 + 1 ≤ B → Box4 V w.heap.size (.slice A1 g.nodes.length c1) (.slice A2 g.edges.length c2) (.int .i64 g.nn) (.int .i64 g.ne) → Box4 V (w.heap.size + 1) (.slice none 0 0) (.slice none 0 0) (.int .i64 0) (.int .i64 0) → Box4 V B (.slice none 0 0) v1 (.int .i64 g.nn) (.int .i64 g.ne) → Own tEdge 75 V (fun k => w.heap.size + 1 + 1 ≤ k) v1 g.edges → v1.ownBlock ≠ some B → Kr { tmps := #[.agg #[.slice A1 g.nodes.length c1, .slice A2 g.edges.length c2, .int .i64 g.nn, .int .i64 g.ne], .pointer (some ⟨w.heap.size, 0, none⟩), .pointer (some ⟨w.heap.size + 1, 0, none⟩), .pointer (some ⟨B, 0, none⟩), undef, undef, .pointer (some ⟨w.heap.size, 2, none⟩), .int .i64 g.nn, .pointer (some ⟨w.heap.size, 3, none⟩), .int .i64 g.ne, .pointer (some ⟨w.heap.size, 1, none⟩), .slice A2 g.edges.length c2, v1, .agg #[.slice none 0 0, v1, .int .i64 g.nn, .int .i64 g.ne], undef, undef, undef, undef, undef, undef, undef, undef, undef, undef, undef, undef, undef, undef, undef, undef, undef, undef, undef, undef], defers := [] } V := by
  intro V B v1 hKV hB hB2 hbx hbr hbb hov hne
  refine ar _ _ ?_
  obtain ⟨Av, cv, rfl⟩ := hov.slice
  have KV := Lib.hid hKV
  have HBX := Lib.hid hbx
  have HBR := Lib.hid hbr
  have HBB := Lib.hid hbb
  have HOV := Lib.hid hov
  have HNE := Lib.hid hne
  have hVs := hKV.size
  clear hKV hbx hbr hbb hov hne ar x0 x1 x2 x3 xf
  obtain ⟨x0, x1, x2, x3, xf⟩ := HBX.out
  have q2 : w.heap.size < V.heap.size := by omega
  go_wp2
  clear x0 x1 x2 x3 xf
  go_loopw [17] (fun p wr => ∃ (k : Nat) (nvs : List NV) (Ao : Option Addr) (co : Nat), k ≤ g.nodes.length ∧ p = .int .i64 (k : Int) ∧ B < wr.heap.size ∧ Hid (Box4 wr B (.slice Ao k co) (.slice Av g.edges.length cv) (.int .i64 g.nn) (.int .i64 g.ne)) ∧ Hid (Own tNV 72 wr (fun j => w.heap.size + 1 + 1 ≤ j) (.slice Ao k co) nvs) ∧ Hid (nvs.length = k) ∧ Hid (NVs wr (fun j => w.heap.size + 1 + 1 ≤ j ∧ (Value.slice Ao k co).ownBlock ≠ some j ∧ j ≠ B ∧ (Value.slice Av g.edges.length cv).ownBlock ≠ some j) nvs (g.nodes.take k)) ∧ Hid (Own tEdge 75 wr (fun j => w.heap.size + 1 + 1 ≤ j) (.slice Av g.edges.length cv) g.edges) ∧ Hid ((Value.slice Ao k co).ownBlock ≠ some B ∧ ∀ j, (Value.slice Av g.edges.length cv).ownBlock = some j → (Value.slice Ao k co).ownBlock ≠ some j) ∧ Hid (Below w.heap.size w wr) ∧ Hid (Box4 wr w.heap.size (.slice A1 g.nodes.length c1) (.slice A2 g.edges.length c2) (.int .i64 g.nn) (.int .i64 g.ne)) ∧ Hid (Box4 wr (w.heap.size + 1) (.slice none 0 0) (.slice none 0 0) (.int .i64 0) (.int .i64 0))) (fun p _ => g.nodes.length - (intOf p).toNat)
  case atStart => exact ⟨0, [], none, 0, by omega, rfl, hB, HBB, Own.nil _ _ _ _, rfl, NVs.nil _ _, HOV, ⟨by simp [Value.ownBlock], fun j _ => by simp [Value.ownBlock]⟩, KV, HBX, HBR⟩
  case round =>
   obtain ⟨wa, rfl⟩ : ∃ wa, wa = wr := ⟨wr, rfl⟩
   obtain ⟨k, nvs, Ao, co, hk, rfl, hBl, hbb, hon, hnl, hnv, hoe, hsp, hb, hbx, hbr⟩ := hrel
   have hwr := hb.out.size
   by_cases hlt : k < g.nodes.length
   case neg =>
    obtain rfl : k = g.nodes.length := by omega
    obtain ⟨z0, z1, z2, z3, zf⟩ := hbb.out
    obtain ⟨y0, y1, y2, y3, yf⟩ := hbr.out
    have q3 : w.heap.size + 1 < wa.heap.size := by omega
    go_wp2
    have hSm : Same (fun j => w.heap.size + 1 + 1 ≤ j) wa (set4 wa (w.heap.size + 1) (.slice Ao g.nodes.length co) (.slice Av g.edges.length cv) (.int .i64 g.nn) (.int .i64 g.ne)) := fun j hj _ => set4_heap _ _ _ _ _ _ j (by omega)
    refine bodyPost_ret (v := .agg #[.slice Ao g.nodes.length co, .slice Av g.edges.length cv, .int .i64 g.nn, .int .i64 g.ne]) (by simp [results, Tryz.results74, go_sem, y0, y1, y2, y3]; try rfl) rfl ?_
    have hnv2 := hnv.out
    rw [List.take_length] at hnv2
    exact ⟨_, _, nvs, rfl, (hon.out.move hSm).mono fun j hj _ => by omega, (hoe.out.move hSm).mono fun j hj _ => by omega, (hnv2.move (hSm.mono fun j hj => hj.1)).mono fun j hj _ => ⟨by have := hj.1; omega, hj.2.1, hj.2.2.2⟩, hsp.out.2, set4_below hb.out (by omega) _ _ _ _⟩
   obtain ⟨x, hx⟩ := getElem?_of_lt hlt
   obtain ⟨bn, on, ap, dp, rfl, _, hbl, hr, z0, z1⟩ := (HG.out.below hb.out).atN hx
   have hpx := HS.out.2.2 x (List.mem_of_getElem? hx)
   have HX := Lib.hid hx
   have HRP := Lib.hid (hr.bound.below (Below.heap1 wa (.cells #[.int .i64 x.id, .slice ap x.ps.length dp] 72)).drew)
   have q1 : wa.heap.size < wa.heap.size + 1 := by omega
   have q3 : bn < wa.heap.size + 1 := by omega
   have q4 : B < wa.heap.size + 1 := by omega
   obtain ⟨t0, t1, t2, t3, tf⟩ := hbb.out
   obtain ⟨y0, y1, y2, y3, yf⟩ := hbx.out
   have q5 : w.heap.size < wa.heap.size := by omega
   clear hx hr
   go_wp2_with fail
   refine wp_region_sched2 [(0, true), (1, true), (2, true), (3, true), (4, true), (5, true), (6, false), (7, true), (8, false), (9, false), (10, true)] 11 [] (Kept (wa.alloc (.cells #[.int .i64 x.id, .slice ap x.ps.length dp] 72)) (fun j => ¬ (Value.slice Ao k co).ownBlock = some j)) (fun _ => True) (by kernel_rfl) (by kernel_rfl) (by kernel_rfl) ?_
   have HK := Lib.hid (Kept.refl (wa.alloc (.cells #[.int .i64 x.id, .slice ap x.ps.length dp] 72)) (fun j => ¬ (Value.slice Ao k co).ownBlock = some j)).drew
   have hn1 : ¬ (Value.slice Ao k co).ownBlock = some B := hsp.out.1
   have hn2 : ¬ (Value.slice Ao k co).ownBlock = some wa.heap.size := fun e => by have := hon.out.lt _ e; omega
   repeat (refine sched2_take (v := ?_) (by simp only [opT, opS, opZ]; rfl) (Or.inl ⟨by rfl, fun W hW => ?_⟩) HK.out ?_; rotate_left; (have hc := fun b o hn hb => hW.cell b o hn hb; clear hW; go_simp; with_reducible rfl); simp only [Act.put, putT, putZ, putS])
   refine sched2_step (by simp only [opT, opS, opZ]; rfl) ?_
   go_wp2_with (at_builtin; refine wpList_own_append (ty := tP) (S := fun k => True) (Sy := fun j => S j ∧ j < wa.heap.size) (v := .slice none 0 0) (xs := []) (ys := x.ps) rfl _ _ 47 92 16 _ rfl elemPairs rfl (Own.nil _ _ _ _) ap x.ps.length dp rfl ?crow rfl ?c1 ?c2 trivial (fun k h _ => ⟨trivial, by simp [Value.ownBlock]⟩) ?_)
   case crow => exact HRP.out
   case c1 => first | omega | (simp; omega)
   case c2 => unfold maxLen; first | omega | (simp; omega)
   intro v2 w2 ho2 hg2 hor2
   have s2 := hg2.size
   try simp only [World.size_drew, World.size_alloc] at s2
   have hk2 : ∀ j, j < wa.heap.size + 1 → w2.heap[j]? = (wa.alloc (.cells #[.int .i64 x.id, .slice ap x.ps.length dp] 72)).heap[j]? := fun j hl => hg2.block j (by simp; omega) (by simp [Value.ownBlock])
   have hoB : ∀ j, v2.ownBlock = some j → wa.heap.size + 1 ≤ j := fun j hj => by
    rcases hor2 with h | h
    ·
     rw [h] at hj; simp [Value.ownBlock] at hj
    ·
     have h9 := Option.some.inj (h.symm.trans hj); try simp at h9
     omega
   have HK2 := Lib.hid (show Kept (wa.alloc (.cells #[.int .i64 x.id, .slice ap x.ps.length dp] 72)) (fun j => ¬ (Value.slice Ao k co).ownBlock = some j) w2 from ⟨by simp; omega, fun j _ hl => hk2 j (by simpa using hl)⟩)
   have hwk : ∀ j, j < wa.heap.size → w2.heap[j]? = wa.heap[j]? := fun j hl => (hk2 j (by omega)).trans (Below.heap_alloc _ _ _ hl)
   have HWK := Lib.hid hwk
   obtain ⟨Ap, cp, rfl⟩ := ho2.slice
   have HP2 := Lib.hid ho2
   have HOB := Lib.hid hoB
   have K2 := Lib.hid (show Below w.heap.size w w2 from ((hb.out.alloc (by omega) _).drew).grown hg2 (by first | omega | (simp; omega)) (fun j hj => by simp [Value.ownBlock] at hj))
   have HN2 := Lib.hid (hon.out.keepFlat (w' := w2) fun j hj => hwk j (hon.out.lt j hj))
   clear hg2 hor2 ho2 hk2 hoB hwk
   go_wp2_with fail
   refine sched2_on HK2.out ?_
   repeat (refine sched2_take (v := ?_) (by simp only [opT, opS, opZ]; rfl) (Or.inl ⟨by rfl, fun W hW => ?_⟩) HK2.out ?_; rotate_left; (have hc := fun b o hn hb => hW.cell b o hn hb; clear hW; go_simp; with_reducible rfl); simp only [Act.put, putT, putZ, putS])
   refine sched2_step (by simp only [opT, opS, opZ]; rfl) ?_
   go_wp2_with fail
   refine sched2_on ((by repeat (first | (with_reducible exact HK2.out) | (with_reducible exact Kept.refl _ _) | (with_reducible refine Kept.drew ?_) | (with_reducible refine Kept.drewN ?_ _) | (with_reducible refine Kept.alloc ?_ _) | (with_reducible refine Kept.setCell ?_ (.inl (by simp; try omega)) _)))) ?_
   repeat (refine sched2_take (v := ?_) (by simp only [opT, opS, opZ]; rfl) (Or.inl ⟨by rfl, fun W hW => ?_⟩) (by repeat (first | (with_reducible exact HK2.out) | (with_reducible exact Kept.refl _ _) | (with_reducible refine Kept.drew ?_) | (with_reducible refine Kept.drewN ?_ _) | (with_reducible refine Kept.alloc ?_ _) | (with_reducible refine Kept.setCell ?_ (.inl (by simp; try omega)) _))) ?_; rotate_left; (have hc := fun b o hn hb => hW.cell b o hn hb; clear hW; go_simp; with_reducible rfl); simp only [Act.put, putT, putZ, putS])
   refine sched2_step (by simp only [opT, opS, opZ]; rfl) ?_
   have hnl2 := hnl.out
   go_wp2_with (at_builtin; refine wpList_own_append1 (ty := tNV) (w := w) (S := fun j => w.heap.size + 1 + 1 ≤ j) (Sy := fun _ => False) (v := .slice Ao k co) (xs := nvs) (x := ⟨x.id, Ap, x.ps.length, cp⟩) rfl _ _ 28 72 32 _ rfl elemNodes rfl ?hown rfl (by simp <;> omega) rfl ?hB ?hSw ?hSn ?hbytes ?hlen (fun _ h => h.elim) ?_)
   case hown => exact HN2.out
   case hB => exact K2.out
   case hSw => intro j hj; have h9 : w.heap.size + 1 + 1 ≤ j := hj; omega
   case hSn => intro j h1 h2; show w.heap.size + 1 + 1 ≤ j; omega
   case hbytes => omega
   case hlen => unfold maxLen; omega
   intro v3 w3 ho3 hb3 hg3 hor3
   have hl3 : (nvs ++ [(⟨x.id, Ap, x.ps.length, cp⟩ : NV)]).length = k + 1 := by rw [List.length_append, hnl2]; rfl
   have hsl := ho3.slice
   rw [hl3] at hsl
   obtain ⟨A3, c3, rfl⟩ := hsl
   have s3 := hg3.size
   have hoLT := hon.out.lt
   have hk3 : ∀ j, j < w2.heap.size → ¬ (Value.slice Ao k co).ownBlock = some j → w3.heap[j]? = w2.heap[j]? := fun j hl hn => hg3.block j hl (fun e => hn e.symm)
   have ho3n : ∀ j, j < w2.heap.size → ¬ (Value.slice Ao k co).ownBlock = some j → (Value.slice A3 (k + 1) c3).ownBlock ≠ some j := fun j hl hn e => by
    rcases hor3 with h | h
    ·
     exact hn (h ▸ e)
    ·
     have h9 := Option.some.inj (h.symm.trans e); omega
   have HK3 := Lib.hid (show Kept (wa.alloc (.cells #[.int .i64 x.id, .slice ap x.ps.length dp] 72)) (fun j => ¬ (Value.slice Ao k co).ownBlock = some j) w3 from ⟨by simp; omega, fun j hT hl => (hk3 j (by simp at hl; omega) hT).trans (HK2.out.2 j hT hl)⟩)
   have HBB3 := Lib.hid (hbb.out.keep (W' := w3) ((hk3 B (by omega) hsp.out.1).trans (HWK.out B hBl)))
   have HBX3 := Lib.hid (hbx.out.keep (W' := w3) ((hk3 w.heap.size (by omega) (fun e => by have h9 : w.heap.size + 1 + 1 ≤ w.heap.size := hon.out.1 _ e; omega)).trans (HWK.out _ (by omega))))
   have HBR3 := Lib.hid (hbr.out.keep (W' := w3) ((hk3 (w.heap.size + 1) (by omega) (fun e => by have h9 : w.heap.size + 1 + 1 ≤ w.heap.size + 1 := hon.out.1 _ e; omega)).trans (HWK.out _ (by omega))))
   have HO3 := Lib.hid ho3
   have HL3 := Lib.hid hl3
   have HHK3 := Lib.hid hk3
   have HO3N := Lib.hid ho3n
   have KB3 := Lib.hid hb3
   clear ho3 hb3 hg3 hor3 hl3 hk3 ho3n t0 t1 t2 t3 tf hnl2 hoLT
   have q6 : B < w3.heap.size := by omega
   obtain ⟨t0, t1, t2, t3, tf⟩ := HBB3.out
   go_wp2_with fail
   refine sched2_on HK3.out ?_
   repeat (refine sched2_take (v := ?_) (by simp only [opT, opS, opZ]; rfl) (Or.inl ⟨by rfl, fun W hW => ?_⟩) HK3.out ?_; rotate_left; (have hc := fun b o hn hb => hW.cell b o hn hb; clear hW; go_simp; with_reducible rfl); simp only [Act.put, putT, putZ, putS])
   refine sched2_go (by simp only [opT, opS, opZ]; rfl) ?_
   go_wp2_with fail
   refine sched_on trivial ?_
   refine sched_done ?_
   have hBe : ∀ j, j ≠ B → (w3.setCell ⟨B, 0, none⟩ (.slice A3 (k + 1) c3)).heap[j]? = w3.heap[j]? := fun j hj => Below.heap_setCell w3 ⟨B, 0, none⟩ _ j hj
   have M1 := Lib.hid (HBB3.out.set0 (.slice A3 (k + 1) c3))
   have M2 := Lib.hid (HO3.out.keepFlat (w' := w3.setCell ⟨B, 0, none⟩ (.slice A3 (k + 1) c3)) fun j hj => hBe j (fun e => HO3N.out B (by omega) hsp.out.1 (e ▸ hj)))
   have M4 := Lib.hid (hoe.out.keepFlat (w' := w3.setCell ⟨B, 0, none⟩ (.slice A3 (k + 1) c3)) fun j hj => ((hBe j (fun e => HNE.out (e ▸ hj))).trans (HHK3.out j (by have := hoe.out.lt j hj; omega) (hsp.out.2 j hj))).trans (HWK.out j (hoe.out.lt j hj)))
   have M5 := Lib.hid (show (Value.slice A3 (k + 1) c3).ownBlock ≠ some B ∧ ∀ j, (Value.slice Av g.edges.length cv).ownBlock = some j → (Value.slice A3 (k + 1) c3).ownBlock ≠ some j from ⟨HO3N.out B (by omega) hsp.out.1, fun j hj => HO3N.out j (by have := hoe.out.lt j hj; omega) (hsp.out.2 j hj)⟩)
   have M6 := Lib.hid (KB3.out.setCell (p := ⟨B, 0, none⟩) (by simp only; omega) (.slice A3 (k + 1) c3))
   have M7 := Lib.hid (HBX3.out.other (b' := B) (by omega) 0 (.slice A3 (k + 1) c3))
   have M8 := Lib.hid (HBR3.out.other (b' := B) (by omega) 0 (.slice A3 (k + 1) c3))
   have hSN : Same (fun j => w.heap.size + 1 + 1 ≤ j ∧ (Value.slice Ao k co).ownBlock ≠ some j ∧ j ≠ B ∧ (Value.slice Av g.edges.length cv).ownBlock ≠ some j) wa (w3.setCell ⟨B, 0, none⟩ (.slice A3 (k + 1) c3)) := fun j hj hl => ((hBe j hj.2.2.1).trans (HHK3.out j (by omega) hj.2.1)).trans (HWK.out j hl)
   have hNV : NVs (w3.setCell ⟨B, 0, none⟩ (.slice A3 (k + 1) c3)) (fun j => w.heap.size + 1 + 1 ≤ j ∧ (Value.slice A3 (k + 1) c3).ownBlock ≠ some j ∧ j ≠ B ∧ (Value.slice Av g.edges.length cv).ownBlock ≠ some j) nvs (g.nodes.take k) := by
    have h1 : NVs wa (fun j => (w.heap.size + 1 + 1 ≤ j ∧ (Value.slice Ao k co).ownBlock ≠ some j ∧ j ≠ B ∧ (Value.slice Av g.edges.length cv).ownBlock ≠ some j) ∧ j < wa.heap.size) nvs (g.nodes.take k) := hnv.out.mono fun j hj hl => ⟨hj, hl⟩
    exact (h1.move (hSN.mono fun j hj => hj.1)).mono fun j hj _ => ⟨hj.1.1, HO3N.out j (by omega) hj.1.2.1, hj.1.2.2⟩
   have hRow : Row tP (w3.setCell ⟨B, 0, none⟩ (.slice A3 (k + 1) c3)) (fun j => w.heap.size + 1 + 1 ≤ j ∧ (Value.slice A3 (k + 1) c3).ownBlock ≠ some j ∧ j ≠ B ∧ (Value.slice Av g.edges.length cv).ownBlock ≠ some j) (.slice Ap x.ps.length cp) x.ps := by
    have h1 : ∀ j, (Value.slice Ap x.ps.length cp).ownBlock = some j → ¬ (Value.slice Ao k co).ownBlock = some j := fun j hj e => by have h8 := HOB.out j hj; have h9 := hon.out.lt j e; omega
    refine ((HP2.out.keepFlat (w' := w3.setCell ⟨B, 0, none⟩ (.slice A3 (k + 1) c3)) fun j hj => (hBe j (by have h8 := HOB.out j hj; omega)).trans (HHK3.out j (HP2.out.lt j hj) (h1 j hj))).clsFlat fun j hj => ?_).row
    have h8 := HOB.out j hj
    exact ⟨by omega, HO3N.out j (HP2.out.lt j hj) (h1 j hj), by omega, fun e => by have h9 := hoe.out.lt j e; omega⟩
   have M3 := Lib.hid (show NVs (w3.setCell ⟨B, 0, none⟩ (.slice A3 (k + 1) c3)) (fun j => w.heap.size + 1 + 1 ≤ j ∧ (Value.slice A3 (k + 1) c3).ownBlock ≠ some j ∧ j ≠ B ∧ (Value.slice Av g.edges.length cv).ownBlock ≠ some j) (nvs ++ [⟨x.id, Ap, x.ps.length, cp⟩]) (g.nodes.take (k + 1)) by
    rw [List.take_add_one, HX.out, Option.toList_some]
    exact hNV.snocG rfl hRow)
   have q7 : B < (w3.setCell ⟨B, 0, none⟩ (.slice A3 (k + 1) c3)).heap.size := by rw [World.size_setCell]; omega
   clear hBe hSN hNV hRow t0 t1 t2 t3 tf y0 y1 y2 y3 yf z0 z1 hn1 hn2
   go_wp2
   go_roundw
   case rel => exact ⟨k + 1, _, A3, c3, by omega, by first | (go_num; done) | (go_num; omega), q7, M1, M2, HL3, M3, M4, M5, M6, M7, M8⟩
   case measure => simp [intOf]; omega
 have CUT := Lib.hid CUT0
 clear ar CUT0
 refine tr_two (by simp only [opT, opS, opZ]; rfl) ?_ (by simp only [opT, opS, opZ]; rfl) (Hid.out ?_)
 ·
  go_wp2_with (at_builtin; refine wpList_own_append (ty := tEdge) (W := V0.drew) (S := fun k => True) (Sy := fun k => S k ∧ k < V0.heap.size) (v := .slice none 0 0) (xs := []) (ys := g.edges) rfl _ _ 29 75 24 _ rfl elemEdges rfl (Own.nil _ _ _ _) A2 g.edges.length c2 rfl (HR0.out.below (Below.refl _ _).drew) rfl ?b1 ?b2 trivial (fun k h _ => ⟨trivial, by simp [Value.ownBlock]⟩) ?_)
  case b1 => first | omega | (simp; omega)
  case b2 => unfold maxLen; first | omega | (simp; omega)
  intro v1 w1 ho1 hg1 hor1
  have s1 := hg1.size
  have hk1 : ∀ k, k < V0.heap.size → w1.heap[k]? = V0.heap[k]? := fun k hl => hg1.block k hl (by simp [Value.ownBlock])
  have HK1 := Lib.hid (show Kept V0 (fun _ => True) w1 from ⟨s1, fun k _ hl => hk1 k hl⟩)
  have hoB : ∀ k, v1.ownBlock = some k → V0.heap.size ≤ k := fun k hk => by
   rcases hor1 with h | h
   ·
    rw [h] at hk; simp [Value.ownBlock] at hk
   ·
    have h9 := Option.some.inj (h.symm.trans hk); try simp at h9
    omega
  have HO1 := Lib.hid (show Own tEdge 75 w1 (fun k => w.heap.size + 1 + 1 ≤ k) v1 g.edges from ho1.clsFlat fun k hk => by have := hoB k hk; omega)
  have HLT := Lib.hid ho1.lt
  clear hoB
  obtain ⟨Av, cv, rfl⟩ := HO1.out.slice
  have BX1 := Lib.hid (BX.out.keep (hk1 w.heap.size (by omega)))
  have BR1 := Lib.hid (BR.out.keep (hk1 (w.heap.size + 1) (by omega)))
  have K1 := Lib.hid (show Below w.heap.size w w1 from KW.out.drew.grown hg1 (by first | omega | (simp; omega)) (fun k hk => by simp [Value.ownBlock] at hk))
  clear hg1 hor1 ho1 hk1
  try simp only [World.size_drew] at s1
  go_wp2_with fail
  refine tr_on HK1.out ?_
  repeat (refine tr_take (v := ?_) (by simp only [opT, opS, opZ]; rfl) (Or.inl ⟨by rfl, fun W hW => ?_⟩) HK1.out ?_; rotate_left; (skip; clear hW; go_simp; with_reducible rfl); simp only [Act.put, putT, putZ, putS])
  refine tr_step (by simp only [opT, opS, opZ]; rfl) ?_
  go_wp2_with fail
  refine tr_on ((by repeat (first | (with_reducible exact HK1.out) | (with_reducible exact Kept.refl _ _) | (with_reducible refine Kept.drew ?_) | (with_reducible refine Kept.drewN ?_ _) | (with_reducible refine Kept.alloc ?_ _) | (with_reducible refine Kept.setCell ?_ (.inl (by simp; try omega)) _)))) ?_
  refine tr_step (by simp only [opT, opS, opZ]; rfl) ?_
  go_wp2_with fail
  refine tr_on (by repeat (first | (with_reducible exact HK1.out) | (with_reducible exact Kept.refl _ _) | (with_reducible refine Kept.drew ?_) | (with_reducible refine Kept.drewN ?_ _) | (with_reducible refine Kept.alloc ?_ _) | (with_reducible refine Kept.setCell ?_ (.inl (by simp; try omega)) _))) ?_
  refine tr_done ?_
  go_wp2
  refine CUT.out _ w1.heap.size _ (K1.out.alloc (by omega) _) (by simp) (by omega) (BX1.out.keep (Below.heap_alloc _ _ _ (by omega))) (BR1.out.keep (Below.heap_alloc _ _ _ (by omega))) (Box4.made w1 _ _ _ _ _) (HO1.out.below (Below.heap1 w1 _)) (fun e => by have := HLT.out _ e; omega)
 ·
  refine Lib.hid ?_
  have HRz := Lib.hid (HR0.out.below (Below.heap1 V0 (.cells #[.slice none 0 0, .slice none 0 0, .int .i64 0, .int .i64 0] 31)).drew)
  have BZ := Lib.hid (Box4.made V0 31 (.slice none 0 0) (.slice none 0 0) (.int .i64 0) (.int .i64 0))
  have KZ := Lib.hid (KW.out.alloc (by omega) (.cells #[.slice none 0 0, .slice none 0 0, .int .i64 0, .int .i64 0] 31))
  have BXz := Lib.hid (BX.out.keep (W' := V0.alloc (.cells #[.slice none 0 0, .slice none 0 0, .int .i64 0, .int .i64 0] 31)) (Below.heap_alloc _ _ _ (by omega)))
  have BRz := Lib.hid (BR.out.keep (W' := V0.alloc (.cells #[.slice none 0 0, .slice none 0 0, .int .i64 0, .int .i64 0] 31)) (Below.heap_alloc _ _ _ (by omega)))
  go_wp2_with fail
  refine tr_on (by repeat (first | (with_reducible exact HK.out) | (with_reducible exact Kept.refl _ _) | (with_reducible refine Kept.drew ?_) | (with_reducible refine Kept.drewN ?_ _) | (with_reducible refine Kept.alloc ?_ _) | (with_reducible refine Kept.setCell ?_ (.inl (by simp; try omega)) _))) ?_
  refine tr_step (by simp only [opT, opS, opZ]; rfl) ?_
  go_wp2_with (at_builtin; refine wpList_own_append (ty := tEdge) (S := fun k => True) (Sy := fun k => S k ∧ k < V0.heap.size) (v := .slice none 0 0) (xs := []) (ys := g.edges) rfl _ _ 29 75 24 _ rfl elemEdges rfl (Own.nil _ _ _ _) A2 g.edges.length c2 rfl HRz.out rfl ?b1 ?b2 trivial (fun k h _ => ⟨trivial, by simp [Value.ownBlock]⟩) ?_)
  case b1 => first | omega | (simp; omega)
  case b2 => unfold maxLen; first | omega | (simp; omega)
  intro v1 w1 ho1 hg1 hor1
  have s1 := hg1.size
  simp only [World.size_drew, World.size_alloc] at s1
  have hk1 : ∀ k, k < V0.heap.size + 1 → w1.heap[k]? = (V0.alloc (.cells #[.slice none 0 0, .slice none 0 0, .int .i64 0, .int .i64 0] 31)).heap[k]? := fun k hl => hg1.block k (by simp; omega) (by simp [Value.ownBlock])
  have HK1 := Lib.hid (show Kept V0 (fun _ => True) w1 from ⟨by omega, fun k _ hl => (hk1 k (by omega)).trans (Below.heap_alloc _ _ _ hl)⟩)
  have hoB : ∀ k, v1.ownBlock = some k → V0.heap.size + 1 ≤ k := fun k hk => by
   rcases hor1 with h | h
   ·
    rw [h] at hk; simp [Value.ownBlock] at hk
   ·
    have h9 := Option.some.inj (h.symm.trans hk); try simp at h9
    omega
  have HOB := Lib.hid hoB
  have HO1 := Lib.hid (show Own tEdge 75 w1 (fun k => w.heap.size + 1 + 1 ≤ k) v1 g.edges from ho1.clsFlat fun k hk => by have := hoB k hk; omega)
  obtain ⟨Av, cv, rfl⟩ := HO1.out.slice
  have BX1 := Lib.hid (BXz.out.keep (hk1 w.heap.size (by omega)))
  have BR1 := Lib.hid (BRz.out.keep (hk1 (w.heap.size + 1) (by omega)))
  have BZ0 := BZ.out.keep (hk1 V0.heap.size (by omega))
  rw [sV] at BZ0
  have BZ1 := Lib.hid BZ0
  clear BZ0
  have K1 := Lib.hid (show Below w.heap.size w w1 from KZ.out.drew.grown hg1 (by first | omega | (simp; omega)) (fun k hk => by simp [Value.ownBlock] at hk))
  clear hg1 hor1 ho1 hk1 hoB BXz BRz BZ KZ HRz
  have g1 : w.heap.size + 1 + 1 < w1.heap.size := by omega
  obtain ⟨t0, t1, t2, t3, tf⟩ := BZ1.out
  go_wp2_with fail
  refine tr_on HK1.out ?_
  repeat (refine tr_take (v := ?_) (by simp only [opT, opS, opZ]; rfl) (Or.inl ⟨by rfl, fun W hW => ?_⟩) HK1.out ?_; rotate_left; (skip; clear hW; go_simp; with_reducible rfl); simp only [Act.put, putT, putZ, putS])
  refine tr_step (by simp only [opT, opS, opZ]; rfl) ?_
  go_wp2_with fail
  refine tr_on (by repeat (first | (with_reducible exact HK1.out) | (with_reducible exact Kept.refl _ _) | (with_reducible refine Kept.drew ?_) | (with_reducible refine Kept.drewN ?_ _) | (with_reducible refine Kept.alloc ?_ _) | (with_reducible refine Kept.setCell ?_ (.inl (by simp; try omega)) _))) ?_
  refine tr_done ?_
  go_wp2
  refine CUT.out _ (w.heap.size + 1 + 1) _ (set4_below K1.out (by omega) (.slice none 0 0) (.slice Av g.edges.length cv) (.int .i64 g.nn) (.int .i64 g.ne)) (by simp; omega) (by omega) (BX1.out.other4 (by omega) _ _ _ _) (BR1.out.other4 (by omega) _ _ _ _) (BZ1.out.set _ _ _ _) (HO1.out.keepFlat fun k hk => set4_heap _ _ _ _ _ _ k (by have := HOB.out k hk; omega)) (fun e => by have := HOB.out _ e; omega)
theorem CopyPost.gr {w w' : World} {g : GraphD} {e : Ending} (h : CopyPost w g e w') : ∃ vn' ve', e = .returned (.agg #[vn', ve', .int .i64 g.nn, .int .i64 g.ne]) ∧ Gr w' (fun k => w.heap.size ≤ k) g vn' ve' ∧ Below w.heap.size w w' := by
 obtain ⟨vn', ve', nvs, he, h1, h2, h3, _, hb⟩ := h
 exact ⟨vn', ve', he, ⟨⟨nvs, h1.row, h3.mono fun j hj _ => hj.1⟩, h2.row⟩, hb⟩
theorem copy_calls (w : World) (S : Nat → Prop) (g : GraphD) (vn ve : Value) (h : Gr w S g vn ve) (hs : g.small) : Calls Tryz.prog 74 #[.agg #[vn, ve, .int .i64 g.nn, .int .i64 g.ne]] w fun e w' => ∃ vn' ve', e = .returned (.agg #[vn', ve', .int .i64 g.nn, .int .i64 g.ne]) ∧ Gr w' (fun k => w.heap.size ≤ k) g vn' ve' ∧ Below w.heap.size w w' :=
 (copyO_calls w S g vn ve h hs).mono fun _ _ h => h.gr

end Go.Proofs.YtpehmmdbjakkpaaGreat
