/- lin.start: a history is read. lin.first: the first order of which something is so. lin.Search and lin.Reach. The plain laws of chapter 13: what is found is an order; a result that none can tell; cut histories. -/
import Derived.Test.YtpehmmdbjakkpaaGreatLinIM
import Derived.Test.YtpehmmdbjakkpaaGreatCheckM
import Derived.Test.YtpehmmdbjakkpaaGreatHistM
import Derived.Test.YtpehmmdbjakkpaaGreatSameB
set_option linter.unusedSimpArgs false
set_option linter.unusedVariables false
namespace Go.Proofs.YtpehmmdbjakkpaaGreat
open Go.RowKit Go.Shelf
instance (c : CfgD) : Decidable c.ok := by unfold CfgD.ok; exact inferInstance
def startD (c : CfgD) (l : List EvD) : Option SD := match runL l with
 | none => none
 | some st => if c.ok ∧ st.out.length ≤ 10 then some ⟨c, st.out, (st.out.length : Int) - pendOf st.out⟩ else none
theorem startD_some {c : CfgD} {l : List EvD} {sd : SD} (h : startD c l = some sd) : ∃ st, runL l = some st ∧ c.ok ∧ st.out.length ≤ 10 ∧ sd = ⟨c, st.out, (st.out.length : Int) - pendOf st.out⟩ := by
 unfold startD at h
 cases hl : runL l with
 | none => rw [hl] at h; cases h
 | some st =>
  rw [hl] at h
  simp only at h
  split at h
  ·
   rename_i hc
   injection h with h
   exact ⟨st, rfl, hc.1, hc.2, h.symm⟩
  ·
   cases h
theorem startD_ok {c : CfgD} {l : List EvD} {sd : SD} (h : startD c l = some sd) : sd.c = c ∧ sd.c.ok ∧ sd.calls.length ≤ 10 := by
 obtain ⟨st, _, h1, h2, rfl⟩ := startD_some h
 exact ⟨rfl, h1, h2⟩
def StartPost (w : World) (r : Option SD) (e : Ending) (w' : World) : Prop := match r with
 | none => e = .returned (.tuple #[.pointer none, .int .i64 1]) ∧ Below w.heap.size w w'
 | some sd => ∃ b, e = .returned (.tuple #[.pointer (some ⟨b, 0, none⟩), .int .i64 0]) ∧ SAt w' (fun k => w.heap.size ≤ k) b sd ∧ Below w.heap.size w w'
theorem Box5.made (W : World) (e : TypeId) (v0 v1 v2 v3 v4 : Value) : Box5 (W.alloc (.cells #[v0, v1, v2, v3, v4] e)) W.heap.size v0 v1 v2 v3 v4 := ⟨by simp [go_sem], by simp [go_sem], by simp [go_sem], by simp [go_sem], by simp [go_sem], fun o => by simp [go_sem]⟩
set_option maxRecDepth 100000 in
set_option maxHeartbeats 8000000 in
theorem start_calls (w : World) (S : Nat → Prop) (c : CfgD) (v : Value) (l : List EvD) (h : Row tEv w S v l) (hlen : l.length ≤ 1000000) (hfew : ∀ x ∈ l, x.res.few) (hok : ∀ x ∈ l, okI x.th) : Calls Tryz.prog 18 #[c.val, v] w (StartPost w (startD c l)) := by
 obtain ⟨A, cA, rfl⟩ := h.slice
 have H := Lib.hid h
 have HF := Lib.hid hfew
 have HO := Lib.hid hok
 clear h hfew hok
 unfold CfgD.val
 obtain ⟨W0, hW⟩ : ∃ W0, W0 = w.alloc (.cells #[.int .i64 c.nodes, .int .i64 c.edges, .int .i64 c.props, .int .i64 c.ids, .int .i64 c.eids] 23) := ⟨_, rfl⟩
 have hb0 : Below w.heap.size w W0 := by rw [hW]; exact (Below.refl _ w).alloc (Nat.le_refl _) _
 have B0 := Lib.hid (show Box5 W0 w.heap.size _ _ _ _ _ from by rw [hW]; exact Box5.made w 23 (.int .i64 c.nodes) (.int .i64 c.edges) (.int .i64 c.props) (.int .i64 c.ids) (.int .i64 c.eids))
 have s0 : w.heap.size < W0.heap.size := by rw [hW]; simp
 have K0 := Lib.hid hb0
 have K3W := hb0.size
 clear hb0
 go_enter Tryz.func18, Tryz.ntmps18
 go_wp2_with fail
 rw [← hW]
 clear hW
 refine (calls_calls W0 S _ l (H.out.below K0.out) hlen HF.out HO.out).mono ?_
 rintro e w1 ⟨v1, rfl, hr, hb⟩
 have K1 := Lib.hid (K0.out.trans (hb.mono K0.out.size))
 have B1' := Lib.hid (B0.out.keep (hb.block _ s0))
 have s1 := hb.size
 have HR := Lib.hid hr
 clear hr hb B0 K0
 cases hl : runL l with
 | none =>
  have HS := Lib.hid (show startD c l = none from by unfold startD; rw [hl])
  have e1 : errOf (runL l) = 1 := by rw [hl]; rfl
  rw [hl] at HR
  obtain ⟨A1, c1, rfl⟩ := HR.out.slice
  clear HR
  simp only [errOf, outOf, List.length_nil]
  go_wp2
  refine bodyPost_ret (v := .tuple #[.pointer none, .int .i64 1]) (by simp [results, Tryz.results18, go_sem]) rfl ?_
  rw [HS.out]
  exact ⟨rfl, K1.out⟩
 | some st =>
  have HL := Lib.hid hl
  rw [hl] at HR
  clear hl
  obtain ⟨n, hn⟩ : ∃ n, n = st.out.length := ⟨_, rfl⟩
  have HN := Lib.hid hn
  simp only [outOf] at HR
  obtain ⟨A1, c1, rfl⟩ := HR.out.slice
  rw [← hn] at HR
  simp only [errOf, outOf]
  rw [← hn]
  clear hn
  obtain ⟨q0, q1, q2, q3, q4, qf⟩ := B1'.out
  have l0 : w.heap.size < w1.heap.size := by omega
  go_wp2_with fail
  refine (place_calls w1 c).mono ?_
  rintro e w2 ⟨x, rfl, hx, hb⟩
  have K2 := Lib.hid (K1.out.trans (hb.mono K1.out.size))
  have B2 := Lib.hid (B1'.out.keep (hb.block _ l0))
  have HR2 := Lib.hid (HR.out.below hb)
  have s2 := hb.size
  clear hb HR B1' K1 q0 q1 q2 q3 q4 qf
  rcases hx with ⟨rfl, hc⟩ | ⟨rfl, hc⟩
  case inr =>
   have HS := Lib.hid (show startD c l = none from by unfold startD; rw [HL.out]; simp only; rw [if_neg (fun h => hc h.1)])
   clear hc
   go_wp2
   refine bodyPost_ret (v := .tuple #[.pointer none, .int .i64 1]) (by simp [results, Tryz.results18, go_sem]) rfl ?_
   rw [HS.out]
   exact ⟨rfl, K2.out⟩
  by_cases hn : (10 : Int) < (n : Int)
  case pos =>
   have HS := Lib.hid (show startD c l = none from by unfold startD; rw [HL.out]; simp only; rw [if_neg (fun h => by have := h.2; have := HN.out; omega)])
   clear hc
   go_wp2
   refine bodyPost_ret (v := .tuple #[.pointer none, .int .i64 1]) (by simp [results, Tryz.results18, go_sem]) rfl ?_
   rw [HS.out]
   exact ⟨rfl, K2.out⟩
  have HS := Lib.hid (show startD c l = some ⟨c, st.out, (n : Int) - pendOf st.out⟩ from by unfold startD; rw [HL.out]; simp only; rw [if_pos ⟨hc, by have := HN.out; omega⟩, ← HN.out])
  clear hc
  go_wp2_with fail
  refine wp_region_schedK (fun _ => True) [(0, true), (1, true), (2, true), (3, true), (4, true), (5, false), (6, true), (7, true), (8, false), (9, true), (10, true)] (by kernel_rfl) (by kernel_rfl) (fun hS => ?_)
  have HK := Lib.hid hS
  clear hS
  have KD := Lib.hid (Below.refl w2.heap.size w2).drew
  revert HK KD
  generalize w2.drew = Wd
  intro HK KD
  obtain ⟨q0, q1, q2, q3, q4, qf⟩ := B2.out
  have l2 : w.heap.size < w2.heap.size := by omega
  repeat (refine sched_take (v := ?_) (by simp only [opT, opS, opZ]; rfl) (Or.inl ⟨by rfl, fun W hW => ?_⟩) HK.out ?_; rotate_left; (have hc := fun b o hb => hW.cell b o trivial hb; clear hW; go_simp; with_reducible rfl); simp only [Act.put, putT, putZ, putS])
  refine sched_step (by simp only [opT, opS, opZ]; rfl) ?_
  go_wp2_with fail
  refine (pending_calls Wd _ _ st.out (HR2.out.below KD.out)).mono ?_
  rintro e w3 ⟨rfl, hb⟩
  have HK3 := Lib.hid (HK.out.below hb)
  have K3 := Lib.hid (K2.out.trans ((KD.out.trans (hb.mono KD.out.size)).mono K2.out.size))
  have HR3 := Lib.hid ((HR2.out.below KD.out).below hb)
  have hp : 0 ≤ pendOf st.out ∧ pendOf st.out ≤ (n : Int) := by
   have := HN.out
   unfold pendOf
   have := List.length_filter_le (fun c => decide (c.to < 0)) st.out
   omega
  obtain ⟨m, hm⟩ : ∃ m, m = pendOf st.out := ⟨_, rfl⟩
  rw [← hm] at hp ⊢
  have HM := Lib.hid hm
  obtain ⟨hp0, hp1⟩ := hp
  clear hb HK KD HR2 B2 q0 q1 q2 q3 q4 qf hm
  go_wp2_with fail
  refine sched_on HK3.out ?_
  repeat (refine sched_take (v := ?_) (by simp only [opT, opS, opZ]; rfl) (Or.inl ⟨by rfl, fun W hW => ?_⟩) HK3.out ?_; rotate_left; (clear hW; go_simp; with_reducible rfl); simp only [Act.put, putT, putZ, putS])
  refine sched_step (by simp only [opT, opS, opZ]; rfl) ?_
  go_wp2_with fail
  obtain ⟨V, hV⟩ : ∃ V, V = w3.alloc (.cells #[.int .i64 c.nodes, .int .i64 c.edges, .int .i64 c.props, .int .i64 c.ids, .int .i64 c.eids, .slice A1 n c1, .int .i64 ((n : Int) - m)] 84) := ⟨_, rfl⟩
  rw [← hV]
  have hb : Below w3.heap.size w3 V := by rw [hV]; exact (Below.refl _ w3).alloc (Nat.le_refl _) _
  have hlen2 : st.out.length = n := HN.out.symm
  have SS := Lib.hid (show SAt V (fun k => w.heap.size ≤ k) w3.heap.size ⟨c, st.out, (n : Int) - pendOf st.out⟩ from by
   refine ⟨by rw [hV]; simp, ⟨by rw [hV]; simp [go_sem], by rw [hV]; simp [go_sem], by rw [hV]; simp [go_sem], by rw [hV]; simp [go_sem], by rw [hV]; simp [go_sem], fun o => by rw [hV]; simp [go_sem]⟩, ⟨A1, c1, by rw [hV]; simp [go_sem, hlen2], ?_⟩, by rw [hV, ← HM.out]; simp [go_sem]⟩
   simp only [hlen2]
   exact (HR3.out.below hb).mono fun k hk _ => by have := K3W; (try simp only at hk ⊢); omega)
  have HK4 := Lib.hid (HK3.out.below hb)
  have K4 := Lib.hid (K3.out.trans (hb.mono K3.out.size))
  clear hb hV
  refine sched_on HK4.out ?_
  repeat (refine sched_take (v := ?_) (by simp only [opT, opS, opZ]; rfl) (Or.inl ⟨by rfl, fun W hW => ?_⟩) HK4.out ?_; rotate_left; (clear hW; go_simp; with_reducible rfl); simp only [Act.put, putT, putZ, putS])
  refine sched_done ?_
  go_wp2
  refine bodyPost_ret (v := .tuple #[.pointer (some ⟨w3.heap.size, 0, none⟩), .int .i64 0]) (by simp [results, Tryz.results18, go_sem]) rfl ?_
  rw [HS.out]
  exact ⟨_, rfl, SS.out, K4.out⟩
end Go.Proofs.YtpehmmdbjakkpaaGreat
namespace Go.Proofs.YtpehmmdbjakkpaaGreat
open Go.RowKit Go.Shelf
attribute [local go_sem] Oper.semAt_some
section
variable {w w' : World} {row : Option Nat}
def NoCells (w : World) (row : Option Nat) : Prop := ∀ r, row = some r → ∃ o : Obj, w.heap[r]? = some o ∧ o.isCells = false
theorem Row.other {α : Type} {t : Ty α} (hf : ∀ {W W' : World} {S : Nat → Prop} {x : α} {cs : List Value}, t.K W S x cs → t.K W' S x cs) {S : Nat → Prop} {v : Value} {xs : List α} (h : Row t w S v xs) (hg : w.grownBy w' row) (hr : NoCells w row) : Row t w' S v xs := by
 obtain ⟨A, c, e, h1, h2, h3, h4⟩ := h
 refine ⟨A, c, e, h1, h2, h3, ?_⟩
 rcases h4 with h4 | ⟨b, off, e, hS, hl, hx⟩
 ·
  exact .inl h4
 ·
  refine .inr ⟨b, off, e, hS, Nat.lt_of_lt_of_le hl hg.size, fun j x hj => ?_⟩
  obtain ⟨cs, hk, hc⟩ := hx j x hj
  exact ⟨cs, hf hk, fun i v hv => cell_kept (hc i v hv) hg hr⟩
theorem NVs.other {S : Nat → Prop} {nvs : List NV} {xs : List NodeD} (h : NVs w S nvs xs) (hg : w.grownBy w' row) (hr : NoCells w row) : NVs w' S nvs xs := ⟨h.len, fun j v x h1 h2 => ⟨(h.each j v x h1 h2).1, Row.other (fun h => h) (h.each j v x h1 h2).2 hg hr⟩⟩
theorem Gr.other {S : Nat → Prop} {g : GraphD} {vn ve : Value} (h : Gr w S g vn ve) (hg : w.grownBy w' row) (hr : NoCells w row) : Gr w' S g vn ve := by
 obtain ⟨⟨nvs, h1, h2⟩, h3⟩ := h
 exact ⟨⟨nvs, Row.other (fun h => h) h1 hg hr, h2.other hg hr⟩, Row.other (fun h => h) h3 hg hr⟩
theorem PathIn.other {S : Nat → Prop} {p : PathD} {v : Value} (h : PathIn w S p v) (hg : w.grownBy w' row) (hr : NoCells w row) : PathIn w' S p v := by
 obtain ⟨A, c, A1, n1, k1, A2, n2, k2, e, h1, h2⟩ := h
 exact ⟨A, c, A1, n1, k1, A2, n2, k2, e, Row.other (fun h => h) h1 hg hr, h2.other hg hr⟩
theorem Box6.other {b : Nat} {v0 v1 v2 v3 v4 v5 : Value} (h : Box6 w b v0 v1 v2 v3 v4 v5) (hg : w.grownBy w' row) (hr : NoCells w row) : Box6 w' b v0 v1 v2 v3 v4 v5 := by
 obtain ⟨o, ho, hc⟩ := cells_of_cell h.c0
 exact h.same hg.size (grownBy_keeps_cells hg hr ho hc)
theorem B1.other {b : Nat} {v : Value} (h : B1 w b v) (hg : w.grownBy w' row) (hr : NoCells w row) : B1 w' b v := ⟨Nat.lt_of_lt_of_le h.lt hg.size, cell_kept h.c hg hr⟩
end
def PathD.start : PathD := ⟨[], GraphD.new, 0⟩
theorem start_good {sd : SD} (hc : sd.c.ok) : GoodP sd PathD.start := ⟨fun k hk => by simp [PathD.start] at hk, by simp [PathD.start], Inv.new hc, by simp [PathD.start], by simp [PathD.start]⟩
def orders (sd : SD) : List PathD := pathsF sd sd.calls.length PathD.start
def firstD (r : Option SD) (good : PathD → Bool) : PathD × Int := match r with
 | none => (PathD.zero, 1)
 | some sd => match (orders sd).find? good with
  | some x => (x, 0)
  | none => (PathD.zero, 2)
def FirstPost (w : World) (r : PathD × Int) (e : Ending) (w' : World) : Prop := ∃ v, e = .returned (.tuple #[v, .int .i64 r.2]) ∧ PathIn w' (fun k => w.heap.size ≤ k) r.1 v ∧ Below w.heap.size w w'
def FirstEnd (w : World) (r : PathD × Int) (W : World) : Prop := ∃ A c A1 n1 k1 A2 n2 k2, Box6 W (w.heap.size + 1 + 1) (.slice A r.1.order.length c) (.slice A1 n1 k1) (.slice A2 n2 k2) (.int .i64 r.1.g.nn) (.int .i64 r.1.g.ne) (.int .i64 r.1.many) ∧ B1 W (w.heap.size + 1 + 1 + 1) (.int .i64 r.2) ∧ PathIn W (fun k => w.heap.size ≤ k) r.1 (.agg #[.slice A r.1.order.length c, .slice A1 n1 k1, .slice A2 n2 k2, .int .i64 r.1.g.nn, .int .i64 r.1.g.ne, .int .i64 r.1.many]) ∧ Below w.heap.size w W
theorem firstEnd_own (w : World) (r : PathD × Int) (B : Nat) (hB : w.heap.size ≤ B) : OwnFrom B (fun (_ : Unit) W => FirstEnd w r W) := by
 rintro _ W W' row ⟨A, c, A1, n1, k1, A2, n2, k2, h1, h2, h3, h4⟩ hg hr
 have hn : NoCells W row := fun r e => (hr r e).2
 exact ⟨A, c, A1, n1, k1, A2, n2, k2, h1.other hg hn, h2.other hg hn, h3.other hg hn, h4.grown hg h4.size fun k e => Nat.le_trans hB (hr k e).1⟩
theorem SAt.all {W : World} {S : Nat → Prop} {b : Nat} {sd : SD} (h : SAt W S b sd) : SAt W (fun _ => True) b sd := by
 obtain ⟨A, cc, h1, h2⟩ := h.row
 exact ⟨h.lt, h.cf, ⟨A, cc, h1, h2.mono fun _ _ _ => trivial⟩, h.need⟩
theorem find_stop {α : Type} {p : α → Bool} {pre rest : List α} {x : α} (h : ∀ y ∈ pre, p y = false) (hx : p x = true) : (pre ++ x :: rest).find? p = some x := by
 rw [List.find?_append, List.find?_eq_none.2 (fun y hy => by rw [h y hy]; simp), List.find?_cons_of_pos hx]
 rfl
structure BE (W : World) (b : Nat) (v : Value) : Prop where
 lt : b < W.heap.size
 c : W.cell? ⟨b, 0, none⟩ = some v
 fz : W.frozen? ⟨b, 0, none⟩ = false
theorem BE.below {W W' : World} {b : Nat} {v : Value} (h : BE W b v) (hb : Below W.heap.size W W') : BE W' b v := ⟨Nat.lt_of_lt_of_le h.lt hb.size, (World.cell?_of_block (hb.block b h.lt)).trans h.c, (World.frozen?_of_block (hb.block b h.lt)).trans h.fz⟩
theorem FirstEnd.made {w W : World} {x : PathD} {n : Int} {u0 u1 u2 u3 u4 u5 u : Value} {A : Option Addr} {c : Nat} {A1 : Option Addr} {n1 k1 : Nat} {A2 : Option Addr} {n2 k2 : Nat} (h6 : Box6 W (w.heap.size + 1 + 1) u0 u1 u2 u3 u4 u5) (h7 : BE W (w.heap.size + 1 + 1 + 1) u) (hr : Row tInt W (fun k => w.heap.size ≤ k ∧ k ≠ w.heap.size + 1 + 1 ∧ k ≠ w.heap.size + 1 + 1 + 1) (.slice A x.order.length c) x.order) (hg : Gr W (fun k => w.heap.size ≤ k ∧ k ≠ w.heap.size + 1 + 1 ∧ k ≠ w.heap.size + 1 + 1 + 1) x.g (.slice A1 n1 k1) (.slice A2 n2 k2)) (hb : Below w.heap.size w W) :
  FirstEnd w (x, n) ((set6 W (w.heap.size + 1 + 1) (.slice A x.order.length c) (.slice A1 n1 k1) (.slice A2 n2 k2) (.int .i64 x.g.nn) (.int .i64 x.g.ne) (.int .i64 x.many)).setCell ⟨w.heap.size + 1 + 1 + 1, 0, none⟩ (.int .i64 n)) := by
 have l7 := h7.lt
 have hs : ∀ j, (w.heap.size ≤ j ∧ j ≠ w.heap.size + 1 + 1 ∧ j ≠ w.heap.size + 1 + 1 + 1) → j < W.heap.size → ((set6 W (w.heap.size + 1 + 1) (.slice A x.order.length c) (.slice A1 n1 k1) (.slice A2 n2 k2) (.int .i64 x.g.nn) (.int .i64 x.g.ne) (.int .i64 x.many)).setCell ⟨w.heap.size + 1 + 1 + 1, 0, none⟩ (.int .i64 n)).heap[j]? = W.heap[j]? := fun j hj _ => (Below.heap_setCell _ ⟨w.heap.size + 1 + 1 + 1, 0, none⟩ _ j hj.2.2).trans (set6_heap _ _ _ _ _ _ _ _ j hj.2.1)
 have hr2 := (hr.move hs).mono (S' := fun k => w.heap.size ≤ k) fun k hk _ => hk.1
 have hg2 := (hg.move hs).mono (S' := fun k => w.heap.size ≤ k) fun k hk _ => hk.1
 have hb2 := (set6_below hb (by omega : w.heap.size ≤ w.heap.size + 1 + 1) (.slice A x.order.length c) (.slice A1 n1 k1) (.slice A2 n2 k2) (.int .i64 x.g.nn) (.int .i64 x.g.ne) (.int .i64 x.many)).setCell (p := ⟨w.heap.size + 1 + 1 + 1, 0, none⟩) (by simp; omega) (.int .i64 n)
 refine ⟨A, c, A1, n1, k1, A2, n2, k2, (h6.set _ _ _ _ _ _).same (by simp [World.setCell]) (Below.heap_setCell _ ⟨w.heap.size + 1 + 1 + 1, 0, none⟩ _ _ (by simp)), ⟨by simp [World.setCell, set6]; omega, World.cell?_setCell_same _ _ _ ((World.cell?_of_block (set6_heap _ _ _ _ _ _ _ _ _ (by simp))).trans h7.c)⟩, ⟨A, c, A1, n1, k1, A2, n2, k2, rfl, hr2, hg2⟩, hb2⟩
set_option maxRecDepth 100000 in
set_option maxHeartbeats 16000000 in
theorem first_calls (w : World) (S : Nat → Prop) (c : CfgD) (v : Value) (l : List EvD) (gid : Nat) (fr : Array Value) (good : PathD → Bool) (eg : ∀ (args : Array Value) (w : World), (callFunc gid args).run Tryz.prog w = .ok (.enter gid args) w)
  (hgood : ∀ (W : World) (x : PathD) (u : Value), Below w.heap.size w W → PathIn W (fun _ => True) x u → Calls Tryz.prog gid (#[u] ++ fr) W fun e W' => e = .returned (.bool (good x)) ∧ Below W.heap.size W W')
  (h : Row tEv w S v l) (hlen : l.length ≤ 1000000) (hfew : ∀ x ∈ l, x.res.few) (hok : ∀ x ∈ l, okI x.th) : Calls Tryz.prog 27 #[c.val, v, .func (.func gid) #[] fr] w (FirstPost w (firstD (startD c l) good)) := by
 obtain ⟨A, cA, rfl⟩ := h.slice
 have H := Lib.hid h
 clear h
 have FIN : ∀ (r : PathD × Int) (tm : Array Value) (ds : List Nat) (W : World), r = firstD (startD c l) good → tm[6]? = some (.pointer (some ⟨w.heap.size + 1 + 1, 0, none⟩)) → tm[7]? = some (.pointer (some ⟨w.heap.size + 1 + 1 + 1, 0, none⟩)) → ds.Nodup → (∀ D ∈ ds, w.heap.size ≤ D ∧ W.heap[D]? = some (.deferred (some []))) → FirstEnd w r W → LeavesInM Fence.wide 0 Tryz.prog Tryz.f27 tm (FirstPost w (firstD (startD c l) good)) (ds.map markOf) .returning W := by
  rintro r tm ds W rfl h6 h7 hn hd hE
  refine leaves_marks (B := w.heap.size) (J := fun _ W => FirstEnd w (firstD (startD c l) good) W) (firstEnd_own w _ _ (Nat.le_refl _)) (fun W h => ?_) ds W hn hd hE
  obtain ⟨A, c', A1, n1, k1, A2, n2, k2, h1, h2, h3, h4⟩ := h
  obtain ⟨q0, q1, q2, q3, q4, q5⟩ : _ ∧ _ ∧ _ ∧ _ ∧ _ ∧ _ := ⟨h1.c0, h1.c1, h1.c2, h1.c3, h1.c4, h1.c5⟩
  have q6 := h2.c
  refine ⟨.tuple #[.agg #[.slice A (firstD (startD c l) good).1.order.length c', .slice A1 n1 k1, .slice A2 n2 k2, .int .i64 (firstD (startD c l) good).1.g.nn, .int .i64 (firstD (startD c l) good).1.g.ne, .int .i64 (firstD (startD c l) good).1.many], .int .i64 (firstD (startD c l) good).2], ?_, ⟨_, rfl, h3, h4⟩⟩
  simp [results, Tryz.results27, go_sem, h6, h7, q0, q1, q2, q3, q4, q5, q6]
 have HFIN := Lib.hid FIN
 clear FIN
 have HGD := Lib.hid hgood
 have HFW := Lib.hid hfew
 have HOK := Lib.hid hok
 clear hgood hfew hok
 unfold CfgD.val
 refine (callsIn_wide (n := 0)).1 (callsIn_of_wp_marks Tryz.func27 rfl trivial ((wpIn_wide (n := 0)).2 ?_) rfl)
 simp only [Tryz.ntmps27, List.size_toArray, List.length_cons, List.length_nil, Nat.reduceAdd, Nat.reduceSub, Array.replicate_succ, Array.replicate_zero, List.push_toArray, List.append_toArray, List.nil_append, List.cons_append]
 obtain ⟨W0, hW⟩ : ∃ W0, W0 = (((w.alloc (.cells #[.int .i64 c.nodes, .int .i64 c.edges, .int .i64 c.props, .int .i64 c.ids, .int .i64 c.eids] 23)).alloc (.cells #[.func (.func gid) #[] fr] 62)).alloc (.cells #[.slice none 0 0, .slice none 0 0, .slice none 0 0, .int .i64 0, .int .i64 0, .int .i64 0] 59)).alloc (.cells #[.int .i64 0] 32) := ⟨_, rfl⟩
 have hb0 : Below w.heap.size w W0 := by rw [hW]; exact (by repeat (first | exact Below.refl _ _ | refine Below.alloc ?_ (by simp; try omega) _))
 have s0 : w.heap.size + 1 + 1 + 1 < W0.heap.size := by rw [hW]; simp
 have F0 := Lib.hid (show B1 W0 (w.heap.size + 1) (.func (.func gid) #[] fr) from ⟨by omega, by rw [hW]; simp [go_sem]⟩)
 have Q0 := Lib.hid (show Box6 W0 (w.heap.size + 1 + 1) (.slice none 0 0) (.slice none 0 0) (.slice none 0 0) (.int .i64 0) (.int .i64 0) (.int .i64 0) from by
  refine Box6.of (n := 59) ?_
  rw [hW]
  have := heap_alloc_new ((w.alloc (.cells #[.int .i64 c.nodes, .int .i64 c.edges, .int .i64 c.props, .int .i64 c.ids, .int .i64 c.eids] 23)).alloc (.cells #[.func (.func gid) #[] fr] 62)) (.cells #[.slice none 0 0, .slice none 0 0, .slice none 0 0, .int .i64 0, .int .i64 0, .int .i64 0] 59)
  rw [World.size_alloc, World.size_alloc] at this
  exact (Below.heap_alloc _ _ _ (by simp)).trans this)
 have E0 := Lib.hid (show BE W0 (w.heap.size + 1 + 1 + 1) (.int .i64 0) from ⟨by omega, by rw [hW]; simp [go_sem], by rw [hW]; simp [go_sem]⟩)
 have K0 := Lib.hid hb0
 clear hb0
 go_wp2_with fail
 rw [← hW]
 clear hW
 refine (start_calls W0 S c _ l (H.out.below K0.out) hlen HFW.out HOK.out).mono ?_
 rintro e w1 hp
 unfold StartPost at hp
 cases hst : startD c l with
 | none =>
  rw [hst] at hp
  obtain ⟨rfl, hb⟩ := hp
  have HS := Lib.hid hst
  have Q1 := Lib.hid (Q0.out.below hb)
  have E1 := Lib.hid (E0.out.below hb)
  have K1 := Lib.hid (K0.out.trans (hb.mono K0.out.size))
  clear hb hst
  obtain ⟨q0, q1, q2, q3, q4, q5⟩ : _ ∧ _ ∧ _ ∧ _ ∧ _ ∧ _ := ⟨Q1.out.c0, Q1.out.c1, Q1.out.c2, Q1.out.c3, Q1.out.c4, Q1.out.c5⟩
  have qf := Q1.out.fz
  have ql := Q1.out.lt
  have x0 := E1.out.c
  have xf := E1.out.fz
  have xl := E1.out.lt
  go_wp2
  exact HFIN.out (PathD.zero, 1) _ [] _ (by rw [HS.out]; rfl) rfl rfl List.nodup_nil (by simp) (FirstEnd.made Q1.out E1.out (Row.nil _ _ _) (Gr.zero _ _ _ _) K1.out)
 | some sd =>
  rw [hst] at hp
  obtain ⟨bS, rfl, hSA, hb⟩ := hp
  have HS := Lib.hid hst
  obtain ⟨hc1, hc2, hc3⟩ := startD_ok hst
  have HC := Lib.hid hc2
  have HSA := Lib.hid hSA
  have Q1 := Lib.hid (Q0.out.below hb)
  have E1 := Lib.hid (E0.out.below hb)
  have F1 := Lib.hid (F0.out.below hb)
  have K1 := Lib.hid (K0.out.trans (hb.mono K0.out.size))
  have s1 := hb.size
  clear hb hst hSA hc1 hc2 Q0 E0 F0
  go_wp2_with fail
  refine (new_calls w1).mono ?_
  rintro e w2 ⟨rfl, hb⟩
  have HSA2 := Lib.hid (HSA.out.below hb)
  have Q2 := Lib.hid (Q1.out.below hb)
  have E2 := Lib.hid (E1.out.below hb)
  have F2 := Lib.hid (F1.out.below hb)
  have K2 := Lib.hid (K1.out.trans (hb.mono K1.out.size))
  have s2 := hb.size
  clear hb HSA Q1 E1 F1 K1
  go_wp2_with fail
  refine (paths_calls w2 bS none 0 0 none 0 0 none 0 0 1 1 0).mono ?_
  rintro e w3 ⟨rfl, hw3⟩
  have hb3 : Below w2.heap.size w2 w3 := by rw [hw3]; exact (by repeat (first | exact Below.refl _ _ | refine Below.alloc ?_ (by simp; try omega) _))
  have P1 : B1 w3 w2.heap.size (.pointer (some ⟨bS, 0, none⟩)) := ⟨by rw [hw3]; simp; omega, by rw [hw3]; simp [go_sem]⟩
  have P2 : Box6 w3 (w2.heap.size + 1) (.slice none 0 0) (.slice none 0 0) (.slice none 0 0) (.int .i64 1) (.int .i64 1) (.int .i64 0) := by
   rw [hw3]
   have := Box6.made (w2.alloc (.cells #[.pointer (some ⟨bS, 0, none⟩)] 54)) 59 (.slice none 0 0) (.slice none 0 0) (.slice none 0 0) (.int .i64 1) (.int .i64 1) (.int .i64 0)
   rw [World.size_alloc] at this
   exact this
  have l3 : w.heap.size + 1 + 1 + 1 < w3.heap.size := by have := hb3.size; omega
  obtain ⟨C', hC'⟩ : ∃ C' : Nat → Prop, C' = fun k => (w.heap.size ≤ k ∧ k ≠ w.heap.size + 1 + 1 ∧ k ≠ w.heap.size + 1 + 1 + 1) ∧ k ≠ w3.heap.size + 1 := ⟨_, rfl⟩
  have HSEQ := Lib.hid (show ∀ w4, Below w3.heap.size w3 w4 → w4.heap.size = w3.heap.size + 2 → PathsC w4 sd (orders sd) C' w2.heap.size (w2.heap.size + 1) from fun w4 h4 h5 => paths1_calls HC.out hc3 sd.calls.length PathD.start w4 C' bS _ _ none 0 none 0 0 none 0 0 ⟨((HSA2.out.below hb3).below h4).all, P1.below h4, P2.below h4, Row.nil _ _ _, Gr.zero _ _ _ _, fun k hk => by rw [hC']; exact ⟨⟨by omega, by omega, by omega⟩, by omega⟩, start_good HC.out⟩ (by simp))
  have HCC := Lib.hid hC'
  have Q3 := Lib.hid (Q2.out.below hb3)
  have E3 := Lib.hid (E2.out.below hb3)
  have F3 := Lib.hid (F2.out.below hb3)
  have K3 := Lib.hid (K2.out.trans (hb3.mono K2.out.size))
  have s3 := hb3.size
  clear hb3 P1 P2 hw3 hC' HSA2 Q2 E2 F2 K2
  go_wp2_with fail
  refine range_wp (V := fun x v W => PathIn W C' x v) (L := orders sd) (gf := 77) (lb := #[.pointer (some ⟨w2.heap.size, 0, none⟩), .pointer (some ⟨w2.heap.size + 1, 0, none⟩)]) rfl rfl (enters_of Tryz.func77 (by kernel_rfl) rfl) (fun w4 h4 h5 => HSEQ.out w4 h4 h5)
   (fun pre W' => (∀ y ∈ pre, good y = false) ∧ Below w3.heap.size w3 W') (fun xs W' => ∃ pre x, xs = pre ++ [x] ∧ (∀ y ∈ pre, good y = false) ∧ good x = true ∧ FirstEnd w (x, 0) W')
   ?hI ?hIx ?h0 ?hround ?hdone ?hstop
  case hI => exact OwnFrom.and (ownFrom_pure _ _) (ownFrom_below (Nat.le_refl _) (Nat.le_refl _))
  case hIx =>
   rintro s X Y row ⟨pre, x, e, h1, h2, h3⟩ hg hr
   exact ⟨pre, x, e, h1, h2, firstEnd_own w _ w3.heap.size (by omega) () X Y row h3 hg hr⟩
  case h0 => exact ⟨by simp, Below.refl _ _⟩
  case hdone =>
   rintro W4 ⟨hg, hb4⟩ hD
   have Q4 := Q3.out.below hb4
   have E4 := E3.out.below hb4
   have hs4 := hb4.size
   obtain ⟨q0, q1, q2, q3, q4, q5⟩ : _ ∧ _ ∧ _ ∧ _ ∧ _ ∧ _ := ⟨Q4.c0, Q4.c1, Q4.c2, Q4.c3, Q4.c4, Q4.c5⟩
   have qf := Q4.fz
   have ql := Q4.lt
   have x0 := E4.c
   have xf := E4.fz
   have xl := E4.lt
   have HG := Lib.hid hg
   have HD := Lib.hid hD
   have HQ4 := Lib.hid Q4
   have HE4 := Lib.hid E4
   have K4 := Lib.hid (K3.out.trans (hb4.mono K3.out.size))
   clear hg hD hb4 Q4 E4
   go_wp2
   refine HFIN.out (PathD.zero, 2) _ [w3.heap.size] _ (by rw [HS.out]; unfold firstD; simp only; rw [List.find?_eq_none.2 (fun y hy => by rw [HG.out y hy]; simp)]) rfl rfl (by simp) (fun D hD => ?_) (FirstEnd.made HQ4.out HE4.out (Row.nil _ _ _) (Gr.zero _ _ _ _) K4.out)
   rw [List.mem_singleton] at hD
   subst hD
   exact ⟨by omega, ((Below.heap_setCell _ ⟨w.heap.size + 1 + 1 + 1, 0, none⟩ _ _ (by simp; omega)).trans (set6_heap _ _ _ _ _ _ _ _ _ (by omega))).trans HD.out⟩
  case hstop =>
   rintro pre x rest W4 hL ⟨pre', x', e, hg, hgx, hE⟩ hD
   obtain ⟨rfl, rfl⟩ : pre = pre' ∧ x = x' := by
    have := List.append_inj' e rfl
    exact ⟨this.1, by simpa using this.2⟩
   refine HFIN.out (x, 0) _ [w3.heap.size] _ (by rw [HS.out]; unfold firstD; simp only; rw [hL, find_stop hg hgx]) rfl rfl (by simp) (fun D hD' => ?_) hE
   rw [List.mem_singleton] at hD'
   subst hD'
   exact ⟨by omega, hD⟩
  case hround =>
   rintro pre x rest v V0 hL ⟨hg, hb4⟩ hv hsz
   obtain ⟨A6, c6, A7, n7, k7, A8, n8, k8, rfl, ro6, gr6⟩ := hv
   have R6 := Lib.hid ro6
   have G6 := Lib.hid gr6
   have HG := Lib.hid hg
   clear hL hg hb4 ro6 gr6
   gi_wp2
   refine ⟨(Below.refl _ V0).alloc (Nat.le_refl _) _, ?_⟩
   intro V1 hz hk hI1
   have hz1 : V1.heap.size = V0.heap.size + 1 := by rw [hz]; simp
   have B6 : Box6 V1 V0.heap.size (.slice A6 x.order.length c6) (.slice A7 n7 k7) (.slice A8 n8 k8) (.int .i64 x.g.nn) (.int .i64 x.g.ne) (.int .i64 x.many) := (Box6.made V0 59 _ _ _ _ _ _).same (Nat.le_of_eq hz.symm) (hk _ (by omega))
   have hV1 : ∀ k, C' k → k < V0.heap.size → V1.heap[k]? = V0.heap[k]? := fun k h1 h2 => (hk k (by rw [HCC.out] at h1; exact h1.2)).trans (Below.heap_alloc _ _ _ h2)
   have R7 := Lib.hid ((R6.out.move hV1).mono (S' := fun k => w.heap.size ≤ k ∧ k ≠ w.heap.size + 1 + 1 ∧ k ≠ w.heap.size + 1 + 1 + 1) fun k h1 _ => by rw [HCC.out] at h1; exact h1.1)
   have G7 := Lib.hid ((G6.out.move hV1).mono (S' := fun k => w.heap.size ≤ k ∧ k ≠ w.heap.size + 1 + 1 ∧ k ≠ w.heap.size + 1 + 1 + 1) fun k h1 _ => by rw [HCC.out] at h1; exact h1.1)
   have F4 := F3.out.below hI1.2
   have P6 := Lib.hid B6
   have e3 := F4.c
   have l4 := F4.lt
   have l6 := B6.lt
   obtain ⟨q0, q1, q2, q3, q4, q5⟩ : _ ∧ _ ∧ _ ∧ _ ∧ _ ∧ _ := ⟨B6.c0, B6.c1, B6.c2, B6.c3, B6.c4, B6.c5⟩
   have K4 := Lib.hid (K3.out.trans (hI1.2.mono K3.out.size))
   have HB4 := Lib.hid hI1.2
   clear R6 G6 hV1 F4 B6 hk hI1 hz
   gi_wp2_with fail
   refine ⟨trivial, rfl, (CallsIn.inRound _ (callsIn_wide.2 (HGD.out V1 x _ K4.out ⟨_, _, _, _, _, _, _, _, rfl, R7.out.mono fun _ _ _ => trivial, G7.out.mono fun _ _ _ => trivial⟩))).mono ?_⟩
   rintro e V2 ⟨rfl, hb⟩
   have R8 := Lib.hid (R7.out.below hb)
   have G8 := Lib.hid (G7.out.below hb)
   have Q8 := Lib.hid ((Q3.out.below HB4.out).below hb)
   have E8 := Lib.hid ((E3.out.below HB4.out).below hb)
   have K8 := Lib.hid (K4.out.trans (hb.mono K4.out.size))
   have HB8 := Lib.hid hb
   have z4 := HB4.out.size
   have z8 := hb.size
   clear hb R7 G7 Q3 E3 K4 e3 l4 l6 q0 q1 q2 q3 q4 q5
   cases hgx : good x with
   | false =>
    have HGX := Lib.hid hgx
    clear hgx
    gi_wp2
    exact ⟨⟨fun y hy => by
     rcases List.mem_append.1 hy with hy | hy
     ·
      exact HG.out y hy
     ·
      rw [List.mem_singleton] at hy; subst hy; exact HGX.out, HB4.out.trans (HB8.out.mono HB4.out.size)⟩, HB8.out⟩
   | true =>
    have HGX := Lib.hid hgx
    clear hgx
    obtain ⟨q0, q1, q2, q3, q4, q5⟩ : _ ∧ _ ∧ _ ∧ _ ∧ _ ∧ _ := ⟨Q8.out.c0, Q8.out.c1, Q8.out.c2, Q8.out.c3, Q8.out.c4, Q8.out.c5⟩
    have qf := Q8.out.fz
    have ql := Q8.out.lt
    have x0 := E8.out.c
    have xf := E8.out.fz
    have xl := E8.out.lt
    have P8 := P6.out.below HB8.out
    have l6 := P8.lt
    obtain ⟨r0, r1, r2, r3, r4, r5⟩ : _ ∧ _ ∧ _ ∧ _ ∧ _ ∧ _ := ⟨P8.c0, P8.c1, P8.c2, P8.c3, P8.c4, P8.c5⟩
    clear P8
    gi_wp2
    refine ⟨⟨pre, x, rfl, HG.out, HGX.out, FirstEnd.made Q8.out E8.out R8.out G8.out K8.out⟩, ?_, fun k h1 h2 => ?_⟩
    ·
     simp [World.setCell]; omega
    ·
     exact ((Below.heap_setCell _ ⟨w.heap.size + 1 + 1 + 1, 0, none⟩ _ _ (by simp; omega)).trans (set6_heap _ _ _ _ _ _ _ _ _ (by omega))).trans (HB8.out.block k h2)
end Go.Proofs.YtpehmmdbjakkpaaGreat
namespace Go.Proofs.YtpehmmdbjakkpaaGreat
open Go.RowKit Go.Shelf
theorem search1_calls (w : World) (A : Option Addr) (n0 c0 : Nat) (A1 : Option Addr) (n1 k1 : Nat) (A2 : Option Addr) (n2 k2 : Nat) (gn ge many : Int) : Calls Tryz.prog 28 (#[.agg #[.slice A n0 c0, .slice A1 n1 k1, .slice A2 n2 k2, .int .i64 gn, .int .i64 ge, .int .i64 many]] ++ #[]) w fun e w' => e = .returned (.bool true) ∧ Below w.heap.size w w' := by
 go_enter Tryz.func28, Tryz.ntmps28
 go_wp2
 go_ret
 exact ⟨rfl, (by repeat (first | exact Below.refl _ _ | refine Below.alloc ?_ (by simp; try omega) _))⟩
def SearchPost (w : World) (r : PathD × Int) (e : Ending) (w' : World) : Prop := ∃ vo vn ve, e = .returned (.tuple #[vo, .agg #[vn, ve, .int .i64 r.1.g.nn, .int .i64 r.1.g.ne], .int .i64 r.2]) ∧ Row tInt w' (fun k => w.heap.size ≤ k) vo r.1.order ∧ Gr w' (fun k => w.heap.size ≤ k) r.1.g vn ve ∧ Below w.heap.size w w'
set_option maxRecDepth 100000 in
set_option maxHeartbeats 8000000 in
theorem search_calls (w : World) (S : Nat → Prop) (c : CfgD) (v : Value) (l : List EvD) (h : Row tEv w S v l) (hlen : l.length ≤ 1000000) (hfew : ∀ x ∈ l, x.res.few) (hok : ∀ x ∈ l, okI x.th) : Calls Tryz.prog 12 #[c.val, v] w (SearchPost w (firstD (startD c l) fun _ => true)) := by
 obtain ⟨A, cA, rfl⟩ := h.slice
 obtain ⟨r, hr⟩ : ∃ r, r = firstD (startD c l) fun _ => true := ⟨_, rfl⟩
 rw [← hr]
 have HR := Lib.hid hr
 have H := Lib.hid h
 clear h hr
 unfold CfgD.val
 obtain ⟨W0, hW⟩ : ∃ W0, W0 = (w.alloc (.cells #[.int .i64 c.nodes, .int .i64 c.edges, .int .i64 c.props, .int .i64 c.ids, .int .i64 c.eids] 23)).alloc (.cells #[.slice none 0 0, .slice none 0 0, .int .i64 0, .int .i64 0] 31) := ⟨_, rfl⟩
 have hb0 : Below w.heap.size w W0 := by rw [hW]; exact (by repeat (first | exact Below.refl _ _ | refine Below.alloc ?_ (by simp; try omega) _))
 have s0 : w.heap.size + 1 < W0.heap.size := by rw [hW]; simp
 have B0 := Lib.hid (show Box4 W0 (w.heap.size + 1) (.slice none 0 0) (.slice none 0 0) (.int .i64 0) (.int .i64 0) from by
  rw [hW]
  have := Box4.made (w.alloc (.cells #[.int .i64 c.nodes, .int .i64 c.edges, .int .i64 c.props, .int .i64 c.ids, .int .i64 c.eids] 23)) 31 (.slice none 0 0) (.slice none 0 0) (.int .i64 0) (.int .i64 0)
  rw [World.size_alloc] at this
  exact this)
 have K0 := Lib.hid hb0
 clear hb0
 go_enter Tryz.func12, Tryz.ntmps12
 go_wp2_with fail
 rw [← hW]
 clear hW
 refine (first_calls W0 S c _ l 28 #[] (fun _ => true) (enters_of Tryz.func28 (by kernel_rfl) rfl) (fun W x u _ hp => ?_) (H.out.below K0.out) hlen hfew hok).mono ?_
 ·
  obtain ⟨A, c, A1, n1, k1, A2, n2, k2, rfl, _, _⟩ := hp
  exact search1_calls W _ _ _ _ _ _ _ _ _ _ _ _
 rintro e w1 hp
 rw [← HR.out] at hp
 obtain ⟨u, rfl, ⟨A', c', A1, n1, k1, A2, n2, k2, rfl, hro, hgr⟩, hb⟩ := hp
 obtain ⟨V, hV⟩ : ∃ V, V = w1.alloc (.cells #[.slice A' r.1.order.length c', .slice A1 n1 k1, .slice A2 n2 k2, .int .i64 r.1.g.nn, .int .i64 r.1.g.ne, .int .i64 r.1.many] 59) := ⟨_, rfl⟩
 have hbV : Below w1.heap.size w1 V := by rw [hV]; exact (Below.refl _ w1).alloc (Nat.le_refl _) _
 have P1 := Lib.hid (show Box6 V w1.heap.size _ _ _ _ _ _ from by rw [hV]; exact Box6.made w1 59 (.slice A' r.1.order.length c') (.slice A1 n1 k1) (.slice A2 n2 k2) (.int .i64 r.1.g.nn) (.int .i64 r.1.g.ne) (.int .i64 r.1.many))
 have B1' := Lib.hid ((B0.out.keep (hb.block _ (by omega))).keep (hbV.block _ (by have := hb.size; omega)))
 have R1 := Lib.hid (hro.below hbV)
 have G1 := Lib.hid (hgr.below hbV)
 have K1 := Lib.hid (K0.out.trans ((hb.trans (hbV.mono hb.size)).mono K0.out.size))
 have s1 := hb.size
 have s2 := hbV.size
 have sK := K0.out.size
 clear hb hbV hro hgr B0 K0
 go_wp2_with fail
 rw [← hV]
 clear hV
 refine wp_region_schedK (fun k => k ≠ w.heap.size + 1) [(0, true), (1, true), (2, true), (3, true), (4, true), (5, true), (6, false), (7, true)] (by kernel_rfl) (by kernel_rfl) (fun hS => ?_)
 have HK := Lib.hid hS
 clear hS
 have KD := Lib.hid (Below.refl V.heap.size V).drew
 revert HK KD
 generalize V.drew = Vd
 intro HK KD
 have l1 := P1.out.lt
 obtain ⟨p0, p1, p2, p3, p4, p5⟩ : _ ∧ _ ∧ _ ∧ _ ∧ _ ∧ _ := ⟨P1.out.c0, P1.out.c1, P1.out.c2, P1.out.c3, P1.out.c4, P1.out.c5⟩
 have n1' : ¬ w1.heap.size = w.heap.size + 1 := by omega
 repeat (refine sched_take (v := ?_) (by simp only [opT, opS, opZ]; rfl) (Or.inl ⟨by rfl, fun W hW => ?_⟩) HK.out ?_; rotate_left; (have hc := fun b o hn hb => hW.cell b o hn hb; clear hW; go_simp; with_reducible rfl); simp only [Act.put, putT, putZ, putS])
 refine sched_step (by simp only [opT, opS, opZ]; rfl) ?_
 have B2 := B1'.out.keep (KD.out.block _ (by omega))
 have lb : w.heap.size + 1 < Vd.heap.size := by have := KD.out.size; omega
 obtain ⟨b0, b1, b2, b3, bf⟩ := B2
 go_wp2_with fail
 have HK2 := Lib.hid (show Kept V (fun k => k ≠ w.heap.size + 1) (set4 Vd (w.heap.size + 1) (.slice A1 n1 k1) (.slice A2 n2 k2) (.int .i64 r.1.g.nn) (.int .i64 r.1.g.ne)) from by unfold set4; exact (by repeat (first | (with_reducible exact HK.out) | (with_reducible refine Kept.setCell ?_ (.inr (fun h => absurd rfl h)) _))))
 unfold set4 at HK2
 refine sched_on HK2.out ?_
 repeat (refine sched_take (v := ?_) (by simp only [opT, opS, opZ]; rfl) (Or.inl ⟨by rfl, fun W hW => ?_⟩) HK2.out ?_; rotate_left; (clear hW; go_simp; with_reducible rfl); simp only [Act.put, putT, putZ, putS])
 refine sched_done ?_
 go_wp2
 refine bodyPost_ret (v := .tuple #[.slice A' r.1.order.length c', .agg #[.slice A1 n1 k1, .slice A2 n2 k2, .int .i64 r.1.g.nn, .int .i64 r.1.g.ne], .int .i64 r.2]) (by simp [results, Tryz.results12, go_sem, b0, b1, b2, b3]; try rfl) rfl ?_
 have hs4 : ∀ j, j ≠ w.heap.size + 1 → (set4 Vd (w.heap.size + 1) (.slice A1 n1 k1) (.slice A2 n2 k2) (.int .i64 r.1.g.nn) (.int .i64 r.1.g.ne)).heap[j]? = Vd.heap[j]? := fun j hj => set4_heap _ _ _ _ _ _ _ hj
 exact ⟨_, _, _, rfl, ((R1.out.below KD.out).move fun j hj _ => hs4 j (by (try simp only at hj); omega)).mono fun j hj _ => by (try simp only at hj ⊢); omega, ((G1.out.below KD.out).move fun j hj _ => hs4 j (by (try simp only at hj); omega)).mono fun j hj _ => by (try simp only at hj ⊢); omega, set4_below (K1.out.trans (KD.out.mono K1.out.size)) (by omega) _ _ _ _⟩
open Classical in
noncomputable def reachB (g : GraphD) (x : PathD) : Bool := decide (x.g = g)
theorem reachB_iff {g : GraphD} {x : PathD} {b : Bool} (h : b = true ↔ x.g = g) : b = reachB g x := by
 unfold reachB
 exact Bool.eq_iff_iff.2 (by rw [h]; simp)
set_option maxRecDepth 100000 in
set_option maxHeartbeats 8000000 in
theorem reach1_calls (w : World) (S : Nat → Prop) (x : PathD) (u : Value) (b : Nat) (g : GraphD) (vn ve : Value) (hx : PathIn w (fun _ => True) x u) (hb : Box4 w b vn ve (.int .i64 g.nn) (.int .i64 g.ne)) (hl : b < w.heap.size) (hg : Gr w S g vn ve) : Calls Tryz.prog 30 (#[u] ++ #[.pointer (some ⟨b, 0, none⟩)]) w fun e w' => e = .returned (.bool (reachB g x)) ∧ Below w.heap.size w w' := by
 obtain ⟨A, c, A1, n1, k1, A2, n2, k2, rfl, _, hgr⟩ := hx
 obtain ⟨⟨A3, c3, rfl⟩, ⟨A4, c4, rfl⟩⟩ := hg.slices
 obtain ⟨W0, hW⟩ : ∃ W0, W0 = w.alloc (.cells #[.slice A x.order.length c, .slice A1 n1 k1, .slice A2 n2 k2, .int .i64 x.g.nn, .int .i64 x.g.ne, .int .i64 x.many] 59) := ⟨_, rfl⟩
 have hb0 : Below w.heap.size w W0 := by rw [hW]; exact (Below.refl _ w).alloc (Nat.le_refl _) _
 have P0 := Lib.hid (show Box6 W0 w.heap.size _ _ _ _ _ _ from by rw [hW]; exact Box6.made w 59 (.slice A x.order.length c) (.slice A1 n1 k1) (.slice A2 n2 k2) (.int .i64 x.g.nn) (.int .i64 x.g.ne) (.int .i64 x.many))
 have B0 := Lib.hid (hb.keep (hb0.block _ hl))
 have G0 := Lib.hid (hgr.below hb0)
 have G1 := Lib.hid (hg.below hb0)
 have K0 := Lib.hid hb0
 have s0 := hb0.size
 obtain ⟨b0, b1, b2, b3, bf⟩ := hb
 clear hg hgr hb0
 go_enter Tryz.func30, Tryz.ntmps30
 go_wp2_with fail
 rw [← hW]
 clear hW
 refine (same_calls W0 (fun _ => True) x.g g _ _ _ _ (G0.out.mono fun _ _ _ => trivial) (G1.out.mono fun _ _ _ => trivial)).mono ?_
 rintro e w1 ⟨bb, rfl, hbb, hb⟩
 have HB := Lib.hid (reachB_iff hbb)
 have K1 := Lib.hid (K0.out.trans (hb.mono K0.out.size))
 clear hb hbb
 go_wp2
 go_ret
 exact ⟨by rw [HB.out]; rfl, K1.out⟩
def ReachPost (w : World) (r : PathD × Int) (e : Ending) (w' : World) : Prop := ∃ vo, e = .returned (.tuple #[vo, .int .i64 r.2]) ∧ Row tInt w' (fun k => w.heap.size ≤ k) vo r.1.order ∧ Below w.heap.size w w'
set_option maxRecDepth 100000 in
set_option maxHeartbeats 8000000 in
theorem reach_calls (w : World) (S S' : Nat → Prop) (c : CfgD) (v : Value) (l : List EvD) (g : GraphD) (vn ve : Value) (hg : Gr w S' g vn ve) (h : Row tEv w S v l) (hlen : l.length ≤ 1000000) (hfew : ∀ x ∈ l, x.res.few) (hok : ∀ x ∈ l, okI x.th) : Calls Tryz.prog 14 #[c.val, v, .agg #[vn, ve, .int .i64 g.nn, .int .i64 g.ne]] w (ReachPost w (firstD (startD c l) (reachB g))) := by
 obtain ⟨A, cA, rfl⟩ := h.slice
 obtain ⟨⟨A3, c3, rfl⟩, ⟨A4, c4, rfl⟩⟩ := hg.slices
 obtain ⟨r, hr⟩ : ∃ r, r = firstD (startD c l) (reachB g) := ⟨_, rfl⟩
 rw [← hr]
 have HR := Lib.hid hr
 have H := Lib.hid h
 have HGG := Lib.hid hg
 clear h hr hg
 unfold CfgD.val
 obtain ⟨W0, hW⟩ : ∃ W0, W0 = (w.alloc (.cells #[.int .i64 c.nodes, .int .i64 c.edges, .int .i64 c.props, .int .i64 c.ids, .int .i64 c.eids] 23)).alloc (.cells #[.slice A3 g.nodes.length c3, .slice A4 g.edges.length c4, .int .i64 g.nn, .int .i64 g.ne] 31) := ⟨_, rfl⟩
 have hb0 : Below w.heap.size w W0 := by rw [hW]; exact (by repeat (first | exact Below.refl _ _ | refine Below.alloc ?_ (by simp; try omega) _))
 have s0 : w.heap.size + 1 < W0.heap.size := by rw [hW]; simp
 have B0 := Lib.hid (show Box4 W0 (w.heap.size + 1) (.slice A3 g.nodes.length c3) (.slice A4 g.edges.length c4) (.int .i64 g.nn) (.int .i64 g.ne) from by
  rw [hW]
  have := Box4.made (w.alloc (.cells #[.int .i64 c.nodes, .int .i64 c.edges, .int .i64 c.props, .int .i64 c.ids, .int .i64 c.eids] 23)) 31 (.slice A3 g.nodes.length c3) (.slice A4 g.edges.length c4) (.int .i64 g.nn) (.int .i64 g.ne)
  rw [World.size_alloc] at this
  exact this)
 have K0 := Lib.hid hb0
 clear hb0
 go_enter Tryz.func14, Tryz.ntmps14
 go_wp2_with fail
 rw [← hW]
 clear hW
 refine (first_calls W0 S c _ l 30 #[.pointer (some ⟨w.heap.size + 1, 0, none⟩)] (reachB g) (enters_of Tryz.func30 (by kernel_rfl) rfl) (fun W x u hbW hp => ?_) (H.out.below K0.out) hlen hfew hok).mono ?_
 ·
  exact reach1_calls W S' x u _ g _ _ hp (B0.out.keep (hbW.block _ s0)) (by have := hbW.size; omega) ((HGG.out.below K0.out).below hbW)
 rintro e w1 hp
 rw [← HR.out] at hp
 obtain ⟨u, rfl, ⟨A', c', A1, n1, k1, A2, n2, k2, rfl, hro, hgr⟩, hb⟩ := hp
 obtain ⟨V, hV⟩ : ∃ V, V = w1.alloc (.cells #[.slice A' r.1.order.length c', .slice A1 n1 k1, .slice A2 n2 k2, .int .i64 r.1.g.nn, .int .i64 r.1.g.ne, .int .i64 r.1.many] 59) := ⟨_, rfl⟩
 have hbV : Below w1.heap.size w1 V := by rw [hV]; exact (Below.refl _ w1).alloc (Nat.le_refl _) _
 have R1 := Lib.hid (hro.below hbV)
 have K1 := Lib.hid (K0.out.trans ((hb.trans (hbV.mono hb.size)).mono K0.out.size))
 have sK := K0.out.size
 clear hb hbV hro hgr B0 K0
 go_wp2
 rw [← hV]
 refine bodyPost_ret (v := .tuple #[.slice A' r.1.order.length c', .int .i64 r.2]) (by simp [results, Tryz.results14, go_sem]; try rfl) rfl ?_
 exact ⟨_, rfl, R1.out.mono fun j hj _ => by (try simp only at hj ⊢); omega, K1.out⟩
end Go.Proofs.YtpehmmdbjakkpaaGreat
namespace Go.Proofs.YtpehmmdbjakkpaaGreat
open Go.RowKit Go.Shelf
def walkF (sd : SD) : PathD → List Int → Option PathD
 | p, [] => some p
 | p, n :: r => if (nextF sd p n).2 = true then walkF sd (nextF sd p n).1 r else none
theorem walk_ind {sd : SD} {P : PathD → Prop} (hs : ∀ p n, P p → (nextF sd p n).2 = true → P (nextF sd p n).1) : ∀ (r : List Int) (p x : PathD), walkF sd p r = some x → P p → P x := by
 intro r
 induction r with
 | nil => intro p x h hp; injection h with h; exact h ▸ hp
 | cons n r ih =>
  intro p x h hp
  unfold walkF at h
  split at h
  ·
   rename_i hn; exact ih _ _ h (hs p n hp hn)
  ·
   cases h
theorem next_nat {sd : SD} {p : PathD} {n : Int} (h : (nextF sd p n).2 = true) : ∃ k : Nat, n = (k : Int) := by
 refine ⟨n.toNat, ?_⟩
 by_cases hn : n < 0
 ·
  unfold nextF at h; rw [if_pos hn] at h; cases h
 ·
  exact (Int.toNat_of_nonneg (by omega)).symm
theorem next_order {sd : SD} {p : PathD} {n : Int} (h : (nextF sd p n).2 = true) : (nextF sd p n).1.order = p.order ++ [n] := by
 obtain ⟨k, rfl⟩ := next_nat h
 obtain ⟨x, _, _, hc⟩ := next_some h
 rcases hc with ⟨_, e⟩ | ⟨_, e⟩ <;> rw [e]
theorem pathsF_walk (sd : SD) : ∀ (f : Nat) (p x : PathD), x ∈ pathsF sd f p → ∃ r, walkF sd p r = some x ∧ wholeB sd x.order x.many = true := by
 intro f
 induction f with
 | zero =>
  intro p x hx
  unfold pathsF at hx
  split at hx
  ·
   rename_i hw
   rw [List.mem_singleton] at hx
   subst hx
   exact ⟨[], rfl, hw⟩
  ·
   cases hx
 | succ f ih =>
  intro p x hx
  rw [pathsF_eq] at hx
  split at hx
  ·
   rename_i hw
   rw [List.mem_singleton] at hx
   subst hx
   exact ⟨[], rfl, hw⟩
  ·
   split at hx
   ·
    cases hx
   ·
    obtain ⟨n, _, hx⟩ := List.mem_flatMap.1 hx
    cases hn : (nextF sd p (n : Int)).2 with
    | false => rw [kid_no hn] at hx; cases hx
    | true =>
     rw [kid_yes hn] at hx
     obtain ⟨r, h1, h2⟩ := ih _ _ hx
     exact ⟨(n : Int) :: r, by unfold walkF; rw [if_pos hn]; exact h1, h2⟩
theorem firstD_cases (r : Option SD) (good : PathD → Bool) : (∃ sd x, r = some sd ∧ (orders sd).find? good = some x ∧ firstD r good = (x, 0)) ∨ firstD r good = (PathD.zero, 1) ∨ (∃ sd, r = some sd ∧ (orders sd).find? good = none ∧ firstD r good = (PathD.zero, 2)) := by
 cases r with
 | none => exact .inr (.inl rfl)
 | some sd =>
  cases h : (orders sd).find? good with
  | none => exact .inr (.inr ⟨sd, rfl, h, by unfold firstD; simp only; rw [h]⟩)
  | some x => exact .inl ⟨sd, x, rfl, h, by unfold firstD; simp only; rw [h]⟩
theorem found_bad {r : Option SD} {good : PathD → Bool} (h : ¬ (firstD r good).2 = 0) : (firstD r good).1.order = [] ∧ ((firstD r good).2 = 1 ∨ (firstD r good).2 = 2) := by
 rcases firstD_cases r good with ⟨_, _, _, _, e⟩ | e | ⟨_, _, _, e⟩
 ·
  rw [e] at h; exact absurd rfl h
 ·
  rw [e]; exact ⟨rfl, .inl rfl⟩
 ·
  rw [e]; exact ⟨rfl, .inr rfl⟩
/- Counting. -/
def cntF (sd : SD) (order : List Int) : Nat := (order.filter fun k => decide (0 ≤ toOf sd k)).length
theorem cntF_snoc (sd : SD) (order : List Int) (k : Int) : cntF sd (order ++ [k]) = cntF sd order + if 0 ≤ toOf sd k then 1 else 0 := by
 unfold cntF
 rw [List.filter_append, List.length_append]
 by_cases h : 0 ≤ toOf sd k <;> simp [h]
structure OrdP (sd : SD) (p : PathD) : Prop where
 good : GoodP sd p
 cnt : p.many = (cntF sd p.order : Int)
theorem OrdP.start {sd : SD} (hc : sd.c.ok) : OrdP sd PathD.start := ⟨start_good hc, rfl⟩
theorem OrdP.next {sd : SD} {p : PathD} {n : Int} (h : OrdP sd p) (hl : sd.calls.length ≤ 10) (hn : (nextF sd p n).2 = true) : OrdP sd (nextF sd p n).1 := by
 obtain ⟨k, rfl⟩ := next_nat hn
 obtain ⟨hg, _⟩ := next_good h.good hl hn
 obtain ⟨x, hx, _, hc⟩ := next_some hn
 have ht := toOf_at hx
 have h2 := h.cnt
 refine ⟨hg, ?_⟩
 rcases hc with ⟨h1, e⟩ | ⟨h1, e⟩ <;> rw [e] <;> simp only [cntF_snoc] <;> rw [ht]
 ·
  rw [if_neg (by omega), h2]; rfl
 ·
  rw [if_pos h1, h2]; rfl
theorem walk_ord {sd : SD} (hc : sd.c.ok) (hl : sd.calls.length ≤ 10) {r : List Int} {q : PathD} (h : walkF sd PathD.start r = some q) : OrdP sd q := walk_ind (P := OrdP sd) (fun p n h hn => h.next hl hn) _ _ _ h (OrdP.start hc)
theorem found_len {c : CfgD} {l : List EvD} {good : PathD → Bool} {x : PathD} (h : firstD (startD c l) good = (x, 0)) : x.order.length ≤ 1000000 := by
 rcases firstD_cases (startD c l) good with ⟨sd, y, hs, hf, e⟩ | e | ⟨_, _, _, e⟩
 case inr.inl => rw [e] at h; cases h
 case inr.inr => rw [e] at h; cases h
 rw [e] at h
 injection h with h _
 subst h
 obtain ⟨r, h1, h2⟩ := pathsF_walk sd sd.calls.length PathD.start y (List.mem_of_find?_eq_some hf)
 obtain ⟨h3, h4, h5⟩ := startD_ok hs
 have := (walk_ord h4 h5 h1).good.len
 omega
end Go.Proofs.YtpehmmdbjakkpaaGreat


