/- graph.Fuse, where the node that goes has no properties. The chapter's example stands. The reference's small looks at a graph: Few, at, and whether a configuration may be. -/
import Derived.Test.YtpehmmdbjakkpaaGreatAddM
import Derived.Test.YtpehmmdbjakkpaaGreatLibM
namespace Go.Proofs.YtpehmmdbjakkpaaGreat
open Go.RowKit Go.Shelf
set_option linter.unusedSimpArgs false
set_option linter.unusedVariables false
def subE (a b : Int) (x : EdgeD) : EdgeD := ⟨x.id, if x.frm = b then a else x.frm, if x.to = b then a else x.to⟩
theorem NVs.cons {w : World} {S : Nat → Prop} {v : NV} {x : NodeD} {nvs : List NV} {xs : List NodeD} : NVs w S (v :: nvs) (x :: xs) ↔ (v.id = x.id ∧ Row tP w S (.slice v.A v.n v.c) x.ps) ∧ NVs w S nvs xs := by
 constructor
 ·
  intro h
  exact ⟨h.each 0 v x rfl rfl, by have := h.len; simp at this; exact this, fun j u y hu hy => h.each (j + 1) u y (by simpa using hu) (by simpa using hy)⟩
 ·
  rintro ⟨h1, h2⟩
  refine ⟨by simp [h2.len], fun j u y hu hy => ?_⟩
  cases j with
  | zero => simp at hu hy; subst hu hy; exact h1
  | succ j => exact h2.each j u y (by simpa using hu) (by simpa using hy)
theorem NVs.filter {w : World} {S : Nat → Prop} (b : Int) : ∀ {nvs : List NV} {xs : List NodeD}, NVs w S nvs xs → NVs w S (nvs.filter fun v => !(v.id == b)) (xs.filter fun x => !(x.id == b)) := by
 intro nvs
 induction nvs with
 | nil =>
  intro xs h
  have : xs = [] := List.eq_nil_of_length_eq_zero h.len.symm
  subst this
  exact NVs.nil _ _
 | cons v nvs ih =>
  intro xs h
  cases xs with
  | nil => have := h.len; simp at this
  | cons x xs =>
   obtain ⟨h1, h2⟩ := NVs.cons.1 h
   have e : (x.id == b) = (v.id == b) := by rw [h1.1]
   rw [List.filter_cons, List.filter_cons, e]
   split
   ·
    exact NVs.cons.2 ⟨h1, ih h2⟩
   ·
    exact ih h2
/-- An edge, its first q ends put over. -/
def subQ (q : Nat) (a b : Int) (x : EdgeD) : EdgeD := match q with
 | 0 => x
 | 1 => ⟨x.id, if x.frm = b then a else x.frm, x.to⟩
 | _ => subE a b x
end Go.Proofs.YtpehmmdbjakkpaaGreat
namespace Go.Proofs.YtpehmmdbjakkpaaGreat
open Go.RowKit Go.Shelf
set_option linter.unusedSimpArgs false
set_option linter.unusedVariables false
end Go.Proofs.YtpehmmdbjakkpaaGreat
namespace Go.Proofs.YtpehmmdbjakkpaaGreat
open Go.RowKit Go.Shelf
set_option linter.unusedSimpArgs false
set_option linter.unusedVariables false
/-- Small enough to be played. -/
def GraphD.few (g : GraphD) : Prop := g.nodes.length ≤ 100 ∧ g.edges.length ≤ 100 ∧ ∀ x ∈ g.nodes, x.ps.length ≤ 100
theorem GraphD.few.small {g : GraphD} (h : g.few) : g.small := ⟨by have := h.1; omega, by have := h.2.1; omega, fun x hx => by have := h.2.2 x hx; omega⟩
set_option maxRecDepth 20000 in
set_option maxHeartbeats 8000000 in
theorem few_calls (w : World) (S : Nat → Prop) (g : GraphD) (vn ve : Value) (h : Gr w S g vn ve) : Calls Tryz.prog 10 #[.agg #[vn, ve, .int .i64 g.nn, .int .i64 g.ne]] w fun e w' => ∃ b : Bool, e = .returned (.bool b) ∧ (b = true → g.few) ∧ Below w.heap.size w w' := by
 have hm := h.len
 unfold maxLen at hm
 obtain ⟨hm1, hm2⟩ := hm
 obtain ⟨⟨A1, c1, rfl⟩, ⟨A2, c2, rfl⟩⟩ := h.slices
 have H := Lib.hid h
 have BX := Lib.hid (Box4.made w 31 (.slice A1 g.nodes.length c1) (.slice A2 g.edges.length c2) (.int .i64 g.nn) (.int .i64 g.ne))
 clear h
 go_enter Tryz.func10, Tryz.ntmps10
 go_wp2
 go_loopw [8] (fun p wr => ∃ k : Nat, k ≤ g.nodes.length ∧ p = .int .i64 (k : Int) ∧ Hid (∀ (i : Nat) (x : NodeD), i < k → g.nodes[i]? = some x → x.ps.length ≤ 100) ∧ Hid (Below w.heap.size w wr) ∧ Hid (Box4 wr w.heap.size (.slice A1 g.nodes.length c1) (.slice A2 g.edges.length c2) (.int .i64 g.nn) (.int .i64 g.ne)) ∧ w.heap.size + 1 ≤ wr.heap.size) (fun p _ => g.nodes.length - (intOf p).toNat)
 case atStart => exact ⟨0, by omega, rfl, (fun i x h => by omega), Below.heap1 w _, BX, by simp⟩
 case round =>
  obtain ⟨wa, rfl⟩ : ∃ wa, wa = wr := ⟨wr, rfl⟩
  obtain ⟨k, hk, rfl, hall, hb, hbx, hsz⟩ := hrel
  have hwr := hb.out.size
  by_cases hlt : k < g.nodes.length
  ·
   obtain ⟨x, hx⟩ := getElem?_of_lt hlt
   obtain ⟨b, off, a, d, rfl, _, hbl, hr, x0, x1⟩ := (H.out.below hb.out).atN hx
   have hpl := hr.len
   unfold maxLen at hpl
   have HX := Lib.hid hx
   clear hx hr
   have g1 : wa.heap.size < wa.heap.size + 1 := by omega
   have g2 : b < wa.heap.size + 1 := by omega
   by_cases hp : 100 < x.ps.length
   ·
    go_wp2
    go_ret
    exact ⟨false, rfl, (fun e => by cases e), hb.out.alloc (by omega) _⟩
   ·
    have HN := Lib.hid (show ∀ (i : Nat) (x : NodeD), i < k + 1 → g.nodes[i]? = some x → x.ps.length ≤ 100 from fun i y hi hy => by
     rcases Nat.lt_or_ge i k with h3 | h3
     ·
      exact hall.out i y h3 hy
     ·
      obtain rfl : i = k := by omega
      rw [HX.out] at hy
      injection hy with hy
      subst hy
      omega)
    go_wp2
    go_roundw
    case rel => exact ⟨k + 1, by omega, by first | (go_num; done) | (go_num; omega), HN, Lib.hid (hb.out.alloc (by omega) _), Lib.hid (hbx.out.keep (Below.heap_alloc _ _ _ (by omega))), by simp; omega⟩
    case measure => simp [intOf]; omega
  ·
   obtain rfl : k = g.nodes.length := by omega
   obtain ⟨x0, x1, x2, x3, xf⟩ := hbx.out
   by_cases h1 : g.nodes.length ≤ 100
   ·
    have HF := Lib.hid (show decide ((g.edges.length : Int) ≤ 100) = true → g.few from fun h2 => ⟨h1, by have := of_decide_eq_true h2; omega, fun x hx => by
     obtain ⟨i, hi⟩ := List.mem_iff_getElem?.1 hx
     exact hall.out i x (List.getElem?_eq_some_iff.1 hi).1 hi⟩)
    go_wp2
    go_ret
    exact ⟨decide ((g.edges.length : Int) ≤ 100), rfl, HF.out, hb.out⟩
   ·
    have hd : decide ((g.nodes.length : Int) ≤ 100) = false := decide_eq_false (by omega)
    go_wp2
    go_ret
    exact ⟨false, rfl, (fun e => by cases e), hb.out⟩
set_option maxRecDepth 20000 in
set_option maxHeartbeats 8000000 in
theorem refAt_calls (w : World) (S : Nat → Prop) (g : GraphD) (vn ve : Value) (n : Int) (h : Gr w S g vn ve) (hlen : g.nodes.length ≤ 1000000) : Calls Tryz.prog 105 #[.agg #[vn, ve, .int .i64 g.nn, .int .i64 g.ne], .int .i64 n] w fun e w' => e = .returned (.int .i64 (atOf g.nodes n)) ∧ Below w.heap.size w w' := by
 obtain ⟨⟨A1, c1, rfl⟩, ⟨A2, c2, rfl⟩⟩ := h.slices
 have H := Lib.hid h
 clear h
 go_enter Tryz.func105, Tryz.ntmps105
 go_wp2
 go_loopw [10] (fun p wr => ∃ k : Nat, k ≤ g.nodes.length ∧ p = .int .i64 (k : Int) ∧ Hid (∀ (i : Nat) (x : NodeD), i < k → g.nodes[i]? = some x → (x.id == n) = false) ∧ Hid (Below w.heap.size w wr)) (fun p _ => g.nodes.length - (intOf p).toNat)
 case atStart => exact ⟨0, by omega, rfl, (fun i x h => by omega), Below.heap1 w _⟩
 case round =>
  obtain ⟨wa, rfl⟩ : ∃ wa, wa = wr := ⟨wr, rfl⟩
  obtain ⟨k, hk, rfl, hall, hb⟩ := hrel
  have hwr := hb.out.size
  by_cases hlt : k < g.nodes.length
  ·
   obtain ⟨x, hx⟩ := getElem?_of_lt hlt
   obtain ⟨b, off, a, d, rfl, _, hbl, hr, x0, x1⟩ := (H.out.below hb.out).atN hx
   have HX := Lib.hid hx
   clear hx hr
   have g1 : wa.heap.size < wa.heap.size + 1 := by omega
   have g2 : b < wa.heap.size + 1 := by omega
   by_cases hp : x.id = n
   ·
    have HI := Lib.hid (show atOf g.nodes n = (k : Int) from idxB_at HX.out (beq_iff_eq.mpr hp) hall.out)
    replace hp : (x.id == n) = true := beq_iff_eq.mpr hp
    go_wp2
    go_ret
    exact ⟨by rw [HI.out]; rfl, hb.out.alloc (by omega) _⟩
   ·
    have HN := Lib.hid (show ∀ (i : Nat) (x : NodeD), i < k + 1 → g.nodes[i]? = some x → (x.id == n) = false from fun i y hi hy => by
     rcases Nat.lt_or_ge i k with h3 | h3
     ·
      exact hall.out i y h3 hy
     ·
      obtain rfl : i = k := by omega
      rw [HX.out] at hy
      injection hy with hy
      subst hy
      exact beq_eq_false_iff_ne.mpr hp)
    replace hp : (x.id == n) = false := beq_eq_false_iff_ne.mpr hp
    go_wp2
    go_roundw
    case rel => exact ⟨k + 1, by omega, by first | (go_num; done) | (go_num; omega), HN, Lib.hid (hb.out.alloc (by omega) _)⟩
    case measure => simp [intOf]; omega
  ·
   obtain rfl : k = g.nodes.length := by omega
   have HI := Lib.hid (show atOf g.nodes n = -1 from idxB_none fun i y hy => hall.out i y (List.getElem?_eq_some_iff.1 hy).1 hy)
   go_wp2
   go_ret
   exact ⟨by rw [HI.out]; rfl, hb.out⟩
/-- A configuration that may be. -/
def CfgD.ok (c : CfgD) : Prop := (1 ≤ c.nodes ∧ c.nodes ≤ 64) ∧ (1 ≤ c.edges ∧ c.edges ≤ 64) ∧ (1 ≤ c.props ∧ c.props ≤ 64) ∧ (1 ≤ c.ids ∧ c.ids ≤ 64) ∧ (1 ≤ c.eids ∧ c.eids ≤ 64)
def CfgD.nth (c : CfgD) : Nat → Int
 | 0 => c.nodes
 | 1 => c.edges
 | 2 => c.props
 | 3 => c.ids
 | _ => c.eids
theorem CfgD.ok_nth {c : CfgD} : c.ok ↔ ∀ i, i < 5 → 1 ≤ c.nth i ∧ c.nth i ≤ 64 := by
 constructor
 ·
  rintro ⟨h0, h1, h2, h3, h4⟩ i hi
  rcases (by omega : i = 0 ∨ i = 1 ∨ i = 2 ∨ i = 3 ∨ i = 4) with rfl | rfl | rfl | rfl | rfl <;> assumption
 ·
  intro h
  exact ⟨h 0 (by omega), h 1 (by omega), h 2 (by omega), h 3 (by omega), h 4 (by omega)⟩
set_option maxRecDepth 20000 in
set_option maxHeartbeats 8000000 in
theorem ref03_calls (w : World) (c : CfgD) : Calls Tryz.prog 40 #[c.val] w fun e w' => ∃ x : Int, e = .returned (.int .i64 x) ∧ ((x = 0 ∧ c.ok) ∨ (x = 1 ∧ ¬ c.ok)) ∧ Below w.heap.size w w' := by
 unfold CfgD.val
 have hcell : ∀ i, i < 5 → ((w.alloc (.cells #[.int .i64 c.nodes, .int .i64 c.edges, .int .i64 c.props, .int .i64 c.ids, .int .i64 c.eids] 23)).alloc (.cells #[.int .i64 c.nodes, .int .i64 c.edges, .int .i64 c.props, .int .i64 c.ids, .int .i64 c.eids] 3)).cell? ⟨w.heap.size + 1, i, none⟩ = some (.int .i64 (c.nth i)) := fun i hi => by
  rcases (by omega : i = 0 ∨ i = 1 ∨ i = 2 ∨ i = 3 ∨ i = 4) with rfl | rfl | rfl | rfl | rfl <;> simp [go_sem, CfgD.nth]
 have HC := Lib.hid hcell
 clear hcell
 go_enter Tryz.func40, Tryz.ntmps40
 go_wp2
 go_loopw [17] (fun p wr => ∃ k : Nat, k ≤ 5 ∧ p = .int .i64 (k : Int) ∧ Hid (∀ i, i < k → 1 ≤ c.nth i ∧ c.nth i ≤ 64) ∧ wr = ((w.alloc (.cells #[.int .i64 c.nodes, .int .i64 c.edges, .int .i64 c.props, .int .i64 c.ids, .int .i64 c.eids] 23)).alloc (.cells #[.int .i64 c.nodes, .int .i64 c.edges, .int .i64 c.props, .int .i64 c.ids, .int .i64 c.eids] 3))) (fun p _ => 5 - (intOf p).toNat)
 case atStart => exact ⟨0, by omega, rfl, (fun i h => by omega), rfl⟩
 case round =>
  obtain ⟨k, hk, rfl, hall, hww⟩ := hrel
  have HW := Lib.hid (show Below w.heap.size w wr by rw [hww]; exact ((Below.refl w.heap.size w).alloc (Nat.le_refl _) _).alloc (by simp) _)
  by_cases hlt : k < 5
  ·
   have hc := HC.out k hlt
   rw [← hww] at hc
   have HWW := Lib.hid hww
   clear hww
   by_cases h1 : c.nth k < 1
   ·
    have HN := Lib.hid (show ¬ c.ok from fun h => by have := CfgD.ok_nth.1 h k hlt; omega)
    go_wp2
    go_ret
    exact ⟨1, rfl, .inr ⟨rfl, HN.out⟩, HW.out⟩
   ·
    by_cases h2 : 64 < c.nth k
    ·
     have HN := Lib.hid (show ¬ c.ok from fun h => by have := CfgD.ok_nth.1 h k hlt; omega)
     have hd : decide (c.nth k < 1) = false := decide_eq_false h1
     go_wp2
     go_ret
     exact ⟨1, rfl, .inr ⟨rfl, HN.out⟩, HW.out⟩
    ·
     have HN := Lib.hid (show ∀ i, i < k + 1 → 1 ≤ c.nth i ∧ c.nth i ≤ 64 from fun i hi => by
      rcases Nat.lt_or_ge i k with h3 | h3
      ·
       exact hall.out i h3
      ·
       obtain rfl : i = k := by omega
       omega)
     have hd : decide (c.nth k < 1) = false := decide_eq_false h1
     have hd2 : decide (64 < c.nth k) = false := decide_eq_false h2
     go_wp2
     go_roundw
     case rel => exact ⟨k + 1, by omega, by first | (go_num; done) | (go_num; omega), HN, HWW.out⟩
     case measure => simp [intOf]; omega
  ·
   have HO := Lib.hid (CfgD.ok_nth.2 fun i hi => hall.out i (by omega))
   obtain rfl : k = 5 := by omega
   clear hww
   go_wp2
   go_ret
   exact ⟨0, rfl, .inl ⟨rfl, HO.out⟩, HW.out⟩
end Go.Proofs.YtpehmmdbjakkpaaGreat


