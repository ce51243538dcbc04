/- lin.Order. The laws' own small functions of chapter 13: many, few; hist.Check; tendrilref02.Same. The example of chapter 13 (live). -/
import Derived.Test.YtpehmmdbjakkpaaGreatLinFM
set_option linter.unusedSimpArgs false
set_option linter.unusedVariables false
namespace Go.Proofs.YtpehmmdbjakkpaaGreat
open Go.RowKit Go.Shelf
def OrderPost (w : World) (r : GraphD × Int) (e : Ending) (w' : World) : Prop := ∃ vn ve, e = .returned (.tuple #[.agg #[vn, ve, .int .i64 r.1.nn, .int .i64 r.1.ne], .int .i64 r.2]) ∧ Gr w' (fun k => w.heap.size ≤ k) r.1 vn ve ∧ Below w.heap.size w w'
theorem OrderPost.bad {w V : World} {e : Int} (hb : Below w.heap.size w V) : OrderPost w (GraphD.zero, e) (.returned (.tuple #[.agg #[.slice none 0 0, .slice none 0 0, .int .i64 0, .int .i64 0], .int .i64 e])) V := ⟨_, _, rfl, Gr.zero _ _ _ _, hb⟩
end Go.Proofs.YtpehmmdbjakkpaaGreat
namespace Go.Proofs.YtpehmmdbjakkpaaGreat
open Go.RowKit Go.Shelf
def manyN (l : List EvD) : Nat := (l.filter fun x => !x.done).length
theorem manyN_take {l : List EvD} {k : Nat} {x : EvD} (hx : l[k]? = some x) : manyN (l.take (k + 1)) = manyN (l.take k) + if x.done then 0 else 1 := by
 unfold manyN
 rw [List.take_add_one, hx, List.filter_append, List.length_append]
 cases hd : x.done <;> simp [hd]
theorem manyN_le (l : List EvD) : manyN l ≤ l.length := List.length_filter_le _ _
set_option maxRecDepth 100000 in
set_option maxHeartbeats 4000000 in
theorem many_calls (w : World) (S : Nat → Prop) (v : Value) (l : List EvD) (h : Row tEv w S v l) (hlen : l.length ≤ 1000000) : Calls Tryz.prog 11 #[v] w fun e w' => e = .returned (.int .i64 (manyN l : Int)) ∧ Below w.heap.size w w' := by
 obtain ⟨A, c, rfl⟩ := h.slice
 have H := Lib.hid h
 clear h
 go_enter Tryz.func11, Tryz.ntmps11
 go_wp2
 go_loopw [3, 8] (fun s i wr => ∃ k : Nat, k ≤ l.length ∧ i = .int .i64 (k : Int) ∧ s = .int .i64 (manyN (l.take k) : Int) ∧ Hid (Below w.heap.size w wr)) (fun _ i _ => l.length - (intOf i).toNat)
 case atStart => exact ⟨0, Nat.zero_le _, rfl, rfl, Below.refl _ _⟩
 case round =>
  obtain ⟨k, hk, rfl, rfl, hb⟩ := hrel
  have hwr := hb.out.size
  by_cases hlt : k < l.length
  ·
   obtain ⟨x, hx⟩ := getElem?_of_lt hlt
   obtain ⟨b, off, a1, d1, a2, d2, a3, d3, rfl, hbl, _, x0, x1, x2, x3, x4, x5, x6, x7, x8, x9, x10, x11⟩ := (H.out.below hb.out).atEvF hx
   have HM := Lib.hid (manyN_take hx)
   have hle : manyN (l.take k) ≤ k := by have := manyN_le (l.take k); rw [List.length_take] at this; omega
   obtain ⟨m, hm⟩ : ∃ m, m = manyN (l.take k) := ⟨_, rfl⟩
   rw [← hm] at hle HM ⊢
   clear hm hx
   cases hd : x.done
   ·
    rw [hd] at HM x1
    go_wp2
    go_roundw
    case rel => exact ⟨k + 1, by omega, by first | (go_num; done) | (go_num; omega), by rw [HM.out]; first | (go_num; done) | (go_num; omega) | rfl, hb.out.alloc hwr _⟩
    case measure => simp [intOf]; omega
   ·
    rw [hd] at HM x1
    go_wp2
    go_roundw
    case rel => exact ⟨k + 1, by omega, by first | (go_num; done) | (go_num; omega), by rw [HM.out]; rfl, hb.out.alloc hwr _⟩
    case measure => simp [intOf]; omega
  ·
   obtain rfl : k = l.length := by omega
   have HT := Lib.hid (List.take_length (l := l))
   go_wp2
   go_ret
   exact ⟨by rw [HT.out]; rfl, hb.out⟩
theorem eq_of_all {xs ys : List Int} (hl : xs.length = ys.length) (h : ∀ j, j < xs.length → xs[j]? = ys[j]?) : xs = ys := by
 apply List.ext_getElem? 
 intro i
 rcases Nat.lt_or_ge i xs.length with hi | hi
 ·
  exact h i hi
 ·
  rw [List.getElem?_eq_none hi, List.getElem?_eq_none (by omega)]
set_option maxRecDepth 100000 in
set_option maxHeartbeats 4000000 in
theorem same02_calls (w : World) (S S' : Nat → Prop) (v u : Value) (xs ys : List Int) (h : Row tInt w S v xs) (h' : Row tInt w S' u ys) (hlen : xs.length ≤ 1000000) : Calls Tryz.prog 16 #[v, u] w fun e w' => e = .returned (.bool (decide (xs = ys))) ∧ Below w.heap.size w w' := by
 obtain ⟨A, c, rfl⟩ := h.slice
 obtain ⟨B, d, rfl⟩ := h'.slice
 have H := Lib.hid h
 have H' := Lib.hid h'
 clear h h'
 by_cases hl : xs.length = ys.length
 case neg =>
  have HN := Lib.hid (show decide (xs = ys) = false from by simp; exact fun e => hl (by rw [e]))
  have hl' : ¬ ((xs.length : Int) = (ys.length : Int)) := by omega
  go_enter Tryz.func16, Tryz.ntmps16
  go_wp2
  go_ret
  exact ⟨by rw [HN.out]; rfl, Below.refl _ _⟩
 obtain ⟨n, hn⟩ : ∃ n, n = xs.length := ⟨_, rfl⟩
 have hn2 : n = ys.length := by omega
 rw [← hn, ← hn2]
 rw [← hn] at H hlen
 rw [← hn2] at H'
 have HN := Lib.hid hn
 have HN2 := Lib.hid hn2
 clear hl hn hn2
 go_enter Tryz.func16, Tryz.ntmps16
 go_wp2
 go_loopw [13] (fun i wr => ∃ k : Nat, k ≤ n ∧ i = .int .i64 (k : Int) ∧ Hid (∀ j, j < k → xs[j]? = ys[j]?) ∧ Hid (Below w.heap.size w wr)) (fun i _ => n - (intOf i).toNat)
 case atStart => exact ⟨0, Nat.zero_le _, rfl, fun j hj => absurd hj (by omega), Below.refl _ _⟩
 case round =>
  obtain ⟨k, hk, rfl, he, hb⟩ := hrel
  by_cases hlt : k < n
  ·
   obtain ⟨x, hx⟩ := getElem?_of_lt (show k < xs.length by have := HN.out; omega)
   obtain ⟨y, hy⟩ := getElem?_of_lt (show k < ys.length by have := HN2.out; omega)
   obtain ⟨b, off, rfl, _, hbl, x0⟩ := (H.out.below hb.out).atInt hx
   obtain ⟨b', off', rfl, _, hbl', y0⟩ := (H'.out.below hb.out).atInt hy
   have HX := Lib.hid hx
   have HY := Lib.hid hy
   have hlt' : (k : Int) < (n : Int) := by omega
   clear hx hy
   go_wp2_with fail
   refine wp_region_schedK (fun _ => True) [(0, true), (1, true), (2, true), (3, true), (4, true), (5, true), (6, true), (7, true), (8, true)] (by kernel_rfl) (by kernel_rfl) (fun hS => ?_)
   have HK := Lib.hid hS
   clear hS
   have KD := Lib.hid (Below.refl wr.heap.size wr).drew
   revert HK KD
   generalize wr.drew = Wd
   intro HK KD
   repeat (refine sched_take (v := ?_) (by simp only [opT, opS, opZ]; rfl) (Or.inl ⟨by rfl, fun W hW => ?_⟩) HK.out ?_; rotate_left; (have hc := fun b o hb => hW.cell b o trivial hb; clear hW; go_simp; with_reducible rfl); simp only [Act.put, putT, putZ, putS])
   refine sched_done ?_
   have K1 := Lib.hid (hb.out.trans (KD.out.mono hb.out.size))
   by_cases hxy : x = y
   ·
    subst hxy
    go_wp2
    go_roundw
    case rel => exact ⟨k + 1, by omega, by first | (go_num; done) | (go_num; omega), fun j hj => (by
     rcases Nat.lt_or_ge j k with h | h
     ·
      exact he.out j h
     ·
      obtain rfl : j = k := by omega
      rw [HX.out, HY.out]), K1.out⟩
    case measure => simp [intOf]; omega
   ·
    have HNE := Lib.hid (show decide (xs = ys) = false from by
     simp
     intro e
     rw [e, HY.out] at HX
     have := HX.out
     injection this with this
     exact hxy this.symm)
    go_wp2
    go_ret
    exact ⟨by rw [HNE.out]; rfl, K1.out⟩
  ·
   obtain rfl : k = n := by omega
   have HE := Lib.hid (show decide (xs = ys) = true from by
    simp
    exact eq_of_all (by rw [← HN.out, ← HN2.out]) (fun j hj => he.out j (by rw [HN.out]; exact hj)))
   go_wp2
   go_ret
   exact ⟨by rw [HE.out]; rfl, hb.out⟩
end Go.Proofs.YtpehmmdbjakkpaaGreat
namespace Go.Proofs.YtpehmmdbjakkpaaGreat
open Go.RowKit Go.Shelf
theorem flatten_get {α : Type} {n : Nat} : ∀ {css : List (List α)} {j : Nat} {cs : List α}, (∀ cs ∈ css, cs.length = n) → css[j]? = some cs → ∀ i, i < n → css.flatten[j * n + i]? = cs[i]? := by
 intro css
 induction css with
 | nil => intro j cs _ h; simp at h
 | cons c r ih =>
  intro j cs hl h i hi
  have hc := hl c (List.mem_cons_self ..)
  cases j with
  | zero =>
   simp only [List.getElem?_cons_zero, Option.some.injEq] at h
   subst h
   rw [List.flatten_cons, Nat.zero_mul, Nat.zero_add, List.getElem?_append_left (by omega)]
  | succ j =>
   simp only [List.getElem?_cons_succ] at h
   rw [List.flatten_cons, List.getElem?_append_right (by rw [hc, Nat.succ_mul]; omega), hc, ← ih (fun cs h => hl cs (List.mem_cons_of_mem _ h)) h i hi]
   congr 1
   rw [Nat.succ_mul]
   omega
theorem Row.made {α : Type} {t : Ty α} {W : World} {b : Nat} {e : TypeId} {S : Nat → Prop} (css : List (List Value)) (xs : List α) (h : W.heap[b]? = some (.cells css.flatten.toArray e (0, 0))) (hs : ∀ cs ∈ css, cs.length = t.sz) (hk : ∀ (j : Nat) (x : α), xs[j]? = some x → ∃ cs, css[j]? = some cs ∧ t.K W S x cs) (hS : S b) (hm : xs.length ≤ maxLen) : Row t W S (.slice (some ⟨b, 0, none⟩) xs.length xs.length) xs := by
 refine ⟨_, xs.length, rfl, Nat.le_refl _, hm, by simp, .inr ⟨b, 0, rfl, hS, (Array.getElem?_eq_some_iff.1 h).1, fun j x hj => ?_⟩⟩
 obtain ⟨cs, hc, hK⟩ := hk j x hj
 refine ⟨cs, hK, fun i v hv => ?_⟩
 have hi : i < t.sz := by rw [← hs cs (List.mem_of_getElem? hc)]; exact (List.getElem?_eq_some_iff.1 hv).1
 have := flatten_get hs hc i hi
 simp only [World.cell?, h, Nat.zero_add]
 simp [this, hv]
def cfg4 : CfgD := ⟨4, 4, 4, 4, 4⟩
def evs4 : List EvD := [⟨0, false, ⟨1, 0, 0, 0, 0⟩, ResD.nil⟩, ⟨1, false, ⟨6, 1, 0, 0, 0⟩, ResD.nil⟩, ⟨1, true, ⟨6, 1, 0, 0, 0⟩, ⟨2, 0, [], [], []⟩⟩, ⟨0, true, ⟨1, 0, 0, 0, 0⟩, ⟨0, 1, [], [], []⟩⟩]
theorem live_val : firstD (startD cfg4 evs4) (fun _ => true) = (⟨[1, 0], ⟨[⟨1, []⟩], [], 2, 1⟩, 2⟩, 0) := by rfl
def evCells (x : EvD) (p o i : Value) : List Value := [.int .i64 x.th, .bool x.done, .int .i64 x.op.k, .int .i64 x.op.a, .int .i64 x.op.b, .int .i64 x.op.p, .int .i64 x.op.v, .int .i64 x.res.st, .int .i64 x.res.id, p, o, i]
theorem plain13_calls (w : World) : Calls Tryz.prog 17 #[] w fun e w' => e = .returned (.agg #[.int .i64 4, .int .i64 4, .int .i64 4, .int .i64 4, .int .i64 4]) ∧ Below w.heap.size w w' := by
 go_enter Tryz.func17, Tryz.ntmps17
 go_wp2
 refine bodyPost_ret (v := .agg #[.int .i64 4, .int .i64 4, .int .i64 4, .int .i64 4, .int .i64 4]) (by simp [results, Tryz.results17, go_sem]; try rfl) rfl ?_
 exact ⟨rfl, (by repeat (first | exact Below.refl _ _ | refine Below.alloc ?_ (by simp; try omega) _))⟩
set_option maxRecDepth 100000 in
set_option maxHeartbeats 8000000 in
theorem live13_calls (w : World) : Calls Tryz.prog 5 #[] w fun e w' => e = .returned (.bool true) ∧ Below w.heap.size w w' := by
 go_enter Tryz.func5, Tryz.ntmps5
 go_wp2_with fail
 obtain ⟨W1, hW1⟩ : ∃ W1, W1 = ((w.alloc (.cells #[.int .i64 1, .int .i64 0, .int .i64 0, .int .i64 0, .int .i64 0] 46)).alloc (.cells #[.int .i64 6, .int .i64 1, .int .i64 0, .int .i64 0, .int .i64 0] 46)) := ⟨_, rfl⟩
 have z1 : W1.heap.size = w.heap.size + 1 + 1 := by rw [hW1]; simp
 have K1 := Lib.hid (show Below w.heap.size w W1 by rw [hW1]; exact (by repeat (first | exact Below.refl _ _ | refine Below.alloc ?_ (by simp; try omega) _)))
 rw [← hW1]
 clear hW1
 obtain ⟨W2, hW2⟩ : ∃ W2, W2 = W1.alloc (.cells (evs4.flatMap fun x => evCells x (.slice none 0 0) (.slice none 0 0) (.slice none 0 0)).toArray 52) := ⟨_, rfl⟩
 have K2 := Lib.hid (show Below w.heap.size w W2 by rw [hW2]; exact K1.out.alloc K1.out.size _)
 have HR := Lib.hid (show Row tEv W2 (fun _ => True) (.slice (some ⟨W1.heap.size, 0, none⟩) 4 4) evs4 from Row.made (evs4.map fun x => evCells x (.slice none 0 0) (.slice none 0 0) (.slice none 0 0)) evs4 (by rw [hW2]; exact heap_alloc_new _ _) (fun cs h => by
   obtain ⟨x, _, rfl⟩ := List.mem_map.1 h
   rfl) (fun j x h => ⟨_, by rw [List.getElem?_map, h]; rfl, .slice none 0 0, .slice none 0 0, .slice none 0 0, ⟨by
    have : x ∈ evs4 := List.mem_of_getElem? h
    simp only [evs4, List.mem_cons, List.not_mem_nil, or_false] at this
    rcases this with rfl | rfl | rfl | rfl <;> exact Row.nil _ _ _, by
    have : x ∈ evs4 := List.mem_of_getElem? h
    simp only [evs4, List.mem_cons, List.not_mem_nil, or_false] at this
    rcases this with rfl | rfl | rfl | rfl <;> exact Row.nil _ _ _, by
    have : x ∈ evs4 := List.mem_of_getElem? h
    simp only [evs4, List.mem_cons, List.not_mem_nil, or_false] at this
    rcases this with rfl | rfl | rfl | rfl <;> exact Row.nil _ _ _⟩, rfl⟩) trivial (by unfold maxLen; decide))
 have e2 : W2 = _ := hW2
 simp only [evs4, evCells, List.flatMap_cons, List.flatMap_nil, List.cons_append, List.nil_append, List.append_nil, ResD.nil] at e2
 rw [← e2]
 clear hW2 e2
 refine (plain13_calls W2).mono ?_
 rintro e w3 ⟨rfl, hb⟩
 have HR3 := Lib.hid (HR.out.below hb)
 have K3 := Lib.hid (K2.out.trans (hb.mono K2.out.size))
 clear hb HR K2
 rw [z1] at HR3
 go_wp2_with fail
 refine (search_calls w3 _ cfg4 _ evs4 HR3.out (by decide) (fun x hx => ?_) (fun x hx => ?_)).mono ?_
 ·
  simp only [evs4, List.mem_cons, List.not_mem_nil, or_false] at hx
  rcases hx with rfl | rfl | rfl | rfl <;> exact ⟨by simp [ResD.nil], by simp [ResD.nil], by simp [ResD.nil]⟩
 ·
  simp only [evs4, List.mem_cons, List.not_mem_nil, or_false] at hx
  rcases hx with rfl | rfl | rfl | rfl <;> (unfold okI; simp)
 rintro e w4 hp
 rw [live_val] at hp
 obtain ⟨vo, vn, ve, rfl, hro, hgr, hb⟩ := hp
 simp only at hro hgr ⊢
 obtain ⟨⟨A3, c3, rfl⟩, ⟨A4, c4, rfl⟩⟩ := hgr.slices
 obtain ⟨A5, c5, rfl⟩ := hro.slice
 simp only [List.length_cons, List.length_nil, Nat.reduceAdd] at hro hgr ⊢
 have K4 := Lib.hid (K3.out.trans (hb.mono K3.out.size))
 have RO := Lib.hid hro
 clear hb hro hgr HR3 K3
 obtain ⟨V, hV⟩ : ∃ V, V = (w4.alloc (.cells #[.slice A3 1 c3, .slice A4 0 c4, .int .i64 2, .int .i64 1] 31)).alloc (.cells #[.int .i64 1, .int .i64 0] 3) := ⟨_, rfl⟩
 have hbV : Below w4.heap.size w4 V := by rw [hV]; exact (by repeat (first | exact Below.refl _ _ | refine Below.alloc ?_ (by simp; try omega) _))
 have G4 := Lib.hid (show Box4 V w4.heap.size _ _ _ _ from by rw [hV]; exact (Box4.made w4 31 (.slice A3 1 c3) (.slice A4 0 c4) (.int .i64 2) (.int .i64 1)).keep (Below.heap_alloc _ _ _ (by simp)))
 have RV := Lib.hid (show Row tInt V (fun _ => True) (.slice (some ⟨w4.heap.size + 1, 0, none⟩) 2 2) [1, 0] from by
  have hz : (w4.alloc (.cells #[.slice A3 1 c3, .slice A4 0 c4, .int .i64 2, .int .i64 1] 31)).heap.size = w4.heap.size + 1 := by simp
  have := Row.made (t := tInt) (W := V) (b := w4.heap.size + 1) (e := 3) (S := fun _ => True) [[.int .i64 1], [.int .i64 0]] [1, 0] (by
   rw [hV, ← hz]
   exact heap_alloc_new _ _) (fun cs h => by
   simp only [List.mem_cons, List.not_mem_nil, or_false] at h
   rcases h with rfl | rfl <;> rfl) (fun j x h => by
   match j, h with
   | 0, h => simp at h; subst h; exact ⟨_, rfl, rfl⟩
   | 1, h => simp at h; subst h; exact ⟨_, rfl, rfl⟩) trivial (by unfold maxLen; decide)
  exact this)
 have z4 : w4.heap.size < V.heap.size := by rw [hV]; simp; omega
 go_wp2_with fail
 rw [← hV]
 clear hV
 refine (same02_calls V _ _ _ _ [1, 0] [1, 0] (RO.out.below hbV) RV.out (by decide)).mono ?_
 rintro e w5 ⟨rfl, hb⟩
 have G5 := Lib.hid (G4.out.keep (hb.block _ z4))
 have l5 : w4.heap.size < w5.heap.size := by have := hb.size; omega
 have K5 := Lib.hid (K4.out.trans ((hbV.trans (hb.mono hbV.size)).mono K4.out.size))
 clear hb hbV G4 RO RV
 obtain ⟨g0, g1, g2, g3, gf⟩ := G5.out
 have hd : decide (([1, 0] : List Int) = [1, 0]) = true := by decide
 rw [hd]
 go_wp2
 go_ret
 exact ⟨rfl, K5.out⟩
end Go.Proofs.YtpehmmdbjakkpaaGreat


