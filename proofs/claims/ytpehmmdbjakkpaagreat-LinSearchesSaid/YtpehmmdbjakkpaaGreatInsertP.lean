/- slices.Insert of one property into a slice of the call's own: at the end; with no room; with room. -/
import Derived.Test.YtpehmmdbjakkpaaGreatGetM
import Derived.Lib.Overlaps
import Derived.Lib.AppendZerosOnto
import Derived.Laws.CopyOwn
import Derived.Laws.Externs
import Derived.Test.YtpehmmdbjakkpaaGreatBaseM
namespace Go.Proofs.YtpehmmdbjakkpaaGreat
open Go.RowKit Go.Shelf
set_option linter.unusedSimpArgs false
set_option linter.unusedVariables false
/-- copy(dst, src), elements of sz cells, dst in a block that is known whole. -/
theorem run_copy_rowN {P : Program} (w : World) (dT sT ty elem : TypeId) (sz : Nat) (g o dLen dCap : Nat) (a : Addr) (sLen sCap : Nat) (cur : List Value) (t : TypeId) (cs : List Value)
  (hu : P.underlying dT = some (.slice elem)) (hs : (P.info? elem).map (·.size) = some sz)
  (hg : w.heap[g]? = some (.cells cur.toArray t (0, 0))) (hn : cs.length = Nat.min sLen dLen * sz)
  (hsrc : ∀ j v, cs[j]? = some v → w.cell? (a.add j) = some v) (hfit : o + cs.length ≤ cur.length) (h1 : ∀ v ∈ cs, v.oneCell' = true) :
  (Builtin.copy_ #[dT, sT] ty #[.slice (some ⟨g, o, none⟩) dLen dCap, .slice (some a) sLen sCap]).run P w =
   .ok (goInt (Nat.min sLen dLen)) (w.setRow g (splice cur o cs).toArray) := by
 have hl := run_loadCells_list (P := P) w a cs hsrc
 have hst := run_storeCells_at P g o t cs 0 cur.toArray w hg (by simpa using hfit) h1
 have hst' : (storeCells ⟨g, o, none⟩ cs 0).run P w = .ok () (w.setRow g (splice cur o cs).toArray) := by
  rw [hst]
  simp [splice]
 cases hq : P.info? elem with
 | none => simp [hq] at hs
 | some i =>
  have hi : i.size = sz := by simpa [hq] using hs
  subst hi
  have hl' : (loadCells a (Nat.min sLen dLen * i.size)).run P w = .ok cs.toArray w := by rw [← hn]; exact hl
  simp [Builtin.copy_, run_underlying hu, Builtin.lenOf, Builtin.firstCells, sizeOf, typeInfo, hq, hl', hst']
theorem wpList_copyN {P : Program} {w : World} {ops : Array Oper} {rest : List Oper} {o : Oper} {a : Act} {Q : Exit → Act → World → Prop} (hgd : o.guard = none) (d s : Operand) (dT sT : TypeId)
  (ho : o.op = .call { callee := .builtin .copy, args := #[d, s], argTypes := #[dT, sT] }) (elem : TypeId) (sz : Nat) (hu : P.underlying dT = some (.slice elem)) (hsz : (P.info? elem).map (·.size) = some sz)
  (g off dLen dCap sb so sLen sCap : Nat) (hd : a.eval d = .slice (some ⟨g, off, none⟩) dLen dCap) (hs : a.eval s = .slice (some ⟨sb, so, none⟩) sLen sCap)
  (cur : List Value) (t : TypeId) (hg : w.heap[g]? = some (.cells cur.toArray t (0, 0))) (cs : List Value) (hn : cs.length = Nat.min sLen dLen * sz)
  (hsrc : ∀ j v, cs[j]? = some v → w.cell? ⟨sb, so + j, none⟩ = some v) (hfit : off + cs.length ≤ cur.length) (h1 : ∀ v ∈ cs, v.oneCell' = true)
  (h : ∀ w', Hid (w'.heap[g]? = some (.cells (splice cur off cs).toArray t (0, 0))) → Hid (w.grownBy w' (some g)) → w'.heap.size = w.heap.size → wpList P ops Q rest (a.put o.dst (goInt (Nat.min sLen dLen))) w') : wpList P ops Q (o :: rest) a w := by
 refine wpList_plain hgd fun K hK => ?_
 have hrun := run_copy_rowN (P := P) w dT sT o.type elem sz g off dLen dCap ⟨sb, so, none⟩ sLen sCap cur t cs hu hsz hg hn (fun j v hj => by rw [Addr.add_lit]; exact hsrc j v hj) hfit h1
 unfold Oper.wp
 simp [execOp, ho, resolve, invoke, builtin, hd, hs, hrun, Result.andThen]
 exact hK _ _ (h _ (show _ = _ from setRow_heap w g _ _ t _ hg) (show World.grownBy _ _ _ from ⟨rfl, rfl, rfl, by simp [World.setRow], fun k _ hk => setRow_other w g k _ (fun e => hk (by rw [e]))⟩) (by simp [World.setRow]))
def flatP (xs : List P2) : List Value := xs.flatMap P2.cells
theorem flatP_len (xs : List P2) : (flatP xs).length = xs.length * 2 := by
 induction xs with
 | nil => rfl
 | cons x r ih =>
  show (P2.cells x ++ flatP r).length = _
  rw [List.length_append, ih]
  simp [P2.cells]
  omega
theorem flatP_app (xs ys : List P2) : flatP (xs ++ ys) = flatP xs ++ flatP ys := by simp [flatP]
theorem flatP_one (xs : List P2) : ∀ u ∈ flatP xs, u.oneCell' = true := by
 intro u hu
 simp only [flatP, List.mem_flatMap] at hu
 obtain ⟨x, _, hu⟩ := hu
 simp only [P2.cells, List.mem_cons, List.not_mem_nil, or_false] at hu
 rcases hu with rfl | rfl <;> rfl
theorem flatP_at : ∀ (xs : List P2) (j : Nat) (x : P2), xs[j]? = some x → ((flatP xs).drop (j * 2)).take 2 = x.cells := by
 intro xs
 induction xs with
 | nil => intro j x h; simp at h
 | cons y r ih =>
  intro j x h
  rcases j with _ | j
  ·
   simp at h; subst h; rfl
  ·
   rw [List.getElem?_cons_succ] at h
   rw [← ih j x h]
   show (List.drop ((j + 1) * 2) (P2.cells y ++ flatP r)).take 2 = _
   rw [List.drop_append, List.drop_eq_nil_of_le (by simp [P2.cells]; omega), List.nil_append]
   congr 2
   simp [P2.cells]
   omega
theorem flatP_of : ∀ (xs : List P2) (inner : List Value), inner.length = xs.length * 2 → (∀ j x, xs[j]? = some x → (inner.drop (j * 2)).take 2 = x.cells) → inner = flatP xs := by
 intro xs
 induction xs with
 | nil => intro inner hl _; exact List.eq_nil_of_length_eq_zero (by simpa using hl)
 | cons y r ih =>
  intro inner hl h
  have h0 := h 0 y rfl
  simp only [Nat.zero_mul, List.drop_zero] at h0
  have h1 := ih (inner.drop 2) (by rw [List.length_drop, hl]; simp; omega) (fun j x hj => by
   rw [List.drop_drop, ← h (j + 1) x (by simpa using hj)]
   congr 2
   omega)
  show inner = P2.cells y ++ flatP r
  rw [← h1, ← h0, List.take_append_drop]
theorem Own.toCells {w : World} {e : TypeId} {S : Nat → Prop} {g n c : Nat} {xs : List P2} (h : Own tP e w S (.slice (some ⟨g, 0, none⟩) n c) xs) :
  ∃ cur : List Value, w.heap[g]? = some (.cells cur.toArray e (0, 0)) ∧ n = xs.length ∧ n ≤ c ∧ c ≤ maxLen ∧ cur.length = c * 2 ∧ cur.take (n * 2) = flatP xs ∧ S g := by
 have hn := h.n_eq
 obtain ⟨hS, inner, ho, hk⟩ := h
 have hl := ho.1
 rcases ho.2 with ⟨h1, _⟩ | ⟨g', c', cur, h1, _, hh, h2, h3, h4, h5⟩
 ·
  simp at h1
 ·
  injection h1 with e1 e2 e3
  injection e1 with e1
  injection e1 with e1
  subst e1 e3
  refine ⟨cur.toList, by simpa using hh, hn, by omega, h3, by rw [Array.length_toList, h4]; rfl, ?_, hS g rfl⟩
  rw [hn]
  refine (h5.trans ?_)
  exact flatP_of xs inner hl (fun j x hj => hk j x hj)
theorem Own.ofCells {w : World} {e : TypeId} {S : Nat → Prop} {g c : Nat} {xs : List P2} (cur : List Value) (hh : w.heap[g]? = some (.cells cur.toArray e (0, 0))) (hn : xs.length ≤ c) (hc : c ≤ maxLen) (hl : cur.length = c * 2) (ht : cur.take (xs.length * 2) = flatP xs) (hS : S g) :
  Own tP e w S (.slice (some ⟨g, 0, none⟩) xs.length c) xs := by
 refine ⟨fun k hk => ?_, flatP xs, ⟨by rw [flatP_len]; rfl, .inr ⟨g, c, cur.toArray, rfl, Nat.zero_le _, hh, hn, hc, by rw [List.size_toArray, hl]; rfl, by rw [List.toList_toArray]; exact ht⟩⟩, fun j x hj => ?_⟩
 ·
  simp [Value.ownBlock] at hk; subst hk; exact hS
 ·
  show ((flatP xs).drop (j * 2)).take 2 = x.cells
  exact flatP_at xs j x hj
theorem take_splice {α : Type} (L : List α) (o : Nat) (cs : List α) (ho : o ≤ L.length) : (splice L o cs).take (o + cs.length) = L.take o ++ cs := by
 unfold splice
 rw [← List.append_assoc, List.take_append_of_le_length (by simp; omega), List.take_of_length_le (by simp; omega)]
theorem take_splice_le {α : Type} (L : List α) (o m : Nat) (cs : List α) (ho : o ≤ L.length) (hm : m ≤ o) : (splice L o cs).take m = L.take m := by
 unfold splice
 rw [List.take_append_of_le_length (by simp; omega), List.take_take, Nat.min_eq_left hm]
theorem drop_splice_at {α : Type} (L : List α) (o : Nat) (cs : List α) (ho : o ≤ L.length) : (splice L o cs).drop o = cs ++ L.drop (o + cs.length) := by
 unfold splice
 rw [List.drop_append, List.drop_eq_nil_of_le (by simp; omega), List.nil_append, List.length_take, Nat.min_eq_left ho, Nat.sub_self, List.drop_zero]
/-- What the slice says behind a copy of p over place i, and of the rest behind it (in either order). -/
theorem ins_new (ROW : List Value) (xs : List P2) (p : P2) (i : Nat) (hi : i ≤ xs.length) (hl : (xs.length + 1) * 2 ≤ ROW.length) (h0 : ROW.take (i * 2) = flatP (xs.take i)) :
  (splice (splice ROW (i * 2) p.cells) ((i + 1) * 2) (flatP (xs.drop i))).take ((xs.length + 1) * 2) = flatP (xs.take i ++ p :: xs.drop i) := by
 have e1 : (flatP (xs.drop i)).length = (xs.length - i) * 2 := by rw [flatP_len, List.length_drop]
 have e2 : (xs.length + 1) * 2 = (i + 1) * 2 + (flatP (xs.drop i)).length := by omega
 have hp : p.cells.length = 2 := rfl
 have hs : (splice ROW (i * 2) p.cells).length = ROW.length := length_splice _ _ _ (by omega)
 rw [e2, take_splice _ _ _ (by omega), show (i + 1) * 2 = i * 2 + p.cells.length by omega, take_splice _ _ _ (by omega), h0, flatP_app]
 show _ = flatP (xs.take i) ++ (p.cells ++ flatP (xs.drop i))
 rw [List.append_assoc]
theorem ins_room (cur : List Value) (xs : List P2) (p : P2) (i : Nat) (hi : i ≤ xs.length) (hl : (xs.length + 1) * 2 ≤ cur.length) (h0 : cur.take (xs.length * 2) = flatP xs) :
  (splice (splice cur ((i + 1) * 2) (flatP (xs.drop i))) (i * 2) p.cells).take ((xs.length + 1) * 2) = flatP (xs.take i ++ p :: xs.drop i) := by
 have e1 : (flatP (xs.drop i)).length = (xs.length - i) * 2 := by rw [flatP_len, List.length_drop]
 have hp : p.cells.length = 2 := rfl
 have hs : (splice cur ((i + 1) * 2) (flatP (xs.drop i))).length = cur.length := length_splice _ _ _ (by omega)
 have h3 : cur.take (i * 2) = flatP (xs.take i) := by
  have h4 : (cur.take (xs.length * 2)).take (i * 2) = cur.take (i * 2) := by rw [List.take_take, Nat.min_eq_left (by omega)]
  have h5 : flatP xs = flatP (xs.take i) ++ flatP (xs.drop i) := by rw [← flatP_app, List.take_append_drop]
  have h6 : (flatP (xs.take i)).length = i * 2 := by rw [flatP_len, List.length_take, Nat.min_eq_left hi]
  rw [← h4, h0, h5, List.take_append_of_le_length (by omega), List.take_of_length_le (by omega)]
 have e3 : flatP (xs.take i ++ p :: xs.drop i) = flatP (xs.take i) ++ (p.cells ++ flatP (xs.drop i)) := by rw [flatP_app]; rfl
 rw [e3, ← h3]
 have e5 : (xs.length + 1) * 2 = i * 2 + (2 + (flatP (xs.drop i)).length) := by omega
 have e6 : (splice cur ((i + 1) * 2) (flatP (xs.drop i))).drop (i * 2 + p.cells.length) = flatP (xs.drop i) ++ cur.drop ((i + 1) * 2 + (flatP (xs.drop i)).length) := by
  rw [show i * 2 + p.cells.length = (i + 1) * 2 by omega, drop_splice_at _ _ _ (by omega)]
 have e7 : (splice cur ((i + 1) * 2) (flatP (xs.drop i))).take (i * 2) = cur.take (i * 2) := take_splice_le _ _ _ _ (by omega) (by omega)
 generalize splice cur ((i + 1) * 2) (flatP (xs.drop i)) = L at *
 have h8 : (cur.take (i * 2)).length = i * 2 := by rw [List.length_take]; omega
 unfold splice
 rw [e6, e7, e5, List.take_append, h8, List.take_of_length_le (by omega), show i * 2 + (2 + (flatP (xs.drop i)).length) - i * 2 = 2 + (flatP (xs.drop i)).length by omega]
 congr 1
 rw [List.take_append, hp, List.take_of_length_le (by omega), show 2 + (flatP (xs.drop i)).length - 2 = (flatP (xs.drop i)).length by omega, List.take_append_of_le_length (by omega), List.take_of_length_le (by omega)]
theorem cell_of_blk {w : World} {b o : Nat} {cur : List Value} {t : TypeId} {v : Value} (h : w.heap[b]? = some (.cells cur.toArray t (0, 0))) (hv : cur[o]? = some v) : w.cell? ⟨b, o, none⟩ = some v := by
 simp [World.cell?, h, hv]
theorem flat_tail {cur : List Value} {xs : List P2} {i j : Nat} {v : Value} (hi : i ≤ xs.length) (ht : cur.take (xs.length * 2) = flatP xs) (hj : (flatP (xs.drop i))[j]? = some v) : cur[i * 2 + j]? = some v := by
 have h5 : flatP xs = flatP (xs.take i) ++ flatP (xs.drop i) := by rw [← flatP_app, List.take_append_drop]
 have h6 : (flatP (xs.take i)).length = i * 2 := by rw [flatP_len, List.length_take, Nat.min_eq_left hi]
 have h7 : (flatP xs)[i * 2 + j]? = some v := by rw [h5, List.getElem?_append_right (by omega), h6, Nat.add_sub_cancel_left]; exact hj
 rw [← ht, List.getElem?_take] at h7
 split at h7
 ·
  exact h7
 ·
  cases h7
theorem drop_len2 (xs : List P2) (i : Nat) : (flatP (xs.drop i)).length = (xs.length - i) * 2 := by rw [flatP_len, List.length_drop]
theorem p_one (p : P2) : ∀ v ∈ p.cells, v.oneCell' = true := fun v hv => flatP_one [p] v (by simp [flatP]; exact hv)
/-- The slice with p put in at place i: the call's own, in its old block or in a new one. -/
def InsPost (w : World) (S : Nat → Prop) (v : Value) (ys : List P2) (e : Ending) (w' : World) : Prop := ∃ v', e = .returned v' ∧ Own tP 92 w' S v' ys ∧ w.grownBy w' v.ownBlock ∧ (v'.ownBlock = v.ownBlock ∨ v'.ownBlock = some w.heap.size)
set_option maxRecDepth 20000 in
set_option maxHeartbeats 8000000 in
theorem insertA_calls (w : World) (S : Nat → Prop) (v : Value) (xs : List P2) (p : P2) (H : Nat) (hown : Own tP 92 w S v xs) (hs : xs.length ≤ 1000000) (hH : w.heap[H]? = some (.cells #[.int .i64 p.x, .int .i64 p.y] 92 (0, 0))) (hne : v.ownBlock ≠ some H) (hSH : S H) (hnew : S w.heap.size) :
  Calls Tryz.prog 115 #[v, .int .i64 xs.length, .slice (some ⟨H, 0, none⟩) 1 1] w (InsPost w S v (xs ++ [p])) := by
 obtain ⟨A, c, rfl⟩ := hown.slice
 obtain ⟨_, hnc, hcm, hA0⟩ := hown.row.n_eq
 unfold maxLen at hcm
 have HB := Lib.hid (show Row tP w (fun k => k = H) (.slice (some ⟨H, 0, none⟩) 1 1) [p] from ⟨_, _, rfl, Nat.le_refl _, by unfold maxLen; omega, by simp, .inr ⟨H, 0, rfl, rfl, heap_lt hH, fun j x hj => ⟨p.cells, by
  rcases j with _ | j
  ·
   simp at hj; subst hj; rfl
  ·
   simp at hj, fun i u hu => by
  rcases j with _ | j
  ·
   rcases i with _ | _ | i <;> simp [P2.cells] at hu <;> simp [World.cell?, hH, hu]
  ·
   simp at hj⟩⟩⟩)
 have HO := Lib.hid hown
 have HN := Lib.hid hne
 clear hown hH hne
 have B1 : (xs.length + [p].length) * 16 ≤ 140737488355328 := by simp; omega
 have B2 : xs.length + [p].length ≤ maxLen := by simp [maxLen]; omega
 have B3 := Lib.hid (And.intro B1 B2)
 clear B1 B2
 by_cases hcc : c = xs.length
 all_goals
  go_enter Tryz.func115, Tryz.ntmps115
  go_wp2_with (at_builtin; refine wpList_own_append (ty := tP) (W := w) (S := S) (Sy := fun k => k = H) (v := .slice A xs.length c) (xs := xs) (ys := [p]) rfl _ _ 47 92 16 _ rfl elemPairs rfl HO.out _ _ _ rfl HB.out rfl B3.out.1 B3.out.2 hnew (fun k h _ => ⟨h ▸ hSH, h ▸ HN.out⟩) ?_)
  intro v' w' h1 h2 h3
  obtain ⟨A', c', rfl⟩ := h1.slice
  have H1 := Lib.hid h1
  have H2 := Lib.hid h2
  have H3 := Lib.hid h3
  clear h1 h2 h3
  generalize hL : (xs ++ [p]).length = L at *
  have HL := Lib.hid hL
  clear hL
  go_wp2
  refine bodyPost_ret (v := .slice A' L c') (by simp [results, Tryz.results115, go_sem]; try rfl) rfl ?_
  first | exact ⟨_, rfl, H1.out, H2.out, H3.out⟩ | (subst hcc; exact ⟨_, rfl, H1.out, H2.out, H3.out⟩)
set_option maxRecDepth 20000 in
set_option maxHeartbeats 8000000 in
theorem insertB_calls (w : World) (S : Nat → Prop) (g i H : Nat) (xs : List P2) (p : P2) (hown : Own tP 92 w S (.slice (some ⟨g, 0, none⟩) xs.length xs.length) xs) (hi : i < xs.length) (hs : xs.length ≤ 1000000) (hH : w.heap[H]? = some (.cells #[.int .i64 p.x, .int .i64 p.y] 92 (0, 0))) (hne : g ≠ H) (hnew : S w.heap.size) :
  Calls Tryz.prog 115 #[.slice (some ⟨g, 0, none⟩) xs.length xs.length, .int .i64 i, .slice (some ⟨H, 0, none⟩) 1 1] w (InsPost w S (.slice (some ⟨g, 0, none⟩) xs.length xs.length) (xs.take i ++ p :: xs.drop i)) := by
 obtain ⟨cur, hg, _, hnc, hcm, hcl, htk, hSg⟩ := hown.toCells
 have hgw := heap_lt hg
 have hHw := heap_lt hH
 obtain ⟨i0, hi0, hz0⟩ := Option.map_eq_some_iff.1 elemPairs.info
 simp only [Prod.mk.injEq] at hz0
 obtain ⟨hz0, hz1, hz2⟩ := hz0
 have hz1 : i0.size = 2 := hz1
 have HSZ := Lib.hid (show (Tryz.prog.info? 92).map (·.size) = some 2 by rw [hi0]; simp [hz1])
 have hti : flatP xs = flatP (xs.take i) ++ flatP (xs.drop i) := by rw [← flatP_app, List.take_append_drop]
 have hli : (flatP (xs.take i)).length = i * 2 := by rw [flatP_len, List.length_take, Nat.min_eq_left (by omega)]
 have hci : cur.take (i * 2) = flatP (xs.take i) := by
  have h4 : (cur.take (xs.length * 2)).take (i * 2) = cur.take (i * 2) := by rw [List.take_take, Nat.min_eq_left (by omega)]
  rw [← h4, htk, hti, List.take_append_of_le_length (by omega), List.take_of_length_le (by omega)]
 have hold : (Builtin.firstCells i0.size i (.slice (some ⟨g, 0, none⟩) i xs.length)).run Tryz.prog w.drew = .ok (flatP (xs.take i)).toArray w.drew := by
  rw [hz1]
  exact run_firstCells_some (P := Tryz.prog) w.drew 2 i ⟨g, 0, none⟩ i xs.length (flatP (xs.take i)) hli (fun j v hj => by
   rw [Addr.add_lit]
   show w.cell? _ = _
   have hj2 : j < i * 2 := by rw [← hli]; exact (List.getElem?_eq_some_iff.1 hj).1
   rw [← hci, List.getElem?_take, if_pos hj2] at hj
   simp [World.cell?, hg, hj])
 have HRZ := Lib.hid (show ∀ ty, (Builtin.append_ #[47, 3] ty #[.slice (some ⟨g, 0, none⟩) i xs.length, .int .i64 ((xs.length : Int) + 1 - (i : Int))]).run Tryz.prog w =
   .ok (.slice (some ⟨w.heap.size, 0, none⟩) (xs.length + 1) (grownCap w (xs.length + 1) xs.length 92)) (w.drew.alloc (.cells ((flatP (xs.take i)).toArray ++ Builtin.zeroCells (Value.agg #[.int .i64 0, .int .i64 0]).cells (xs.length + 1 - i) ++ Builtin.zeroCells (Value.agg #[.int .i64 0, .int .i64 0]).cells (grownCap w (xs.length + 1) xs.length 92 - (xs.length + 1))) 92)) from fun ty => by
  have h := Lib.run_append_grow_zeros (P := Tryz.prog) w 47 3 ty 92 i0 _ .i64 .i64 Tryz.underlying47 Tryz.underlying3 hi0 hz0 (some ⟨g, 0, none⟩) i xs.length (flatP (xs.take i)) hold (xs.length + 1 - i) (by omega) (by omega) (by omega) (by omega) (by rw [hz2]; omega) (by rw [hz2, show i + (xs.length + 1 - i) = xs.length + 1 by omega]; exact growslice_fits (by omega) (by omega))
  rw [show i + (xs.length + 1 - i) = xs.length + 1 by omega] at h
  rw [show (xs.length : Int) + 1 - (i : Int) = ((xs.length + 1 - i : Nat) : Int) by omega]
  exact h)
 obtain ⟨G, hG⟩ : ∃ G, G = grownCap w (xs.length + 1) xs.length 92 := ⟨_, rfl⟩
 have hGn : xs.length + 1 ≤ G := by rw [hG]; exact grownCap_ge w _ _ _
 have hGm : G ≤ maxLen := by rw [hG]; exact grownCap_le_maxLen w _ _ _ (by unfold maxLen; omega)
 rw [← hG] at HRZ
 clear hG
 obtain ⟨ROW, hROW⟩ : ∃ ROW : List Value, ROW.toArray = (flatP (xs.take i)).toArray ++ Builtin.zeroCells (Value.agg #[.int .i64 0, .int .i64 0]).cells (xs.length + 1 - i) ++ Builtin.zeroCells (Value.agg #[.int .i64 0, .int .i64 0]).cells (G - (xs.length + 1)) := ⟨_, Array.toArray_toList⟩
 have hRl : ROW.length = G * 2 := by
  rw [← List.size_toArray, hROW]
  simp [Builtin.zeroCells, Value.cells, hli]
  omega
 have hRt : ROW.take (i * 2) = flatP (xs.take i) := by
  have := congrArg Array.toList hROW
  simp only [List.toList_toArray, Array.toList_append, List.append_assoc] at this
  rw [this, List.take_append_of_le_length (by omega), List.take_of_length_le (by omega)]
 rw [← hROW] at HRZ
 obtain ⟨W1, hW1⟩ : ∃ W1, W1 = w.drew.alloc (.cells ROW.toArray 92) := ⟨_, rfl⟩
 rw [← hW1] at HRZ
 have hs1 : W1.heap.size = w.heap.size + 1 := by rw [hW1]; simp
 have hN1 := Lib.hid (show W1.heap[w.heap.size]? = some (.cells ROW.toArray 92 (0, 0)) by rw [hW1]; exact heap_alloc_new w.drew _)
 have hO1 := Lib.hid (show w.grownBy W1 none by rw [hW1]; exact ⟨rfl, rfl, rfl, by simp, fun k hk _ => (Below.heap_alloc w.drew _ k hk)⟩)
 clear hROW hold hi0 hz0 hz1 hz2 hci hli hW1
 have HH := Lib.hid hH
 have HG := Lib.hid hg
 have HT := Lib.hid htk
 have HTI := Lib.hid hti
 have HR := Lib.hid hRt
 have HRL := Lib.hid hRl
 have HCL := Lib.hid hcl
 clear hH hg htk hti hRt hRl hcl hown
 have hz1 : ¬ ((i : Int) = (xs.length : Int)) := by omega
 unfold maxLen at hcm
 have HGM := Lib.hid hGm
 unfold maxLen at hGm
 go_enter Tryz.func115, Tryz.ntmps115
 go_wp2_with (first
  | (at_builtin; refine Lib.wpList_append_run _ rfl _ _ 47 3 rfl _ _ rfl rfl _ _ (HRZ.out _) ?_)
  | (refine wpList_copyN rfl (.tmp 43) (.tmp 44) 47 47 rfl 92 2 Tryz.underlying47 HSZ.out w.heap.size (i * 2) (xs.length + 1 - i) (G - i) H 0 1 1 rfl rfl ROW 92 hN1.out p.cells ?n1 ?src1 ?fit1 ?one1 ?_))
 case n1 => show 2 = Nat.min 1 _ * 2; rw [show Nat.min 1 (xs.length + 1 - i) = 1 from Nat.min_eq_left (by omega)]
 case src1 =>
  intro j v hj
  have h1 : W1.heap[H]? = w.heap[H]? := hO1.out.block H hHw (by simp)
  exact cell_of_blk (cur := p.cells) (h1.trans HH.out) (by first | exact hj | (rw [Nat.zero_add]; exact hj))
 case fit1 => rw [HRL.out]; simp [P2.cells]; omega
 case one1 => exact p_one p
 intro w2 hN2 hO2 hs2
 have HG2 := Lib.hid (show w2.heap[g]? = some (.cells cur.toArray 92 (0, 0)) from (hO2.out.block g (by omega) (by simp; omega)).trans ((hO1.out.block g hgw (by simp)).trans HG.out))
 have hb1 : (0 : Int) ≤ (i : Int) + 1 := by omega
 have htn : ((i : Int) + 1).toNat = i + 1 := by omega
 have hw1 : IntKind.i64.wrap ((i : Int) + 1) = (i : Int) + 1 := by rw [IntKind.wrap_i64]; omega
 have hgi : ¬ (G = i + 1) := by omega
 have hni : ¬ (xs.length = i) := by omega
 have hbd : (i : Int) ≤ (xs.length : Int) := by omega
 go_wp2_with fail
 refine wp_region_sched [(0, true), (1, true), (2, true), (3, true), (4, true), (5, true), (6, true), (7, true), (8, false)] (fun _ => True) (by kernel_rfl) (by kernel_rfl) ?_
 repeat (refine sched_take (v := ?_) (by simp only [opT, opS, opZ]; rfl) (Or.inl ⟨by rfl, fun W hW => ?_⟩) trivial ?_; rotate_left; (skip; clear hW; go_simp; with_reducible rfl); simp only [Act.put, putT, putZ, putS])
 refine sched_step (by simp only [opT, opS, opZ]; rfl) ?_
 refine wpList_copyN rfl (.tmp 50) (.tmp 53) 47 47 rfl 92 2 Tryz.underlying47 HSZ.out w.heap.size ((i + 1) * 2) (xs.length - i) (G - (i + 1)) g (i * 2) (xs.length - i) (xs.length - i) ?v1 ?v2 (splice ROW (i * 2) p.cells) 92 hN2.out (flatP (xs.drop i)) ?n1 ?src1 ?fit1 ?one1 ?_
 case v1 => go_simp
 case v2 => go_simp
 case n1 => rw [drop_len2, show Nat.min (xs.length - i) (xs.length - i) = xs.length - i from Nat.min_self _]
 case src1 => intro j v hj; exact cell_of_blk HG2.out (flat_tail (by omega) HT.out hj)
 case fit1 => rw [length_splice _ _ _ (by rw [HRL.out]; simp [P2.cells]; omega), HRL.out, drop_len2]; omega
 case one1 => exact flatP_one _
 intro w3 hN3 hO3 hs3
 refine sched_on trivial ?_
 refine sched_done ?_
 have HOW := Lib.hid (Own.ofCells (S := S) (xs := xs.take i ++ p :: xs.drop i) (c := G) _ hN3.out (by simp; omega) HGM.out (by rw [length_splice _ _ _ (by rw [length_splice _ _ _ (by rw [HRL.out]; simp [P2.cells]; omega), HRL.out, drop_len2]; omega), length_splice _ _ _ (by rw [HRL.out]; simp [P2.cells]; omega), HRL.out]) (by
  have e : (xs.take i ++ p :: xs.drop i).length = xs.length + 1 := by simp; omega
  rw [e]
  exact ins_new ROW xs p i (by omega) (by rw [HRL.out]; omega) HR.out) hnew)
 rw [show (xs.take i ++ p :: xs.drop i).length = xs.length + 1 by simp; omega] at HOW
 have HGR := Lib.hid (show w.grownBy w3 none from ⟨hO3.out.os.trans (hO2.out.os.trans hO1.out.os), hO3.out.tape.trans (hO2.out.tape.trans hO1.out.tape), hO3.out.output.trans (hO2.out.output.trans hO1.out.output), by rw [hs3]; simp; omega, fun k hk _ => by
  rw [hO3.out.block k (by simp; omega) (by simp; omega)]
  exact (hO2.out.block k (by omega) (by simp; omega)).trans (hO1.out.block k hk (by simp))⟩)
 clear hN2 hO2 hN3 hO3 hs3 HG2
 go_wp2
 refine bodyPost_ret (v := .slice (some ⟨w.heap.size, 0, none⟩) (xs.length + 1) G) (by simp [results, Tryz.results115, go_sem]; try rfl) rfl ?_
 exact ⟨_, rfl, HOW.out, ⟨HGR.out.os, HGR.out.tape, HGR.out.output, HGR.out.size, fun k hk _ => HGR.out.block k hk (by simp)⟩, .inr rfl⟩
set_option maxRecDepth 20000 in
set_option maxHeartbeats 8000000 in
theorem insertC_calls (w : World) (S : Nat → Prop) (g i c H : Nat) (xs : List P2) (p : P2) (hown : Own tP 92 w S (.slice (some ⟨g, 0, none⟩) xs.length c) xs) (hi : i < xs.length) (hroom : xs.length < c) (hs : xs.length ≤ 1000000) (hH : w.heap[H]? = some (.cells #[.int .i64 p.x, .int .i64 p.y] 92 (0, 0))) (hne : g ≠ H) :
  Calls Tryz.prog 115 #[.slice (some ⟨g, 0, none⟩) xs.length c, .int .i64 i, .slice (some ⟨H, 0, none⟩) 1 1] w (InsPost w S (.slice (some ⟨g, 0, none⟩) xs.length c) (xs.take i ++ p :: xs.drop i)) := by
 obtain ⟨cur, hg, _, hnc, hcm, hcl, htk, hSg⟩ := hown.toCells
 have hgw := heap_lt hg
 have hHw := heap_lt hH
 obtain ⟨i0, hi0, hz0⟩ := Option.map_eq_some_iff.1 elemPairs.info
 simp only [Prod.mk.injEq] at hz0
 obtain ⟨hz0, hz1, hz2⟩ := hz0
 have hz1 : i0.size = 2 := hz1
 have HSZ := Lib.hid (show (Tryz.prog.info? 92).map (·.size) = some 2 by rw [hi0]; simp [hz1])
 have hov : ∀ lb cb, (callFunc 127 #[.slice (some ⟨H, 0, none⟩) 1 1, .slice (some ⟨g, (i + 1) * 2, none⟩) lb cb]).run Tryz.prog w = .ok (.value (.bool false)) w := fun lb cb => by
  rw [run_callFunc_extern Tryz.func127 (by kernel_rfl) (by kernel_rfl) (by kernel_rfl) (e := Extern.SlicesOverlaps.overlaps #[47, 47] #[4]) (by kernel_rfl),
   Lib.run_overlaps_apart w 47 4 92 Tryz.underlying47 2 (fun w => by simp [Go.sizeOf, typeInfo, hi0, hz1]) ⟨H, 0, none⟩ ⟨g, (i + 1) * 2, none⟩ 1 1 lb cb (fun e => hne e.symm) 92 92 2 (c * 2) (by simp [World.shape?, hH]) (by simp [World.shape?, hg, hcl]) (by omega) (by simp [World.frozen?, hH]) (by simp [World.frozen?, hH])]
  rfl
 clear hi0 hz0 hz1 hz2
 have HH := Lib.hid hH
 have HG := Lib.hid hg
 have HT := Lib.hid htk
 have HCL := Lib.hid hcl
 have HCM := Lib.hid hcm
 clear hH hg htk hcl hown
 have hz1 : ¬ ((i : Int) = (xs.length : Int)) := by omega
 have hz3 : ¬ ((c : Int) < (xs.length : Int) + 1) := by omega
 unfold maxLen at hcm
 have hb1 : (0 : Int) ≤ (i : Int) + 1 := by omega
 have htn : ((i : Int) + 1).toNat = i + 1 := by omega
 have htn2 : ((xs.length : Int) + 1).toNat = xs.length + 1 := by omega
 have hw1 : IntKind.i64.wrap ((i : Int) + 1) = (i : Int) + 1 := by rw [IntKind.wrap_i64]; omega
 have hw2 : IntKind.i64.wrap ((xs.length : Int) + 1) = (xs.length : Int) + 1 := by rw [IntKind.wrap_i64]; omega
 have hci : ¬ (c = i + 1) := by omega
 have hci2 : ¬ (c = i) := by omega
 have hbd : (i : Int) ≤ (xs.length : Int) := by omega
 have hbd2 : (i : Int) ≤ (xs.length : Int) + 1 := by omega
 have hbd3 : (xs.length : Int) + 1 ≤ (c : Int) := by omega
 go_enter Tryz.func115, Tryz.ntmps115
 go_wp2_with (simp only [hov])
 refine wp_region_sched [(0, true), (1, true), (2, true), (3, true), (4, true), (5, true), (6, true), (7, true), (8, false)] (fun _ => True) (by kernel_rfl) (by kernel_rfl) ?_
 repeat (refine sched_take (v := ?_) (by simp only [opT, opS, opZ]; rfl) (Or.inl ⟨by rfl, fun W hW => ?_⟩) trivial ?_; rotate_left; (skip; clear hW; go_simp; with_reducible rfl); simp only [Act.put, putT, putZ, putS])
 refine sched_step (by simp only [opT, opS, opZ]; rfl) ?_
 refine wpList_copyN rfl (.tmp 73) (.tmp 76) 47 47 rfl 92 2 Tryz.underlying47 HSZ.out g ((i + 1) * 2) (xs.length - i) (c - (i + 1)) g (i * 2) (xs.length + 1 - i) (c - i) ?v1 ?v2 cur 92 HG.out (flatP (xs.drop i)) ?n1 ?src1 ?fit1 ?one1 ?_
 case v1 => go_simp
 case v2 => go_simp
 case n1 => rw [drop_len2, show Nat.min (xs.length + 1 - i) (xs.length - i) = xs.length - i from Nat.min_eq_right (by omega)]
 case src1 => intro j v hj; exact cell_of_blk HG.out (flat_tail (by omega) HT.out hj)
 case fit1 => rw [HCL.out, drop_len2]; omega
 case one1 => exact flatP_one _
 intro w2 hN2 hO2 hs2
 have hs2 : w2.heap.size = w.heap.size := hs2
 have hO2 := Lib.hid (show w.grownBy w2 (some g) from ⟨hO2.out.os, hO2.out.tape, hO2.out.output, hO2.out.size, hO2.out.block⟩)
 have HH2 := Lib.hid (show w2.heap[H]? = some (.cells #[.int .i64 p.x, .int .i64 p.y] 92 (0, 0)) from (hO2.out.block H hHw (by simp; omega)).trans HH.out)
 refine sched_on trivial ?_
 refine sched_done ?_
 go_wp2_with (refine wpList_copyN rfl (.tmp 80) (.tmp 81) 47 47 rfl 92 2 Tryz.underlying47 HSZ.out g (i * 2) (xs.length + 1 - i) (c - i) H 0 1 1 rfl rfl (splice cur ((i + 1) * 2) (flatP (xs.drop i))) 92 hN2.out p.cells ?n1 ?src1 ?fit1 ?one1 ?_)
 case n1 => show 2 = Nat.min 1 _ * 2; rw [show Nat.min 1 (xs.length + 1 - i) = 1 from Nat.min_eq_left (by omega)]
 case src1 =>
  intro j v hj
  exact cell_of_blk (cur := p.cells) HH2.out (by first | exact hj | (rw [Nat.zero_add]; exact hj))
 case fit1 => rw [length_splice _ _ _ (by rw [HCL.out, drop_len2]; omega), HCL.out]; simp [P2.cells]; omega
 case one1 => exact p_one p
 intro w3 hN3 hO3 hs3
 have HOW := Lib.hid (Own.ofCells (S := S) (xs := xs.take i ++ p :: xs.drop i) (c := c) _ hN3.out (by simp; omega) HCM.out (by rw [length_splice _ _ _ (by rw [length_splice _ _ _ (by rw [HCL.out, drop_len2]; omega), HCL.out]; simp [P2.cells]; omega), length_splice _ _ _ (by rw [HCL.out, drop_len2]; omega), HCL.out]) (by
  have e : (xs.take i ++ p :: xs.drop i).length = xs.length + 1 := by simp; omega
  rw [e]
  exact ins_room cur xs p i (by omega) (by rw [HCL.out]; omega) HT.out) hSg)
 rw [show (xs.take i ++ p :: xs.drop i).length = xs.length + 1 by simp; omega] at HOW
 have HGR := Lib.hid (World.grownBy.trans hO2.out hO3.out)
 clear hN2 hO2 hN3 hO3
 go_wp2
 refine bodyPost_ret (v := .slice (some ⟨g, 0, none⟩) (xs.length + 1) c) (by simp [results, Tryz.results115, go_sem]; try rfl) rfl ?_
 exact ⟨_, rfl, HOW.out, HGR.out, .inl rfl⟩
/-- slices.Insert, whichever way it goes. -/
theorem insert_calls (w : World) (S : Nat → Prop) (v : Value) (xs : List P2) (p : P2) (i H : Nat) (hown : Own tP 92 w S v xs) (hi : i ≤ xs.length) (hs : xs.length ≤ 1000000) (hH : w.heap[H]? = some (.cells #[.int .i64 p.x, .int .i64 p.y] 92 (0, 0))) (hne : v.ownBlock ≠ some H) (hSH : S H) (hnew : S w.heap.size) :
  Calls Tryz.prog 115 #[v, .int .i64 i, .slice (some ⟨H, 0, none⟩) 1 1] w (InsPost w S v (xs.take i ++ p :: xs.drop i)) := by
 rcases Nat.lt_or_ge i xs.length with h1 | h1
 ·
  obtain ⟨A, c, rfl⟩ := hown.slice
  obtain ⟨g, rfl, _, _⟩ := hown.head (by omega)
  have hc := hown.row.n_eq.2.1
  have hne' : g ≠ H := fun e => hne (by rw [e]; rfl)
  rcases Nat.lt_or_ge xs.length c with h2 | h2
  ·
   exact insertC_calls w S g i c H xs p hown h1 h2 hs hH hne'
  ·
   obtain rfl : c = xs.length := by omega
   exact insertB_calls w S g i H xs p hown h1 hs hH hne' hnew
 ·
  obtain rfl : i = xs.length := by omega
  rw [List.take_length, List.drop_length]
  exact insertA_calls w S v xs p H hown hs hH hne hSH hnew
end Go.Proofs.YtpehmmdbjakkpaaGreat


