/- slices.Delete of one property of a slice of the call's own. -/
import Derived.Test.YtpehmmdbjakkpaaInsertP
import Derived.Test.YtpehmmdbjakkpaaClear
namespace Go.Proofs.Ytpehmmdbjakkpaa
open Go.RowKit Go.Shelf
set_option linter.unusedSimpArgs false
set_option linter.unusedVariables false
theorem zeroPair (w : World) : (zeroValue 47).run Try.prog w = .ok (.agg #[.int .i64 0, .int .i64 0]) w := by
  obtain ⟨i0, hi0, hz0⟩ := Option.map_eq_some_iff.1 elemPairs.info
  simp only [Prod.mk.injEq] at hz0
  simp [zeroValue, typeInfo, hi0, hz0.1]
/-- What stands behind it. -/
def DelPost (w : World) (S : Nat → Prop) (g n c i : Nat) (xs : List P2) (e : Ending) (w' : World) : Prop := e = .returned (.slice (some ⟨g, 0, none⟩) (n - 1) c) ∧ Own tP 47 w' S (.slice (some ⟨g, 0, none⟩) (n - 1) c) (xs.take i ++ xs.drop (i + 1)) ∧ w.grownBy w' (some g)
theorem setCells_grown (w : World) (g o : Nat) (vs : List Value) : w.grownBy (w.setCells g o vs) (some g) := by
  have hb := setCells_below (B := 0) (g := g) (Nat.zero_le _) vs o w (Below.refl 0 w)
  exact ⟨hb.os, hb.tape, hb.output, hb.size, fun k hk hne => setCells_heap vs o w k (fun e => hne (by rw [e]))⟩
set_option maxRecDepth 20000 in
set_option maxHeartbeats 8000000 in
theorem deleteP_calls (w : World) (S : Nat → Prop) (g c i n : Nat) (xs : List P2) (hown : Own tP 47 w S (.slice (some ⟨g, 0, none⟩) n c) xs) (hi : i < n) (hs : n ≤ 1000000) :
    Calls Try.prog 89 #[.slice (some ⟨g, 0, none⟩) n c, .int .i64 i, .int .i64 ((i : Int) + 1)] w (DelPost w S g n c i xs) := by
  obtain ⟨cur, hg, hn, hnc, hcm, hcl, htk, hSg⟩ := hown.toCells
  have hgw := heap_lt hg
  obtain ⟨i0, hi0, hz0⟩ := Option.map_eq_some_iff.1 elemPairs.info
  simp only [Prod.mk.injEq] at hz0
  have hz1 : i0.size = 2 := hz0.2.1
  have hti : flatP xs = flatP (xs.take i) ++ flatP (xs.drop i) := by rw [← flatP_app, List.take_append_drop]
  have hli : (flatP (xs.take i)).length = i * 2 := by rw [flatP_len, List.length_take, Nat.min_eq_left (by omega)]
  have hci : cur.take (i * 2) = flatP (xs.take i) := by
    have h4 : (cur.take (n * 2)).take (i * 2) = cur.take (i * 2) := by rw [List.take_take, Nat.min_eq_left (by omega)]
    rw [← h4, htk, hti, List.take_append_of_le_length (by omega), List.take_of_length_le (by omega)]
  have HOR := Lib.hid (show w.ownsRow 0 47 2 (.slice (some ⟨g, 0, none⟩) i c) i (flatP (xs.take i)) from ⟨hli, .inr ⟨g, c, cur.toArray, rfl, Nat.zero_le _, hg, by omega, hcm, by rw [List.size_toArray, hcl], by rw [List.toList_toArray]; exact hci⟩⟩)
  have HSRC := Lib.hid (show ∀ (o j : Nat) (v : Value), (i + 1 < n → o = (i + 1) * 2) → (flatP (xs.drop (i + 1)))[j]? = some v → w.cell? ⟨g, o + j, none⟩ = some v from fun o j v ho hj => by
    have hl : j < (xs.length - (i + 1)) * 2 := by rw [← drop_len2]; exact (List.getElem?_eq_some_iff.1 hj).1
    rw [ho (by omega)]
    exact cell_of_blk hg (flat_tail (i := i + 1) (by omega) (hn ▸ htk) hj))
  have HI0 := Lib.hid hi0
  have HZ1 := Lib.hid hz1
  have HSg := Lib.hid hSg
  have HLN := Lib.hid hn
  have HDL := Lib.hid (show (flatP (xs.drop (i + 1))).length = (n - (i + 1)) * 2 by rw [drop_len2, hn])
  have HAF := Lib.hid (show ∀ (w' : World), w'.ownsRow 0 47 2 (.slice (some ⟨g, 0, none⟩) (i + (n - (i + 1))) c) (i + (n - (i + 1))) (flatP (xs.take i) ++ flatP (xs.drop (i + 1))) → Own tP 47 w' S (.slice (some ⟨g, 0, none⟩) (n - 1) c) (xs.take i ++ xs.drop (i + 1)) from fun w' h => by
    have e : i + (n - (i + 1)) = n - 1 := by omega
    rw [e, ← flatP_app] at h
    refine ⟨fun k hk => by simp [Value.ownBlock] at hk; subst hk; exact hSg, flatP (xs.take i ++ xs.drop (i + 1)), ?_, fun j x hj => ?_⟩
    · rw [show (xs.take i ++ xs.drop (i + 1)).length = n - 1 by simp; omega]
      exact h
    · show ((flatP _).drop (j * 2)).take 2 = x.cells
      exact flatP_at _ j x hj)
  have HCM := Lib.hid hcm
  clear hz0 hz1 hi0 hti hli hci hg htk hown hcl hn
  unfold maxLen at hcm
  have hle1 : (i : Int) ≤ (i : Int) + 1 := by omega
  have hb1 : (0 : Int) ≤ (i : Int) + 1 := by omega
  have htn : ((i : Int) + 1).toNat = i + 1 := by omega
  have hw1 : IntKind.i64.wrap ((i : Int) + 1) = (i : Int) + 1 := by rw [IntKind.wrap_i64]; omega
  have hne : ¬ ((i : Int) = (i : Int) + 1) := by omega
  have FIN := Lib.hid (show ∀ w1 : World, Own tP 47 w1 S (.slice (some ⟨g, 0, none⟩) (n - 1) c) (xs.take i ++ xs.drop (i + 1)) → ∃ vs : List Value, (∀ ty, (Builtin.clear_ #[30] ty #[.slice (some ⟨g, (n - 1) * 2, none⟩) (n - (n - 1)) (c - (n - 1))]).run Try.prog w1 = .ok (.tuple #[]) (w1.setCells g ((n - 1) * 2) vs)) ∧ Own tP 47 (w1.setCells g ((n - 1) * 2) vs) S (.slice (some ⟨g, 0, none⟩) (n - 1) c) (xs.take i ++ xs.drop (i + 1)) from fun w1 h => by
    obtain ⟨cur1, hg1, hn1, _, _, hcl1, _, _⟩ := h.toCells
    obtain ⟨vs, hvl, hcl⟩ := run_clearN w1 30 47 (.agg #[.int .i64 0, .int .i64 0]) Try.underlying30 zeroPair (by intro u hu; simp [Value.cells] at hu; rcases hu with rfl | rfl <;> rfl) (by decide) g ((n - 1) * 2) (n - (n - 1)) (c - (n - 1))
      (fun q hq => by
        have h1 : q < (n - (n - 1)) * 2 := hq
        have hl : (n - 1) * 2 + q < cur1.length := by rw [hcl1]; omega
        rw [cell_of_blk hg1 (List.getElem?_eq_getElem hl)]; rfl) (fun q hq => h.frozenC _)
    refine ⟨vs, hcl, ?_⟩
    have h3 := h.cutTail (i := n - 1) (Nat.le_refl _) vs
    have h4 : (xs.take i ++ xs.drop (i + 1)).take (n - 1) = xs.take i ++ xs.drop (i + 1) := List.take_of_length_le (by rw [← hn1]; exact Nat.le_refl _)
    rw [h4] at h3
    exact h3)
  have hbd : (i : Int) + 1 ≤ (n : Int) := by omega
  have hbd2 : (i : Int) ≤ (c : Int) := by omega
  have hbd3 : (i : Int) ≤ (n : Int) := by omega
  have hci2 : ¬ c = i := by omega
  have hnc2 : (n : Int) ≤ (c : Int) := by omega
  rcases (by omega : (c = i + 1 ∧ n = i + 1) ∨ ¬ c = i + 1) with ⟨rfl, rfl⟩ | hcb
  · skip
    go_enter Try.func89, Try.ntmps89
    go_wp2_with fail
    refine wp_region_sched [(0, true), (1, true), (2, true), (3, true), (4, true), (5, true), (6, false), (7, true)] (fun _ => True) (by kernel_rfl) (by kernel_rfl) ?_
    repeat (refine sched_take (v := ?_) (by simp only [List.getElem?_toArray, List.getElem?_cons_succ, List.getElem?_cons_zero]; rfl) (Or.inl ⟨by rfl, fun W hW => ?_⟩) trivial ?_; rotate_left; (skip; clear hW; go_simp; with_reducible rfl); simp only [Act.put, List.setIfInBounds_toArray, List.set_cons_zero, List.set_cons_succ])
    refine sched_step (by simp only [List.getElem?_toArray, List.getElem?_cons_succ, List.getElem?_cons_zero]; rfl) ?_
    refine wpList_append_fits w.drew rfl (.tmp 22) (.tmp 25) 30 rfl 0 47 i0 2 Try.underlying30 HI0.out HZ1.out g i (i + 1) (flatP (xs.take i)) rfl HOR.out ⟨g, 0, none⟩ 0 0 (flatP (xs.drop (i + 1))) rfl (by rw [HDL.out]; omega) (fun j u hj => by rw [Addr.add_lit]; exact HSRC.out _ j u (fun h => by omega) hj) (flatP_one _) (by omega) ?_
    intro w1 hor hgr
    have HO1 := Lib.hid (HAF.out w1 (by rw [Nat.sub_self]; exact hor))
    obtain ⟨vs, hcl, ho2⟩ := FIN.out w1 HO1.out
    have HG2 := Lib.hid (show w.grownBy (w1.setCells g ((i + 1 - 1) * 2) vs) (some g) from World.grownBy.trans (show w.grownBy w1 (some g) from ⟨hgr.os, hgr.tape, hgr.output, hgr.size, hgr.block⟩) (setCells_grown w1 g _ vs))
    have HO2 := Lib.hid ho2
    clear ho2 hor hgr FIN HAF HO1
    simp only [Nat.add_sub_cancel, Nat.add_sub_cancel_left, Nat.add_zero] at hcl HO2 HG2 ⊢
    refine sched_on trivial ?_
    repeat (refine sched_take (v := ?_) (by simp only [List.getElem?_toArray, List.getElem?_cons_succ, List.getElem?_cons_zero]; rfl) (Or.inl ⟨by rfl, fun W hW => ?_⟩) trivial ?_; rotate_left; (skip; clear hW; go_simp; with_reducible rfl); simp only [Act.put, List.setIfInBounds_toArray, List.set_cons_zero, List.set_cons_succ])
    refine sched_done ?_
    go_wp2
    refine bodyPost_ret (v := .slice (some ⟨g, 0, none⟩) i (i + 1)) (by simp [results, Try.results89, go_sem]; try rfl) rfl ?_
    exact ⟨by simp, HO2.out, HG2.out⟩
  · skip
    go_enter Try.func89, Try.ntmps89
    go_wp2_with fail
    refine wp_region_sched [(0, true), (1, true), (2, true), (3, true), (4, true), (5, true), (6, false), (7, true)] (fun _ => True) (by kernel_rfl) (by kernel_rfl) ?_
    repeat (refine sched_take (v := ?_) (by simp only [List.getElem?_toArray, List.getElem?_cons_succ, List.getElem?_cons_zero]; rfl) (Or.inl ⟨by rfl, fun W hW => ?_⟩) trivial ?_; rotate_left; (skip; clear hW; go_simp; with_reducible rfl); simp only [Act.put, List.setIfInBounds_toArray, List.set_cons_zero, List.set_cons_succ])
    refine sched_step (by simp only [List.getElem?_toArray, List.getElem?_cons_succ, List.getElem?_cons_zero]; rfl) ?_
    refine wpList_append_fits w.drew rfl (.tmp 22) (.tmp 25) 30 rfl 0 47 i0 2 Try.underlying30 HI0.out HZ1.out g i c (flatP (xs.take i)) rfl HOR.out ⟨g, (i + 1) * 2, none⟩ (n - (i + 1)) (c - (i + 1)) (flatP (xs.drop (i + 1))) rfl HDL.out (fun j u hj => by rw [Addr.add_lit]; exact HSRC.out _ j u (fun _ => rfl) hj) (flatP_one _) (by omega) ?_
    intro w1 hor hgr
    have HO1 := Lib.hid (HAF.out w1 hor)
    obtain ⟨vs, hcl, ho2⟩ := FIN.out w1 HO1.out
    have HG2 := Lib.hid (show w.grownBy (w1.setCells g ((n - 1) * 2) vs) (some g) from World.grownBy.trans (show w.grownBy w1 (some g) from ⟨hgr.os, hgr.tape, hgr.output, hgr.size, hgr.block⟩) (setCells_grown w1 g _ vs))
    have HO2 := Lib.hid ho2
    have e9 : i + (n - (i + 1)) = n - 1 := by omega
    rw [e9]
    clear ho2 hor hgr FIN HAF HO1 e9
    obtain ⟨p, hp⟩ : ∃ p, p = n - 1 := ⟨_, rfl⟩
    have hpn : p < n := by omega
    have hcp : ¬ c = p := by omega
    have hpn2 : (p : Int) ≤ (n : Int) := by omega
    have HP := Lib.hid hp
    rw [← hp] at hcl HO2 HG2 ⊢
    clear hp
    refine sched_on trivial ?_
    repeat (refine sched_take (v := ?_) (by simp only [List.getElem?_toArray, List.getElem?_cons_succ, List.getElem?_cons_zero]; rfl) (Or.inl ⟨by rfl, fun W hW => ?_⟩) trivial ?_; rotate_left; (skip; clear hW; go_simp; with_reducible rfl); simp only [Act.put, List.setIfInBounds_toArray, List.set_cons_zero, List.set_cons_succ])
    refine sched_done ?_
    go_wp2
    refine bodyPost_ret (v := .slice (some ⟨g, 0, none⟩) p c) (by simp [results, Try.results89, go_sem]; try rfl) rfl ?_
    unfold DelPost
    rw [← HP.out]
    exact ⟨rfl, HO2.out, HG2.out⟩
end Go.Proofs.Ytpehmmdbjakkpaa
