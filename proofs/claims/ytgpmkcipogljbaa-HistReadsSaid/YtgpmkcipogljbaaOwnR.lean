/- hist.own: a result's own copy. -/
import Derived.Test.YtgpmkcipogljbaaClone
import Derived.Test.YtgpmkcipogljbaaSameR
import Derived.Test.YtgpmkcipogljbaaSched2
namespace Go.Proofs.Ytgpmkcipogljbaa
open Go.RowKit
set_option linter.unusedSimpArgs false
set_option linter.unusedVariables false
theorem Own.setCell {α : Type} {t : Ty α} {e : TypeId} {w : World} {S : Nat → Prop} {v : Value} {xs : List α} (h : Own t e w S v xs) {p : Addr} (hp : ∀ k, S k → k ≠ p.block) (u : Value) : Own t e (w.setCell p u) S v xs := h.move (Same.of_setCell w p u hp)
theorem Own.setBoxes {α : Type} {t : Ty α} {e : TypeId} {w3 : World} {n : Nat} {v : Value} {xs : List α} {u1 u2 u3 u4 u5 u6 u7 u8 : Value} {o1 o2 o3 o4 o5 o6 o7 o8 : Nat} (h : Own t e w3 (fun k => n + 1 + 1 ≤ k) v xs) :
    Own t e ((((((((w3.setCell ⟨n, o1, none⟩ u1).setCell ⟨n, o2, none⟩ u2).setCell ⟨n, o3, none⟩ u3).setCell ⟨n + 1, o4, none⟩ u4).setCell ⟨n + 1, o5, none⟩ u5).setCell ⟨n + 1, o6, none⟩ u6).setCell ⟨n + 1, o7, none⟩ u7).setCell ⟨n + 1, o8, none⟩ u8) (fun k => n + 1 + 1 ≤ k) v xs :=
  (((((((h.setCell (fun k hk e => by simp only at e; omega) _).setCell (fun k hk e => by simp only at e; omega) _).setCell (fun k hk e => by simp only at e; omega) _).setCell (fun k hk e => by simp only at e; omega) _).setCell (fun k hk e => by simp only at e; omega) _).setCell (fun k hk e => by simp only at e; omega) _).setCell (fun k hk e => by simp only at e; omega) _).setCell (fun k hk e => by simp only at e; omega) _
def ResD.few (r : ResD) : Prop := r.ps.length ≤ 1000000 ∧ r.os.length ≤ 1000000 ∧ r.is.length ≤ 1000000
set_option maxHeartbeats 8000000 in
theorem own_calls (w : World) (S : Nat → Prop) (r : ResD) (p o i : Value) (h : Sl w S r p o i) (hf : r.few) : Calls Try.prog 24 #[.agg #[.int .i64 r.err, .int .i64 r.id, p, o, i]] w fun e w' => ∃ p' o' i', e = .returned (.agg #[.int .i64 r.err, .int .i64 r.id, p', o', i']) ∧ Sl w' (fun k => w.heap.size ≤ k) r p' o' i' ∧ Below w.heap.size w w' := by
  obtain ⟨A1, c1, rfl⟩ := h.1.slice
  obtain ⟨A2, c2, rfl⟩ := h.2.1.slice
  obtain ⟨A3, c3, rfl⟩ := h.2.2.slice
  have H := Lib.hid h
  have HF := Lib.hid hf
  clear h hf
  go_enter Try.func24, Try.ntmps24
  go_wp2
  have hw0 : Below w.heap.size w ((w.alloc (.cells #[.int .i64 r.err, .int .i64 r.id, .slice A1 r.ps.length c1, .slice A2 r.os.length c2, .slice A3 r.is.length c3] 34)).alloc (.cells #[.int .i64 0, .int .i64 0, .slice none 0 0, .slice none 0 0, .slice none 0 0] 34)) := ((Below.refl w.heap.size w).alloc (Nat.le_refl _) _).alloc (by simp) _
  have K0 := Lib.hid hw0.drew
  have H0 := Lib.hid (H.out.below hw0.drew)
  clear hw0
  refine wp_region_sched2 [(0, true), (1, true), (3, true), (4, true), (6, true), (7, true), (2, false), (9, true), (5, false), (8, false)] 10 [(11, true), (12, false), (13, true), (14, false)] (Kept ((w.alloc (.cells #[.int .i64 r.err, .int .i64 r.id, .slice A1 r.ps.length c1, .slice A2 r.os.length c2, .slice A3 r.is.length c3] 34)).alloc (.cells #[.int .i64 0, .int .i64 0, .slice none 0 0, .slice none 0 0, .slice none 0 0] 34)) (fun _ => True)) (fun _ => True) (by kernel_rfl) (by kernel_rfl) (by kernel_rfl) ?_
  have HS := Lib.hid (Kept.refl ((w.alloc (.cells #[.int .i64 r.err, .int .i64 r.id, .slice A1 r.ps.length c1, .slice A2 r.os.length c2, .slice A3 r.is.length c3] 34)).alloc (.cells #[.int .i64 0, .int .i64 0, .slice none 0 0, .slice none 0 0, .slice none 0 0] 34)) (fun _ => True)).drew
  have hr0 : w.heap.size < w.heap.size + 1 + 1 := by omega
  repeat (refine sched2_take (v := ?_) (by simp only [List.getElem?_toArray, List.getElem?_cons_succ, List.getElem?_cons_zero]; rfl) (Or.inl ⟨by rfl, fun W hW => ?_⟩) HS.out ?_; rotate_left; (have hc := fun b o hb => hW.cell b o trivial hb; clear hW; go_simp; with_reducible rfl); simp only [Act.put, List.setIfInBounds_toArray, List.set_cons_zero, List.set_cons_succ])
  refine sched2_step (by simp only [List.getElem?_toArray, List.getElem?_cons_succ, List.getElem?_cons_zero]; rfl) ?_
  go_wp2_with fail
  refine (clonePairs_calls _ S _ _ H0.out.1 HF.out.1).mono ?_
  rintro e w1 ⟨v1, rfl, ho1, hb1⟩
  obtain ⟨B1, d1, rfl⟩ := ho1.slice
  have hs1 := hb1.size
  have K1 := Lib.hid (K0.out.trans (hb1.mono (by simp; omega)))
  have HS1 := Lib.hid (HS.out.below hb1)
  have H1 := Lib.hid (H0.out.below hb1)
  have P1 := Lib.hid ho1
  obtain ⟨hc1, hf1⟩ := bcell hb1
  clear ho1 hb1
  simp only [World.size_alloc, World.size_drew] at hs1 hc1 hf1
  go_wp2_with fail
  refine sched2_on HS1.out ?_
  repeat (refine sched2_take (v := ?_) (by simp only [List.getElem?_toArray, List.getElem?_cons_succ, List.getElem?_cons_zero]; rfl) (Or.inl ⟨by rfl, fun W hW => ?_⟩) HS1.out ?_; rotate_left; (have hc := fun b o hb => hW.cell b o trivial hb; clear hW; go_simp; with_reducible rfl); simp only [Act.put, List.setIfInBounds_toArray, List.set_cons_zero, List.set_cons_succ])
  refine sched2_step (by simp only [List.getElem?_toArray, List.getElem?_cons_succ, List.getElem?_cons_zero]; rfl) ?_
  go_wp2_with fail
  refine (cloneEnds_calls _ S _ _ H1.out.2.1 HF.out.2.1).mono ?_
  rintro e w2 ⟨v2, rfl, ho2, hb2⟩
  obtain ⟨B2, d2, rfl⟩ := ho2.slice
  have hs2 := hb2.size
  have K2 := Lib.hid (K1.out.trans (hb2.mono (by omega)))
  have HS2 := Lib.hid (HS1.out.below hb2)
  have H2 := Lib.hid (H1.out.below hb2)
  have P1 := Lib.hid (P1.out.below hb2)
  have P2 := Lib.hid ho2
  obtain ⟨hc2, hf2⟩ := bcell hb2
  clear ho2 hb2
  have g1 : w.heap.size < w1.heap.size := by omega
  have g1' : w.heap.size + 1 < w1.heap.size := by omega
  go_wp2_with fail
  refine sched2_on HS2.out ?_
  refine sched2_step (by simp only [List.getElem?_toArray, List.getElem?_cons_succ, List.getElem?_cons_zero]; rfl) ?_
  go_wp2_with fail
  refine (cloneEnds_calls _ S _ _ H2.out.2.2 HF.out.2.2).mono ?_
  rintro e w3 ⟨v3, rfl, ho3, hb3⟩
  obtain ⟨B3, d3, rfl⟩ := ho3.slice
  have hs3 := hb3.size
  have K3 := Lib.hid (K2.out.trans (hb3.mono (by omega)))
  have HS3 := Lib.hid (HS2.out.below hb3)
  have P1 := Lib.hid (P1.out.below hb3)
  have P2 := Lib.hid (P2.out.below hb3)
  have P3 := Lib.hid ho3
  obtain ⟨hc3, hf3⟩ := bcell hb3
  clear ho3 hb3
  have g2 : w.heap.size < w2.heap.size := by omega
  have g2' : w.heap.size + 1 < w2.heap.size := by omega
  go_wp2_with fail
  refine sched2_on HS3.out ?_
  refine sched2_go (by simp only [List.getElem?_toArray, List.getElem?_cons_succ, List.getElem?_cons_zero]; rfl) ?_
  go_wp2_with fail
  refine sched_on trivial ?_
  repeat (refine sched_take (v := ?_) (by simp only [List.getElem?_toArray, List.getElem?_cons_succ, List.getElem?_cons_zero]; rfl) (Or.inl ⟨by rfl, fun W hW => ?_⟩) trivial ?_; rotate_left; (skip; clear hW; go_simp; with_reducible rfl); simp only [Act.put, List.setIfInBounds_toArray, List.set_cons_zero, List.set_cons_succ])
  refine sched_step (by simp only [List.getElem?_toArray, List.getElem?_cons_succ, List.getElem?_cons_zero]; rfl) ?_
  go_wp2_with fail
  refine sched_on trivial ?_
  repeat (refine sched_take (v := ?_) (by simp only [List.getElem?_toArray, List.getElem?_cons_succ, List.getElem?_cons_zero]; rfl) (Or.inl ⟨by rfl, fun W hW => ?_⟩) trivial ?_; rotate_left; (skip; clear hW; go_simp; with_reducible rfl); simp only [Act.put, List.setIfInBounds_toArray, List.set_cons_zero, List.set_cons_succ])
  refine sched_step (by simp only [List.getElem?_toArray, List.getElem?_cons_succ, List.getElem?_cons_zero]; rfl) ?_
  go_wp2_with fail
  refine sched_on trivial ?_
  refine sched_done ?_
  go_wp2
  have hz1 : (World.drew ((w.alloc (.cells #[.int .i64 r.err, .int .i64 r.id, .slice A1 r.ps.length c1, .slice A2 r.os.length c2, .slice A3 r.is.length c3] 34)).alloc (.cells #[.int .i64 0, .int .i64 0, .slice none 0 0, .slice none 0 0, .slice none 0 0] 34))).heap.size = w.heap.size + 1 + 1 := by simp
  refine bodyPost_ret (v := .agg #[.int .i64 r.err, .int .i64 r.id, .slice B1 r.ps.length d1, .slice B2 r.os.length d2, .slice B3 r.is.length d3]) (by simp [results, Try.results24, go_sem, hc1, hc2, hc3, hf1, hf2, hf3, g1, g1', g2, g2']; try rfl) rfl ⟨_, _, _, rfl, ⟨?_, ?_, ?_⟩, ?_⟩
  · exact Own.row ((P1.out.mono fun k hk _ => (by omega : w.heap.size + 1 + 1 ≤ k)).setBoxes |>.mono fun k hk _ => by omega)
  · exact Own.row ((P2.out.mono fun k hk _ => (by omega : w.heap.size + 1 + 1 ≤ k)).setBoxes |>.mono fun k hk _ => by omega)
  · exact Own.row ((P3.out.mono fun k hk _ => (by omega : w.heap.size + 1 + 1 ≤ k)).setBoxes |>.mono fun k hk _ => by omega)
  · exact (by repeat (first | (with_reducible exact Below.refl _ _) | (with_reducible exact K3.out) | (with_reducible refine Below.drew ?_) | (with_reducible refine Below.alloc ?_ (by simp; try omega) _) | (with_reducible refine Below.setCell ?_ (by simp; try omega) _)))
end Go.Proofs.Ytgpmkcipogljbaa
