/- graph.counted at nodes and edges; slices.ContainsFunc. -/
import Derived.Test.YtpehmmdbjakkpaaRisesG
namespace Go.Proofs.Ytpehmmdbjakkpaa
open Go.RowKit Go.Shelf
set_option linter.unusedSimpArgs false
set_option linter.unusedVariables false
set_option maxRecDepth 20000 in
set_option maxHeartbeats 4000000 in
theorem containsN_calls (w : World) (S T : Nat → Prop) (v : Value) (xs : List NV) (fid : Nat) (fr : Array Value) (p : NV → Bool) (eg : Enters Try.prog fid)
    (hf : ∀ (W : World) (x : NV), Kept w T W → Calls Try.prog fid (#[.agg #[.int .i64 x.id, .slice x.A x.n x.c]] ++ fr) W fun e W' => e = .returned (.bool (p x)) ∧ Below W.heap.size W W')
    (h : Row tNV w S v xs) (hlen : xs.length ≤ 1000000) : Calls Try.prog 131 #[v, .func (.func fid) #[] fr] w (BPost w (∃ x ∈ xs, p x = true)) := by
  have H := Lib.hid h
  have HF := Lib.hid hf
  obtain ⟨A, c, rfl⟩ := h.slice
  have HE := Lib.hid (show (decide (0 ≤ idxB p xs) = true) ↔ ∃ x ∈ xs, p x = true by
    rcases idxB_cases p xs with ⟨e, hno⟩ | ⟨j, x, e, hx, hp, _⟩
    · rw [e]
      refine ⟨fun h => by simp at h, fun ⟨x, hx, hp⟩ => ?_⟩
      obtain ⟨i, hi⟩ := List.mem_iff_getElem?.1 hx
      rw [hno i x hi] at hp
      cases hp
    · rw [e]
      exact ⟨fun _ => ⟨x, List.mem_of_getElem? hx, hp⟩, fun _ => decide_eq_true (by omega)⟩)
  clear h hf
  go_enter Try.func131, Try.ntmps131
  go_wp2_with fail
  refine (indexN_calls w S T _ xs fid fr p eg HF.out H.out hlen).mono ?_
  rintro e w1 ⟨rfl, hb⟩
  have HB := Lib.hid hb
  clear hb
  generalize idxB p xs = ix at *
  go_wp2
  refine bodyPost_ret (v := .bool (decide (0 ≤ ix))) (by simp [results, Try.results131, go_sem]; try rfl) rfl ⟨_, rfl, HE.out, HB.out⟩
def outN (next : Int) (x : NV) : Bool := decide (x.id < 1) || decide (next ≤ x.id)
set_option maxRecDepth 20000 in
set_option maxHeartbeats 4000000 in
theorem outN_calls (w : World) (x : NV) (next : Int) (cb nb : Nat) (h1 : cb < w.heap.size) (h2 : nb < w.heap.size) (hc : w.cell? ⟨cb, 0, none⟩ = some (.func (.func 95) #[] #[])) (hn : w.cell? ⟨nb, 0, none⟩ = some (.int .i64 next)) :
    Calls Try.prog 129 #[.agg #[.int .i64 x.id, .slice x.A x.n x.c], .pointer (some ⟨cb, 0, none⟩), .pointer (some ⟨nb, 0, none⟩)] w fun e w' => e = .returned (.bool (outN next x)) ∧ Below w.heap.size w w' := by
  have g1 : cb < w.heap.size + 1 := by omega
  have g2 : nb < w.heap.size + 1 := by omega
  have g3 : w.heap.size < w.heap.size + 1 := by omega
  have eg' : ∀ args w, (callFunc 95 args).run Try.prog w = .ok (.enter 95 args) w := keyN_enters
  have KB := Lib.hid (Below.heap1 w (.cells #[.int .i64 x.id, .slice x.A x.n x.c] 32))
  go_enter Try.func129, Try.ntmps129
  go_wp2_with fail
  refine wp_region_schedK (fun _ => True) [(0, true), (1, true), (2, false), (3, true), (4, true), (5, true), (6, true), (8, true), (7, false), (9, true), (10, true), (11, true)] (by kernel_rfl) (by kernel_rfl) (fun hS => ?_)
  have HK := Lib.hid hS
  clear hS
  repeat (first | (refine sched_take (v := ?_) (by simp only [List.getElem?_toArray, List.getElem?_cons_succ, List.getElem?_cons_zero]; rfl) (Or.inl ⟨by rfl, fun W hW => ?_⟩) HK.out ?_; rotate_left; (have hc := fun b o hb => hW.cell b o trivial hb; clear hW; go_simp; with_reducible rfl); simp only [Act.put, List.setIfInBounds_toArray, List.set_cons_zero, List.set_cons_succ]) | (refine sched_take (by simp only [List.getElem?_toArray, List.getElem?_cons_succ, List.getElem?_cons_zero]; rfl) (Or.inr ⟨by rfl, rfl⟩) HK.out ?_; simp only [Act.put, List.setIfInBounds_toArray, List.set_cons_zero, List.set_cons_succ]))
  refine sched_step (by simp only [List.getElem?_toArray, List.getElem?_cons_succ, List.getElem?_cons_zero]; rfl) ?_
  go_wp2_with fail
  refine (keyN_calls _ x).mono ?_
  rintro e w1 ⟨rfl, hb1⟩
  have K1 := Lib.hid (KB.out.drew.trans (hb1.mono (by simp)))
  have HK1 := Lib.hid (HK.out.below hb1)
  clear hb1
  go_wp2_with fail
  refine sched_on HK1.out ?_
  by_cases hlo : x.id < 1
  · have HE := Lib.hid (show outN next x = true by unfold outN; rw [decide_eq_true hlo]; rfl)
    repeat (first | (refine sched_take (v := ?_) (by simp only [List.getElem?_toArray, List.getElem?_cons_succ, List.getElem?_cons_zero]; rfl) (Or.inl ⟨by rfl, fun W hW => ?_⟩) HK1.out ?_; rotate_left; (have hc := fun b o hb => hW.cell b o trivial hb; clear hW; go_simp; with_reducible rfl); simp only [Act.put, List.setIfInBounds_toArray, List.set_cons_zero, List.set_cons_succ]) | (refine sched_take (by simp only [List.getElem?_toArray, List.getElem?_cons_succ, List.getElem?_cons_zero]; rfl) (Or.inr ⟨by rfl, rfl⟩) HK1.out ?_; simp only [Act.put, List.setIfInBounds_toArray, List.set_cons_zero, List.set_cons_succ]))
    refine sched_step (by simp only [List.getElem?_toArray, List.getElem?_cons_succ, List.getElem?_cons_zero]; rfl) ?_
    go_wp2_with fail
    refine sched_on HK1.out ?_
    repeat (first | (refine sched_take (v := ?_) (by simp only [List.getElem?_toArray, List.getElem?_cons_succ, List.getElem?_cons_zero]; rfl) (Or.inl ⟨by rfl, fun W hW => ?_⟩) HK1.out ?_; rotate_left; (have hc := fun b o hb => hW.cell b o trivial hb; clear hW; go_simp; with_reducible rfl); simp only [Act.put, List.setIfInBounds_toArray, List.set_cons_zero, List.set_cons_succ]) | (refine sched_take (by simp only [List.getElem?_toArray, List.getElem?_cons_succ, List.getElem?_cons_zero]; rfl) (Or.inr ⟨by rfl, rfl⟩) HK1.out ?_; simp only [Act.put, List.setIfInBounds_toArray, List.set_cons_zero, List.set_cons_succ]))
    refine sched_done ?_
    clear HK HK1
    go_wp2
    go_ret
    exact ⟨by rw [HE.out]; rfl, K1.out⟩
  · have HE := Lib.hid (show outN next x = decide (next ≤ x.id) by unfold outN; rw [decide_eq_false hlo]; rfl)
    repeat (first | (refine sched_take (v := ?_) (by simp only [List.getElem?_toArray, List.getElem?_cons_succ, List.getElem?_cons_zero]; rfl) (Or.inl ⟨by rfl, fun W hW => ?_⟩) HK1.out ?_; rotate_left; (have hc := fun b o hb => hW.cell b o trivial hb; clear hW; go_simp; with_reducible rfl); simp only [Act.put, List.setIfInBounds_toArray, List.set_cons_zero, List.set_cons_succ]) | (refine sched_take (by simp only [List.getElem?_toArray, List.getElem?_cons_succ, List.getElem?_cons_zero]; rfl) (Or.inr ⟨by rfl, rfl⟩) HK1.out ?_; simp only [Act.put, List.setIfInBounds_toArray, List.set_cons_zero, List.set_cons_succ]))
    refine sched_step (by simp only [List.getElem?_toArray, List.getElem?_cons_succ, List.getElem?_cons_zero]; rfl) ?_
    go_wp2_with fail
    refine (keyN_calls _ x).mono ?_
    rintro e w2 ⟨rfl, hb2⟩
    have K2 := Lib.hid (K1.out.trans (hb2.mono K1.out.size))
    have HK2 := Lib.hid (HK1.out.below hb2)
    clear hb2
    go_wp2_with fail
    refine sched_on HK2.out ?_
    repeat (first | (refine sched_take (v := ?_) (by simp only [List.getElem?_toArray, List.getElem?_cons_succ, List.getElem?_cons_zero]; rfl) (Or.inl ⟨by rfl, fun W hW => ?_⟩) HK2.out ?_; rotate_left; (have hc := fun b o hb => hW.cell b o trivial hb; clear hW; go_simp; with_reducible rfl); simp only [Act.put, List.setIfInBounds_toArray, List.set_cons_zero, List.set_cons_succ]) | (refine sched_take (by simp only [List.getElem?_toArray, List.getElem?_cons_succ, List.getElem?_cons_zero]; rfl) (Or.inr ⟨by rfl, rfl⟩) HK2.out ?_; simp only [Act.put, List.setIfInBounds_toArray, List.set_cons_zero, List.set_cons_succ]))
    refine sched_done ?_
    clear HK HK1 HK2
    go_wp2
    go_ret
    exact ⟨by rw [HE.out]; rfl, K2.out⟩
theorem outN_enters : Enters Try.prog 129 := enters_of Try.func129 (by kernel_rfl) rfl
set_option maxRecDepth 20000 in
set_option maxHeartbeats 4000000 in
theorem containsE_calls (w : World) (S T : Nat → Prop) (v : Value) (xs : List EdgeD) (fid : Nat) (fr : Array Value) (p : EdgeD → Bool) (eg : Enters Try.prog fid)
    (hf : ∀ (W : World) (x : EdgeD), Kept w T W → Calls Try.prog fid (#[.agg #[.int .i64 x.id, .int .i64 x.frm, .int .i64 x.to]] ++ fr) W fun e W' => e = .returned (.bool (p x)) ∧ Below W.heap.size W W')
    (h : Row tEdge w S v xs) (hlen : xs.length ≤ 1000000) : Calls Try.prog 98 #[v, .func (.func fid) #[] fr] w (BPost w (∃ x ∈ xs, p x = true)) := by
  have H := Lib.hid h
  have HF := Lib.hid hf
  obtain ⟨A, c, rfl⟩ := h.slice
  have HE := Lib.hid (show (decide (0 ≤ idxB p xs) = true) ↔ ∃ x ∈ xs, p x = true by
    rcases idxB_cases p xs with ⟨e, hno⟩ | ⟨j, x, e, hx, hp, _⟩
    · rw [e]
      refine ⟨fun h => by simp at h, fun ⟨x, hx, hp⟩ => ?_⟩
      obtain ⟨i, hi⟩ := List.mem_iff_getElem?.1 hx
      rw [hno i x hi] at hp
      cases hp
    · rw [e]
      exact ⟨fun _ => ⟨x, List.mem_of_getElem? hx, hp⟩, fun _ => decide_eq_true (by omega)⟩)
  clear h hf
  go_enter Try.func98, Try.ntmps98
  go_wp2_with fail
  refine (indexE_calls w S T _ xs fid fr p eg HF.out H.out hlen).mono ?_
  rintro e w1 ⟨rfl, hb⟩
  have HB := Lib.hid hb
  clear hb
  generalize idxB p xs = ix at *
  go_wp2
  refine bodyPost_ret (v := .bool (decide (0 ≤ ix))) (by simp [results, Try.results98, go_sem]; try rfl) rfl ⟨_, rfl, HE.out, HB.out⟩
def outE (next : Int) (x : EdgeD) : Bool := decide (x.id < 1) || decide (next ≤ x.id)
set_option maxRecDepth 20000 in
set_option maxHeartbeats 4000000 in
theorem outE_calls (w : World) (x : EdgeD) (next : Int) (cb nb : Nat) (h1 : cb < w.heap.size) (h2 : nb < w.heap.size) (hc : w.cell? ⟨cb, 0, none⟩ = some (.func (.func 97) #[] #[])) (hn : w.cell? ⟨nb, 0, none⟩ = some (.int .i64 next)) :
    Calls Try.prog 132 #[.agg #[.int .i64 x.id, .int .i64 x.frm, .int .i64 x.to], .pointer (some ⟨cb, 0, none⟩), .pointer (some ⟨nb, 0, none⟩)] w fun e w' => e = .returned (.bool (outE next x)) ∧ Below w.heap.size w w' := by
  have g1 : cb < w.heap.size + 1 := by omega
  have g2 : nb < w.heap.size + 1 := by omega
  have g3 : w.heap.size < w.heap.size + 1 := by omega
  have eg' : ∀ args w, (callFunc 97 args).run Try.prog w = .ok (.enter 97 args) w := keyE_enters
  have KB := Lib.hid (Below.heap1 w (.cells #[.int .i64 x.id, .int .i64 x.frm, .int .i64 x.to] 40))
  go_enter Try.func132, Try.ntmps132
  go_wp2_with fail
  refine wp_region_schedK (fun _ => True) [(0, true), (1, true), (2, false), (3, true), (4, true), (5, true), (6, true), (8, true), (7, false), (9, true), (10, true), (11, true)] (by kernel_rfl) (by kernel_rfl) (fun hS => ?_)
  have HK := Lib.hid hS
  clear hS
  repeat (first | (refine sched_take (v := ?_) (by simp only [List.getElem?_toArray, List.getElem?_cons_succ, List.getElem?_cons_zero]; rfl) (Or.inl ⟨by rfl, fun W hW => ?_⟩) HK.out ?_; rotate_left; (have hc := fun b o hb => hW.cell b o trivial hb; clear hW; go_simp; with_reducible rfl); simp only [Act.put, List.setIfInBounds_toArray, List.set_cons_zero, List.set_cons_succ]) | (refine sched_take (by simp only [List.getElem?_toArray, List.getElem?_cons_succ, List.getElem?_cons_zero]; rfl) (Or.inr ⟨by rfl, rfl⟩) HK.out ?_; simp only [Act.put, List.setIfInBounds_toArray, List.set_cons_zero, List.set_cons_succ]))
  refine sched_step (by simp only [List.getElem?_toArray, List.getElem?_cons_succ, List.getElem?_cons_zero]; rfl) ?_
  go_wp2_with fail
  refine (keyE_calls _ x).mono ?_
  rintro e w1 ⟨rfl, hb1⟩
  have K1 := Lib.hid (KB.out.drew.trans (hb1.mono (by simp)))
  have HK1 := Lib.hid (HK.out.below hb1)
  clear hb1
  go_wp2_with fail
  refine sched_on HK1.out ?_
  by_cases hlo : x.id < 1
  · have HE := Lib.hid (show outE next x = true by unfold outE; rw [decide_eq_true hlo]; rfl)
    repeat (first | (refine sched_take (v := ?_) (by simp only [List.getElem?_toArray, List.getElem?_cons_succ, List.getElem?_cons_zero]; rfl) (Or.inl ⟨by rfl, fun W hW => ?_⟩) HK1.out ?_; rotate_left; (have hc := fun b o hb => hW.cell b o trivial hb; clear hW; go_simp; with_reducible rfl); simp only [Act.put, List.setIfInBounds_toArray, List.set_cons_zero, List.set_cons_succ]) | (refine sched_take (by simp only [List.getElem?_toArray, List.getElem?_cons_succ, List.getElem?_cons_zero]; rfl) (Or.inr ⟨by rfl, rfl⟩) HK1.out ?_; simp only [Act.put, List.setIfInBounds_toArray, List.set_cons_zero, List.set_cons_succ]))
    refine sched_step (by simp only [List.getElem?_toArray, List.getElem?_cons_succ, List.getElem?_cons_zero]; rfl) ?_
    go_wp2_with fail
    refine sched_on HK1.out ?_
    repeat (first | (refine sched_take (v := ?_) (by simp only [List.getElem?_toArray, List.getElem?_cons_succ, List.getElem?_cons_zero]; rfl) (Or.inl ⟨by rfl, fun W hW => ?_⟩) HK1.out ?_; rotate_left; (have hc := fun b o hb => hW.cell b o trivial hb; clear hW; go_simp; with_reducible rfl); simp only [Act.put, List.setIfInBounds_toArray, List.set_cons_zero, List.set_cons_succ]) | (refine sched_take (by simp only [List.getElem?_toArray, List.getElem?_cons_succ, List.getElem?_cons_zero]; rfl) (Or.inr ⟨by rfl, rfl⟩) HK1.out ?_; simp only [Act.put, List.setIfInBounds_toArray, List.set_cons_zero, List.set_cons_succ]))
    refine sched_done ?_
    clear HK HK1
    go_wp2
    go_ret
    exact ⟨by rw [HE.out]; rfl, K1.out⟩
  · have HE := Lib.hid (show outE next x = decide (next ≤ x.id) by unfold outE; rw [decide_eq_false hlo]; rfl)
    repeat (first | (refine sched_take (v := ?_) (by simp only [List.getElem?_toArray, List.getElem?_cons_succ, List.getElem?_cons_zero]; rfl) (Or.inl ⟨by rfl, fun W hW => ?_⟩) HK1.out ?_; rotate_left; (have hc := fun b o hb => hW.cell b o trivial hb; clear hW; go_simp; with_reducible rfl); simp only [Act.put, List.setIfInBounds_toArray, List.set_cons_zero, List.set_cons_succ]) | (refine sched_take (by simp only [List.getElem?_toArray, List.getElem?_cons_succ, List.getElem?_cons_zero]; rfl) (Or.inr ⟨by rfl, rfl⟩) HK1.out ?_; simp only [Act.put, List.setIfInBounds_toArray, List.set_cons_zero, List.set_cons_succ]))
    refine sched_step (by simp only [List.getElem?_toArray, List.getElem?_cons_succ, List.getElem?_cons_zero]; rfl) ?_
    go_wp2_with fail
    refine (keyE_calls _ x).mono ?_
    rintro e w2 ⟨rfl, hb2⟩
    have K2 := Lib.hid (K1.out.trans (hb2.mono K1.out.size))
    have HK2 := Lib.hid (HK1.out.below hb2)
    clear hb2
    go_wp2_with fail
    refine sched_on HK2.out ?_
    repeat (first | (refine sched_take (v := ?_) (by simp only [List.getElem?_toArray, List.getElem?_cons_succ, List.getElem?_cons_zero]; rfl) (Or.inl ⟨by rfl, fun W hW => ?_⟩) HK2.out ?_; rotate_left; (have hc := fun b o hb => hW.cell b o trivial hb; clear hW; go_simp; with_reducible rfl); simp only [Act.put, List.setIfInBounds_toArray, List.set_cons_zero, List.set_cons_succ]) | (refine sched_take (by simp only [List.getElem?_toArray, List.getElem?_cons_succ, List.getElem?_cons_zero]; rfl) (Or.inr ⟨by rfl, rfl⟩) HK2.out ?_; simp only [Act.put, List.setIfInBounds_toArray, List.set_cons_zero, List.set_cons_succ]))
    refine sched_done ?_
    clear HK HK1 HK2
    go_wp2
    go_ret
    exact ⟨by rw [HE.out]; rfl, K2.out⟩
theorem outE_enters : Enters Try.prog 132 := enters_of Try.func132 (by kernel_rfl) rfl
theorem outN_iff {next : Int} {xs : List NV} : (¬ ∃ x ∈ xs, outN next x = true) ↔ ∀ x ∈ xs, 1 ≤ x.id ∧ x.id < next := by
  constructor
  · intro h x hx
    have h1 : ¬ outN next x = true := fun e => h ⟨x, hx, e⟩
    simp [outN] at h1
    omega
  · rintro h ⟨x, hx, e⟩
    have := h x hx
    simp [outN] at e
    omega
set_option maxRecDepth 20000 in
set_option maxHeartbeats 4000000 in
theorem countedN_calls (w : World) (S : Nat → Prop) (v : Value) (xs : List NV) (next : Int) (h : Row tNV w S v xs) (hlen : xs.length ≤ 1000000) : Calls Try.prog 94 #[v, .func (.func 95) #[] #[], .int .i64 next] w (BPost w (RisesN xs xs.length ∧ ∀ x ∈ xs, 1 ≤ x.id ∧ x.id < next)) := by
  obtain ⟨A, c, rfl⟩ := h.slice
  have H := Lib.hid h
  clear h
  go_enter Try.func94, Try.ntmps94
  go_wp2_with fail
  have hW0 : Below w.heap.size w ((w.alloc (.cells #[.func (.func 95) #[] #[]] 121)).alloc (.cells #[.int .i64 next] 3)) := ((Below.refl w.heap.size w).alloc (Nat.le_refl _) _).alloc (by simp) _
  have KW := Lib.hid hW0
  have c0 : ((w.alloc (.cells #[.func (.func 95) #[] #[]] 121)).alloc (.cells #[.int .i64 next] 3)).cell? ⟨w.heap.size, 0, none⟩ = some (.func (.func 95) #[] #[]) := by simp [go_sem]
  have c1 : ((w.alloc (.cells #[.func (.func 95) #[] #[]] 121)).alloc (.cells #[.int .i64 next] 3)).cell? ⟨w.heap.size + 1, 0, none⟩ = some (.int .i64 next) := by simp [go_sem]
  have C := Lib.hid (And.intro c0 c1)
  have s0 : ((w.alloc (.cells #[.func (.func 95) #[] #[]] 121)).alloc (.cells #[.int .i64 next] 3)).heap.size = w.heap.size + 1 + 1 := by simp
  clear hW0 c0 c1
  generalize hW : (w.alloc (.cells #[.func (.func 95) #[] #[]] 121)).alloc (.cells #[.int .i64 next] 3) = W0 at *
  clear hW
  refine (risesN_calls W0 S _ xs (H.out.below KW.out) hlen).mono ?_
  rintro e w1 ⟨b, rfl, hb, hb1⟩
  have s1 := hb1.size
  have K1 := Lib.hid (KW.out.trans (hb1.mono KW.out.size))
  have C1 := Lib.hid (And.intro ((hb1.cell (p := ⟨w.heap.size, 0, none⟩) (by simp only; omega)).trans C.out.1) ((hb1.cell (p := ⟨w.heap.size + 1, 0, none⟩) (by simp only; omega)).trans C.out.2))
  have HB := Lib.hid hb
  clear hb1 hb C
  cases b
  · have HN := Lib.hid (show ¬ (RisesN xs xs.length ∧ ∀ x ∈ xs, 1 ≤ x.id ∧ x.id < next) from fun h => by have := HB.out.2 h.1; cases this)
    go_wp2
    refine bodyPost_ret (v := .bool false) (by simp [results, Try.results94, go_sem]; try rfl) rfl ⟨false, rfl, ⟨fun e => (by cases e), fun h => absurd h HN.out⟩, K1.out⟩
  have HR := Lib.hid (HB.out.1 rfl)
  go_wp2_with fail
  refine (containsN_calls w1 S (fun k => k = w.heap.size ∨ k = w.heap.size + 1) _ xs _ _ (outN next) outN_enters (fun W x hK => ?_) (H.out.below K1.out) hlen).mono ?_
  · refine outN_calls W x next w.heap.size (w.heap.size + 1) (by have := hK.1; omega) (by have := hK.1; omega) ?_ ?_
    · rw [hK.cell _ _ (.inl rfl) (by omega)]; exact C1.out.1
    · rw [hK.cell _ _ (.inr rfl) (by omega)]; exact C1.out.2
  rintro e w2 ⟨b2, rfl, hb2, hbl⟩
  have K2 := Lib.hid (K1.out.trans (hbl.mono K1.out.size))
  have HE := Lib.hid (show ((!b2) = true) ↔ (RisesN xs xs.length ∧ ∀ x ∈ xs, 1 ≤ x.id ∧ x.id < next) by
    rw [Bool.not_eq_true', ← Bool.not_eq_true, hb2, outN_iff]
    exact ⟨fun h => ⟨HR.out, h⟩, fun h => h.2⟩)
  clear hb2 hbl
  go_wp2
  refine bodyPost_ret (v := .bool (!b2)) (by simp [results, Try.results94, go_sem]; try rfl) rfl ⟨_, rfl, HE.out, K2.out⟩
theorem outE_iff {next : Int} {xs : List EdgeD} : (¬ ∃ x ∈ xs, outE next x = true) ↔ ∀ x ∈ xs, 1 ≤ x.id ∧ x.id < next := by
  constructor
  · intro h x hx
    have h1 : ¬ outE next x = true := fun e => h ⟨x, hx, e⟩
    simp [outE] at h1
    omega
  · rintro h ⟨x, hx, e⟩
    have := h x hx
    simp [outE] at e
    omega
set_option maxRecDepth 20000 in
set_option maxHeartbeats 4000000 in
theorem countedE_calls (w : World) (S : Nat → Prop) (v : Value) (xs : List EdgeD) (next : Int) (h : Row tEdge w S v xs) (hlen : xs.length ≤ 1000000) : Calls Try.prog 96 #[v, .func (.func 97) #[] #[], .int .i64 next] w (BPost w (RisesE xs xs.length ∧ ∀ x ∈ xs, 1 ≤ x.id ∧ x.id < next)) := by
  obtain ⟨A, c, rfl⟩ := h.slice
  have H := Lib.hid h
  clear h
  go_enter Try.func96, Try.ntmps96
  go_wp2_with fail
  have hW0 : Below w.heap.size w ((w.alloc (.cells #[.func (.func 97) #[] #[]] 123)).alloc (.cells #[.int .i64 next] 3)) := ((Below.refl w.heap.size w).alloc (Nat.le_refl _) _).alloc (by simp) _
  have KW := Lib.hid hW0
  have c0 : ((w.alloc (.cells #[.func (.func 97) #[] #[]] 123)).alloc (.cells #[.int .i64 next] 3)).cell? ⟨w.heap.size, 0, none⟩ = some (.func (.func 97) #[] #[]) := by simp [go_sem]
  have c1 : ((w.alloc (.cells #[.func (.func 97) #[] #[]] 123)).alloc (.cells #[.int .i64 next] 3)).cell? ⟨w.heap.size + 1, 0, none⟩ = some (.int .i64 next) := by simp [go_sem]
  have C := Lib.hid (And.intro c0 c1)
  have s0 : ((w.alloc (.cells #[.func (.func 97) #[] #[]] 123)).alloc (.cells #[.int .i64 next] 3)).heap.size = w.heap.size + 1 + 1 := by simp
  clear hW0 c0 c1
  generalize hW : (w.alloc (.cells #[.func (.func 97) #[] #[]] 123)).alloc (.cells #[.int .i64 next] 3) = W0 at *
  clear hW
  refine (risesE_calls W0 S _ xs (H.out.below KW.out) hlen).mono ?_
  rintro e w1 ⟨b, rfl, hb, hb1⟩
  have s1 := hb1.size
  have K1 := Lib.hid (KW.out.trans (hb1.mono KW.out.size))
  have C1 := Lib.hid (And.intro ((hb1.cell (p := ⟨w.heap.size, 0, none⟩) (by simp only; omega)).trans C.out.1) ((hb1.cell (p := ⟨w.heap.size + 1, 0, none⟩) (by simp only; omega)).trans C.out.2))
  have HB := Lib.hid hb
  clear hb1 hb C
  cases b
  · have HN := Lib.hid (show ¬ (RisesE xs xs.length ∧ ∀ x ∈ xs, 1 ≤ x.id ∧ x.id < next) from fun h => by have := HB.out.2 h.1; cases this)
    go_wp2
    refine bodyPost_ret (v := .bool false) (by simp [results, Try.results96, go_sem]; try rfl) rfl ⟨false, rfl, ⟨fun e => (by cases e), fun h => absurd h HN.out⟩, K1.out⟩
  have HR := Lib.hid (HB.out.1 rfl)
  go_wp2_with fail
  refine (containsE_calls w1 S (fun k => k = w.heap.size ∨ k = w.heap.size + 1) _ xs _ _ (outE next) outE_enters (fun W x hK => ?_) (H.out.below K1.out) hlen).mono ?_
  · refine outE_calls W x next w.heap.size (w.heap.size + 1) (by have := hK.1; omega) (by have := hK.1; omega) ?_ ?_
    · rw [hK.cell _ _ (.inl rfl) (by omega)]; exact C1.out.1
    · rw [hK.cell _ _ (.inr rfl) (by omega)]; exact C1.out.2
  rintro e w2 ⟨b2, rfl, hb2, hbl⟩
  have K2 := Lib.hid (K1.out.trans (hbl.mono K1.out.size))
  have HE := Lib.hid (show ((!b2) = true) ↔ (RisesE xs xs.length ∧ ∀ x ∈ xs, 1 ≤ x.id ∧ x.id < next) by
    rw [Bool.not_eq_true', ← Bool.not_eq_true, hb2, outE_iff]
    exact ⟨fun h => ⟨HR.out, h⟩, fun h => h.2⟩)
  clear hb2 hbl
  go_wp2
  refine bodyPost_ret (v := .bool (!b2)) (by simp [results, Try.results96, go_sem]; try rfl) rfl ⟨_, rfl, HE.out, K2.out⟩
end Go.Proofs.Ytpehmmdbjakkpaa
