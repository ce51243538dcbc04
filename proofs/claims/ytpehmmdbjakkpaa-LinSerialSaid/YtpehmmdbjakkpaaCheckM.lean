/- graph.rises at pairs, nodes and edges; graph.counted. graph.counted at nodes and edges; slices.ContainsFunc. place.Check; graph.Check's closure. graph.Check: 0 just if a graph may be. -/
import Derived.Test.YtpehmmdbjakkpaaRefCheck
import Derived.Test.YtpehmmdbjakkpaaLibM
namespace Go.Proofs.Ytpehmmdbjakkpaa
open Go.RowKit Go.Shelf
set_option linter.unusedSimpArgs false
set_option linter.unusedVariables false
/-- A bool that tells whether P. -/
def BPost (w : World) (P : Prop) (e : Ending) (w' : World) : Prop := ∃ b : Bool, e = .returned (.bool b) ∧ (b = true ↔ P) ∧ Below w.heap.size w w'
def RisesN (xs : List NV) (m : Nat) : Prop := ∀ (i : Nat) (p q : NV), i + 1 < m → xs[i]? = some p → xs[i + 1]? = some q → p.id < q.id
def RisesE (xs : List EdgeD) (m : Nat) : Prop := ∀ (i : Nat) (p q : EdgeD), i + 1 < m → xs[i]? = some p → xs[i + 1]? = some q → p.id < q.id
set_option maxRecDepth 20000 in
theorem keyP_calls (w : World) (x : P2) : Calls Try.prog 92 #[.agg #[.int .i64 x.x, .int .i64 x.y]] w fun e w' => e = .returned (.int .i64 x.x) ∧ Below w.heap.size w w' := by
  go_enter Try.func92, Try.ntmps92
  go_wp2
  go_ret
  exact ⟨rfl, (Below.refl _ _).alloc (Nat.le_refl _) _⟩
theorem keyP_enters : Enters Try.prog 92 := enters_of Try.func92 (by kernel_rfl) rfl
set_option maxRecDepth 20000 in
set_option maxHeartbeats 4000000 in
theorem risesP_calls (w : World) (S : Nat → Prop) (v : Value) (xs : List P2) (h : Row tP w S v xs) (hlen : xs.length ≤ 1000000) : Calls Try.prog 91 #[v, .func (.func 92) #[] #[]] w (BPost w (Rises xs xs.length)) := by
  obtain ⟨A, c, rfl⟩ := h.slice
  have H := Lib.hid h
  have eg' : ∀ args w, (callFunc 92 args).run Try.prog w = .ok (.enter 92 args) w := keyP_enters
  clear h
  go_enter Try.func91, Try.ntmps91
  go_wp2
  go_loopw [5] (fun q wr => ∃ j : Nat, 1 ≤ j ∧ (j ≤ xs.length ∨ j = 1) ∧ q = .int .i64 (j : Int) ∧ Hid (Rises xs j) ∧ Hid (Below w.heap.size w wr)) (fun q _ => xs.length - (intOf q).toNat)
  case atStart => exact ⟨1, by omega, by omega, rfl, (fun i p q h => by omega), Below.refl _ _⟩
  case round =>
    obtain ⟨wa, rfl⟩ : ∃ wa, wa = wr := ⟨wr, rfl⟩
    obtain ⟨j, hj1, hj, rfl, hno, hb⟩ := hrel
    have hwr := hb.out.size
    by_cases hlt : j < xs.length
    case neg =>
      have HD := Lib.hid (show Rises xs xs.length from fun i p q hi hp hq => hno.out i p q (by omega) hp hq)
      have hd : ¬ (j : Int) < (xs.length : Int) := by omega
      go_wp2
      go_ret
      exact ⟨true, rfl, ⟨fun _ => HD.out, fun _ => rfl⟩, hb.out⟩
    obtain ⟨i, rfl⟩ : ∃ i, j = i + 1 := ⟨j - 1, by omega⟩
    obtain ⟨x, hx⟩ := getElem?_of_lt hlt
    obtain ⟨y, hy⟩ := getElem?_of_lt (show i < xs.length by omega)
    obtain ⟨b, off, rfl, _, hbl, z0, z1⟩ := (H.out.below hb.out).atP hx
    obtain ⟨b', off', hA, _, _, y0, y1⟩ := (H.out.below hb.out).atP hy
    injection hA with hA
    injection hA with h1 h2
    subst h1 h2
    have HX := Lib.hid hx
    have HY := Lib.hid hy
    clear hx hy
    have hi0 : (0 : Int) ≤ (i : Int) + 1 := by omega
    have htn : ((i : Int) + 1).toNat = i + 1 := by omega
    have hil : i < xs.length := by omega
    have hwi : IntKind.i64.wrap (i : Int) = (i : Int) := by rw [IntKind.wrap_i64]; omega
    have hlt2 : (i : Int) + 1 < (xs.length : Int) := by omega
    go_wp2_with fail
    refine wp_region_schedK (fun _ => True) [(0, true), (1, true), (2, true), (3, true), (4, true), (6, true), (7, true), (8, true), (9, true), (10, true), (11, true), (5, false), (12, false), (13, true)] (by kernel_rfl) (by kernel_rfl) (fun hS => ?_)
    have HK := Lib.hid hS
    clear hS
    repeat (refine sched_take (v := ?_) (by simp only [List.getElem?_toArray, List.getElem?_cons_succ, List.getElem?_cons_zero]; rfl) (Or.inl ⟨by rfl, fun W hW => ?_⟩) HK.out ?_; rotate_left; (have hc := fun b o hb => hW.cell b o trivial hb; clear hW; go_simp; with_reducible rfl); simp only [Act.put, List.setIfInBounds_toArray, List.set_cons_zero, List.set_cons_succ])
    refine sched_step (by simp only [List.getElem?_toArray, List.getElem?_cons_succ, List.getElem?_cons_zero]; rfl) ?_
    go_wp2_with fail
    refine (keyP_calls _ x).mono ?_
    rintro e w1 ⟨rfl, hb1⟩
    have K1 := Lib.hid (hb.out.trans ((Below.refl wa.heap.size wa).drew.trans hb1 |>.mono hwr))
    have HK1 := Lib.hid (HK.out.below hb1)
    have s1 := hb1.size
    simp only [World.size_drew] at s1
    clear hb1
    go_wp2_with fail
    refine sched_on HK1.out ?_
    repeat (refine sched_take (v := ?_) (by simp only [List.getElem?_toArray, List.getElem?_cons_succ, List.getElem?_cons_zero]; rfl) (Or.inl ⟨by rfl, fun W hW => ?_⟩) HK1.out ?_; rotate_left; (have hc := fun b o hb => hW.cell b o trivial hb; clear hW; go_simp; with_reducible rfl); simp only [Act.put, List.setIfInBounds_toArray, List.set_cons_zero, List.set_cons_succ])
    refine sched_step (by simp only [List.getElem?_toArray, List.getElem?_cons_succ, List.getElem?_cons_zero]; rfl) ?_
    go_wp2_with fail
    refine (keyP_calls _ y).mono ?_
    rintro e w2 ⟨rfl, hb2⟩
    have K2 := Lib.hid (K1.out.trans (hb2.mono (by omega)))
    have HK2 := Lib.hid (HK1.out.below hb2)
    clear hb2
    go_wp2_with fail
    refine sched_on HK2.out ?_
    repeat (refine sched_take (v := ?_) (by simp only [List.getElem?_toArray, List.getElem?_cons_succ, List.getElem?_cons_zero]; rfl) (Or.inl ⟨by rfl, fun W hW => ?_⟩) HK2.out ?_; rotate_left; (have hc := fun b o hb => hW.cell b o trivial hb; clear hW; go_simp; with_reducible rfl); simp only [Act.put, List.setIfInBounds_toArray, List.set_cons_zero, List.set_cons_succ])
    refine sched_done ?_
    clear HK HK1 HK2
    by_cases hc : y.x < x.x
    · have HN := Lib.hid (show Rises xs (i + 1 + 1) from fun m p q hm hp hq => by
        rcases Nat.lt_or_ge (m + 1) (i + 1) with h3 | h3
        · exact hno.out m p q h3 hp hq
        · obtain rfl : m = i := by omega
          rw [HY.out] at hp
          injection hp with hp
          rw [HX.out] at hq
          injection hq with hq
          subst hp hq
          exact hc)
      have hd : ¬ x.x ≤ y.x := by omega
      go_wp2
      go_roundw
      case rel => exact ⟨i + 1 + 1, by omega, by omega, by first | (go_num; done) | (go_num; omega), HN, K2⟩
      case measure => simp [intOf]; omega
    · have HN := Lib.hid (show ¬ Rises xs xs.length from fun hr => hc (hr i y x (by omega) HY.out HX.out))
      have hd : x.x ≤ y.x := by omega
      go_wp2
      go_ret
      exact ⟨false, rfl, ⟨fun e => (by cases e), fun h => absurd h HN.out⟩, K2.out⟩
set_option maxRecDepth 20000 in
theorem keyN_calls (w : World) (x : NV) : Calls Try.prog 95 #[.agg #[.int .i64 x.id, .slice x.A x.n x.c]] w fun e w' => e = .returned (.int .i64 x.id) ∧ Below w.heap.size w w' := by
  go_enter Try.func95, Try.ntmps95
  go_wp2
  go_ret
  exact ⟨rfl, (Below.refl _ _).alloc (Nat.le_refl _) _⟩
theorem keyN_enters : Enters Try.prog 95 := enters_of Try.func95 (by kernel_rfl) rfl
set_option maxRecDepth 20000 in
set_option maxHeartbeats 4000000 in
theorem risesN_calls (w : World) (S : Nat → Prop) (v : Value) (xs : List NV) (h : Row tNV w S v xs) (hlen : xs.length ≤ 1000000) : Calls Try.prog 130 #[v, .func (.func 95) #[] #[]] w (BPost w (RisesN xs xs.length)) := by
  obtain ⟨A, c, rfl⟩ := h.slice
  have H := Lib.hid h
  have eg' : ∀ args w, (callFunc 95 args).run Try.prog w = .ok (.enter 95 args) w := keyN_enters
  clear h
  go_enter Try.func130, Try.ntmps130
  go_wp2
  go_loopw [5] (fun q wr => ∃ j : Nat, 1 ≤ j ∧ (j ≤ xs.length ∨ j = 1) ∧ q = .int .i64 (j : Int) ∧ Hid (RisesN xs j) ∧ Hid (Below w.heap.size w wr)) (fun q _ => xs.length - (intOf q).toNat)
  case atStart => exact ⟨1, by omega, by omega, rfl, (fun i p q h => by omega), Below.refl _ _⟩
  case round =>
    obtain ⟨wa, rfl⟩ : ∃ wa, wa = wr := ⟨wr, rfl⟩
    obtain ⟨j, hj1, hj, rfl, hno, hb⟩ := hrel
    have hwr := hb.out.size
    by_cases hlt : j < xs.length
    case neg =>
      have HD := Lib.hid (show RisesN xs xs.length from fun i p q hi hp hq => hno.out i p q (by omega) hp hq)
      have hd : ¬ (j : Int) < (xs.length : Int) := by omega
      go_wp2
      go_ret
      exact ⟨true, rfl, ⟨fun _ => HD.out, fun _ => rfl⟩, hb.out⟩
    obtain ⟨i, rfl⟩ : ∃ i, j = i + 1 := ⟨j - 1, by omega⟩
    obtain ⟨x, hx⟩ := getElem?_of_lt hlt
    obtain ⟨y, hy⟩ := getElem?_of_lt (show i < xs.length by omega)
    obtain ⟨b, off, rfl, _, hbl, z0, z1⟩ := (H.out.below hb.out).atNV hx
    obtain ⟨b', off', hA, _, _, y0, y1⟩ := (H.out.below hb.out).atNV hy
    injection hA with hA
    injection hA with h1 h2
    subst h1 h2
    have HX := Lib.hid hx
    have HY := Lib.hid hy
    clear hx hy
    have hi0 : (0 : Int) ≤ (i : Int) + 1 := by omega
    have htn : ((i : Int) + 1).toNat = i + 1 := by omega
    have hil : i < xs.length := by omega
    have hwi : IntKind.i64.wrap (i : Int) = (i : Int) := by rw [IntKind.wrap_i64]; omega
    have hlt2 : (i : Int) + 1 < (xs.length : Int) := by omega
    go_wp2_with fail
    refine wp_region_schedK (fun _ => True) [(0, true), (1, true), (2, true), (3, true), (4, true), (6, true), (7, true), (8, true), (9, true), (10, true), (11, true), (5, false), (12, false), (13, true)] (by kernel_rfl) (by kernel_rfl) (fun hS => ?_)
    have HK := Lib.hid hS
    clear hS
    repeat (refine sched_take (v := ?_) (by simp only [List.getElem?_toArray, List.getElem?_cons_succ, List.getElem?_cons_zero]; rfl) (Or.inl ⟨by rfl, fun W hW => ?_⟩) HK.out ?_; rotate_left; (have hc := fun b o hb => hW.cell b o trivial hb; clear hW; go_simp; with_reducible rfl); simp only [Act.put, List.setIfInBounds_toArray, List.set_cons_zero, List.set_cons_succ])
    refine sched_step (by simp only [List.getElem?_toArray, List.getElem?_cons_succ, List.getElem?_cons_zero]; rfl) ?_
    go_wp2_with fail
    refine (keyN_calls _ x).mono ?_
    rintro e w1 ⟨rfl, hb1⟩
    have K1 := Lib.hid (hb.out.trans ((Below.refl wa.heap.size wa).drew.trans hb1 |>.mono hwr))
    have HK1 := Lib.hid (HK.out.below hb1)
    have s1 := hb1.size
    simp only [World.size_drew] at s1
    clear hb1
    go_wp2_with fail
    refine sched_on HK1.out ?_
    repeat (refine sched_take (v := ?_) (by simp only [List.getElem?_toArray, List.getElem?_cons_succ, List.getElem?_cons_zero]; rfl) (Or.inl ⟨by rfl, fun W hW => ?_⟩) HK1.out ?_; rotate_left; (have hc := fun b o hb => hW.cell b o trivial hb; clear hW; go_simp; with_reducible rfl); simp only [Act.put, List.setIfInBounds_toArray, List.set_cons_zero, List.set_cons_succ])
    refine sched_step (by simp only [List.getElem?_toArray, List.getElem?_cons_succ, List.getElem?_cons_zero]; rfl) ?_
    go_wp2_with fail
    refine (keyN_calls _ y).mono ?_
    rintro e w2 ⟨rfl, hb2⟩
    have K2 := Lib.hid (K1.out.trans (hb2.mono (by omega)))
    have HK2 := Lib.hid (HK1.out.below hb2)
    clear hb2
    go_wp2_with fail
    refine sched_on HK2.out ?_
    repeat (refine sched_take (v := ?_) (by simp only [List.getElem?_toArray, List.getElem?_cons_succ, List.getElem?_cons_zero]; rfl) (Or.inl ⟨by rfl, fun W hW => ?_⟩) HK2.out ?_; rotate_left; (have hc := fun b o hb => hW.cell b o trivial hb; clear hW; go_simp; with_reducible rfl); simp only [Act.put, List.setIfInBounds_toArray, List.set_cons_zero, List.set_cons_succ])
    refine sched_done ?_
    clear HK HK1 HK2
    by_cases hc : y.id < x.id
    · have HN := Lib.hid (show RisesN xs (i + 1 + 1) from fun m p q hm hp hq => by
        rcases Nat.lt_or_ge (m + 1) (i + 1) with h3 | h3
        · exact hno.out m p q h3 hp hq
        · obtain rfl : m = i := by omega
          rw [HY.out] at hp
          injection hp with hp
          rw [HX.out] at hq
          injection hq with hq
          subst hp hq
          exact hc)
      have hd : ¬ x.id ≤ y.id := by omega
      go_wp2
      go_roundw
      case rel => exact ⟨i + 1 + 1, by omega, by omega, by first | (go_num; done) | (go_num; omega), HN, K2⟩
      case measure => simp [intOf]; omega
    · have HN := Lib.hid (show ¬ RisesN xs xs.length from fun hr => hc (hr i y x (by omega) HY.out HX.out))
      have hd : x.id ≤ y.id := by omega
      go_wp2
      go_ret
      exact ⟨false, rfl, ⟨fun e => (by cases e), fun h => absurd h HN.out⟩, K2.out⟩
set_option maxRecDepth 20000 in
theorem keyE_calls (w : World) (x : EdgeD) : Calls Try.prog 97 #[.agg #[.int .i64 x.id, .int .i64 x.frm, .int .i64 x.to]] w fun e w' => e = .returned (.int .i64 x.id) ∧ Below w.heap.size w w' := by
  go_enter Try.func97, Try.ntmps97
  go_wp2
  go_ret
  exact ⟨rfl, (Below.refl _ _).alloc (Nat.le_refl _) _⟩
theorem keyE_enters : Enters Try.prog 97 := enters_of Try.func97 (by kernel_rfl) rfl
set_option maxRecDepth 20000 in
set_option maxHeartbeats 4000000 in
theorem risesE_calls (w : World) (S : Nat → Prop) (v : Value) (xs : List EdgeD) (h : Row tEdge w S v xs) (hlen : xs.length ≤ 1000000) : Calls Try.prog 133 #[v, .func (.func 97) #[] #[]] w (BPost w (RisesE xs xs.length)) := by
  obtain ⟨A, c, rfl⟩ := h.slice
  have H := Lib.hid h
  have eg' : ∀ args w, (callFunc 97 args).run Try.prog w = .ok (.enter 97 args) w := keyE_enters
  clear h
  go_enter Try.func133, Try.ntmps133
  go_wp2
  go_loopw [5] (fun q wr => ∃ j : Nat, 1 ≤ j ∧ (j ≤ xs.length ∨ j = 1) ∧ q = .int .i64 (j : Int) ∧ Hid (RisesE xs j) ∧ Hid (Below w.heap.size w wr)) (fun q _ => xs.length - (intOf q).toNat)
  case atStart => exact ⟨1, by omega, by omega, rfl, (fun i p q h => by omega), Below.refl _ _⟩
  case round =>
    obtain ⟨wa, rfl⟩ : ∃ wa, wa = wr := ⟨wr, rfl⟩
    obtain ⟨j, hj1, hj, rfl, hno, hb⟩ := hrel
    have hwr := hb.out.size
    by_cases hlt : j < xs.length
    case neg =>
      have HD := Lib.hid (show RisesE xs xs.length from fun i p q hi hp hq => hno.out i p q (by omega) hp hq)
      have hd : ¬ (j : Int) < (xs.length : Int) := by omega
      go_wp2
      go_ret
      exact ⟨true, rfl, ⟨fun _ => HD.out, fun _ => rfl⟩, hb.out⟩
    obtain ⟨i, rfl⟩ : ∃ i, j = i + 1 := ⟨j - 1, by omega⟩
    obtain ⟨x, hx⟩ := getElem?_of_lt hlt
    obtain ⟨y, hy⟩ := getElem?_of_lt (show i < xs.length by omega)
    obtain ⟨b, off, rfl, _, hbl, z0, z1, z2⟩ := (H.out.below hb.out).atEdge hx
    obtain ⟨b', off', hA, _, _, y0, y1, y2⟩ := (H.out.below hb.out).atEdge hy
    injection hA with hA
    injection hA with h1 h2
    subst h1 h2
    have HX := Lib.hid hx
    have HY := Lib.hid hy
    clear hx hy
    have hi0 : (0 : Int) ≤ (i : Int) + 1 := by omega
    have htn : ((i : Int) + 1).toNat = i + 1 := by omega
    have hil : i < xs.length := by omega
    have hwi : IntKind.i64.wrap (i : Int) = (i : Int) := by rw [IntKind.wrap_i64]; omega
    have hlt2 : (i : Int) + 1 < (xs.length : Int) := by omega
    go_wp2_with fail
    refine wp_region_schedK (fun _ => True) [(0, true), (1, true), (2, true), (3, true), (4, true), (6, true), (7, true), (8, true), (9, true), (10, true), (11, true), (5, false), (12, false), (13, true)] (by kernel_rfl) (by kernel_rfl) (fun hS => ?_)
    have HK := Lib.hid hS
    clear hS
    repeat (refine sched_take (v := ?_) (by simp only [List.getElem?_toArray, List.getElem?_cons_succ, List.getElem?_cons_zero]; rfl) (Or.inl ⟨by rfl, fun W hW => ?_⟩) HK.out ?_; rotate_left; (have hc := fun b o hb => hW.cell b o trivial hb; clear hW; go_simp; with_reducible rfl); simp only [Act.put, List.setIfInBounds_toArray, List.set_cons_zero, List.set_cons_succ])
    refine sched_step (by simp only [List.getElem?_toArray, List.getElem?_cons_succ, List.getElem?_cons_zero]; rfl) ?_
    go_wp2_with fail
    refine (keyE_calls _ x).mono ?_
    rintro e w1 ⟨rfl, hb1⟩
    have K1 := Lib.hid (hb.out.trans ((Below.refl wa.heap.size wa).drew.trans hb1 |>.mono hwr))
    have HK1 := Lib.hid (HK.out.below hb1)
    have s1 := hb1.size
    simp only [World.size_drew] at s1
    clear hb1
    go_wp2_with fail
    refine sched_on HK1.out ?_
    repeat (refine sched_take (v := ?_) (by simp only [List.getElem?_toArray, List.getElem?_cons_succ, List.getElem?_cons_zero]; rfl) (Or.inl ⟨by rfl, fun W hW => ?_⟩) HK1.out ?_; rotate_left; (have hc := fun b o hb => hW.cell b o trivial hb; clear hW; go_simp; with_reducible rfl); simp only [Act.put, List.setIfInBounds_toArray, List.set_cons_zero, List.set_cons_succ])
    refine sched_step (by simp only [List.getElem?_toArray, List.getElem?_cons_succ, List.getElem?_cons_zero]; rfl) ?_
    go_wp2_with fail
    refine (keyE_calls _ y).mono ?_
    rintro e w2 ⟨rfl, hb2⟩
    have K2 := Lib.hid (K1.out.trans (hb2.mono (by omega)))
    have HK2 := Lib.hid (HK1.out.below hb2)
    clear hb2
    go_wp2_with fail
    refine sched_on HK2.out ?_
    repeat (refine sched_take (v := ?_) (by simp only [List.getElem?_toArray, List.getElem?_cons_succ, List.getElem?_cons_zero]; rfl) (Or.inl ⟨by rfl, fun W hW => ?_⟩) HK2.out ?_; rotate_left; (have hc := fun b o hb => hW.cell b o trivial hb; clear hW; go_simp; with_reducible rfl); simp only [Act.put, List.setIfInBounds_toArray, List.set_cons_zero, List.set_cons_succ])
    refine sched_done ?_
    clear HK HK1 HK2
    by_cases hc : y.id < x.id
    · have HN := Lib.hid (show RisesE xs (i + 1 + 1) from fun m p q hm hp hq => by
        rcases Nat.lt_or_ge (m + 1) (i + 1) with h3 | h3
        · exact hno.out m p q h3 hp hq
        · obtain rfl : m = i := by omega
          rw [HY.out] at hp
          injection hp with hp
          rw [HX.out] at hq
          injection hq with hq
          subst hp hq
          exact hc)
      have hd : ¬ x.id ≤ y.id := by omega
      go_wp2
      go_roundw
      case rel => exact ⟨i + 1 + 1, by omega, by omega, by first | (go_num; done) | (go_num; omega), HN, K2⟩
      case measure => simp [intOf]; omega
    · have HN := Lib.hid (show ¬ RisesE xs xs.length from fun hr => hc (hr i y x (by omega) HY.out HX.out))
      have hd : x.id ≤ y.id := by omega
      go_wp2
      go_ret
      exact ⟨false, rfl, ⟨fun e => (by cases e), fun h => absurd h HN.out⟩, K2.out⟩
end Go.Proofs.Ytpehmmdbjakkpaa
namespace Go.Proofs.Ytpehmmdbjakkpaa
open Go.RowKit Go.Shelf
set_option linter.unusedSimpArgs false
set_option linter.unusedVariables false
set_option maxRecDepth 20000 in
set_option maxHeartbeats 4000000 in
theorem containsN_calls (w : World) (S T : Nat → Prop) (v : Value) (xs : List NV) (fid : Nat) (fr : Array Value) (p : NV → Bool) (eg : Enters Try.prog fid)
    (hf : ∀ (W : World) (x : NV), Kept w T W → Calls Try.prog fid (#[.agg #[.int .i64 x.id, .slice x.A x.n x.c]] ++ fr) W fun e W' => e = .returned (.bool (p x)) ∧ Below W.heap.size W W')
    (h : Row tNV w S v xs) (hlen : xs.length ≤ 1000000) : Calls Try.prog 131 #[v, .func (.func fid) #[] fr] w (BPost w (∃ x ∈ xs, p x = true)) := by
  have H := Lib.hid h
  have HF := Lib.hid hf
  obtain ⟨A, c, rfl⟩ := h.slice
  have HE := Lib.hid (show (decide (0 ≤ idxB p xs) = true) ↔ ∃ x ∈ xs, p x = true by
    rcases idxB_cases p xs with ⟨e, hno⟩ | ⟨j, x, e, hx, hp, _⟩
    · rw [e]
      refine ⟨fun h => by simp at h, fun ⟨x, hx, hp⟩ => ?_⟩
      obtain ⟨i, hi⟩ := List.mem_iff_getElem?.1 hx
      rw [hno i x hi] at hp
      cases hp
    · rw [e]
      exact ⟨fun _ => ⟨x, List.mem_of_getElem? hx, hp⟩, fun _ => decide_eq_true (by omega)⟩)
  clear h hf
  go_enter Try.func131, Try.ntmps131
  go_wp2_with fail
  refine (indexN_calls w S T _ xs fid fr p eg HF.out H.out hlen).mono ?_
  rintro e w1 ⟨rfl, hb⟩
  have HB := Lib.hid hb
  clear hb
  generalize idxB p xs = ix at *
  go_wp2
  refine bodyPost_ret (v := .bool (decide (0 ≤ ix))) (by simp [results, Try.results131, go_sem]; try rfl) rfl ⟨_, rfl, HE.out, HB.out⟩
def outN (next : Int) (x : NV) : Bool := decide (x.id < 1) || decide (next ≤ x.id)
set_option maxRecDepth 20000 in
set_option maxHeartbeats 4000000 in
theorem outN_calls (w : World) (x : NV) (next : Int) (cb nb : Nat) (h1 : cb < w.heap.size) (h2 : nb < w.heap.size) (hc : w.cell? ⟨cb, 0, none⟩ = some (.func (.func 95) #[] #[])) (hn : w.cell? ⟨nb, 0, none⟩ = some (.int .i64 next)) :
    Calls Try.prog 129 #[.agg #[.int .i64 x.id, .slice x.A x.n x.c], .pointer (some ⟨cb, 0, none⟩), .pointer (some ⟨nb, 0, none⟩)] w fun e w' => e = .returned (.bool (outN next x)) ∧ Below w.heap.size w w' := by
  have g1 : cb < w.heap.size + 1 := by omega
  have g2 : nb < w.heap.size + 1 := by omega
  have g3 : w.heap.size < w.heap.size + 1 := by omega
  have eg' : ∀ args w, (callFunc 95 args).run Try.prog w = .ok (.enter 95 args) w := keyN_enters
  have KB := Lib.hid (Below.heap1 w (.cells #[.int .i64 x.id, .slice x.A x.n x.c] 32))
  go_enter Try.func129, Try.ntmps129
  go_wp2_with fail
  refine wp_region_schedK (fun _ => True) [(0, true), (1, true), (2, false), (3, true), (4, true), (5, true), (6, true), (8, true), (7, false), (9, true), (10, true), (11, true)] (by kernel_rfl) (by kernel_rfl) (fun hS => ?_)
  have HK := Lib.hid hS
  clear hS
  repeat (first | (refine sched_take (v := ?_) (by simp only [List.getElem?_toArray, List.getElem?_cons_succ, List.getElem?_cons_zero]; rfl) (Or.inl ⟨by rfl, fun W hW => ?_⟩) HK.out ?_; rotate_left; (have hc := fun b o hb => hW.cell b o trivial hb; clear hW; go_simp; with_reducible rfl); simp only [Act.put, List.setIfInBounds_toArray, List.set_cons_zero, List.set_cons_succ]) | (refine sched_take (by simp only [List.getElem?_toArray, List.getElem?_cons_succ, List.getElem?_cons_zero]; rfl) (Or.inr ⟨by rfl, rfl⟩) HK.out ?_; simp only [Act.put, List.setIfInBounds_toArray, List.set_cons_zero, List.set_cons_succ]))
  refine sched_step (by simp only [List.getElem?_toArray, List.getElem?_cons_succ, List.getElem?_cons_zero]; rfl) ?_
  go_wp2_with fail
  refine (keyN_calls _ x).mono ?_
  rintro e w1 ⟨rfl, hb1⟩
  have K1 := Lib.hid (KB.out.drew.trans (hb1.mono (by simp)))
  have HK1 := Lib.hid (HK.out.below hb1)
  clear hb1
  go_wp2_with fail
  refine sched_on HK1.out ?_
  by_cases hlo : x.id < 1
  · have HE := Lib.hid (show outN next x = true by unfold outN; rw [decide_eq_true hlo]; rfl)
    repeat (first | (refine sched_take (v := ?_) (by simp only [List.getElem?_toArray, List.getElem?_cons_succ, List.getElem?_cons_zero]; rfl) (Or.inl ⟨by rfl, fun W hW => ?_⟩) HK1.out ?_; rotate_left; (have hc := fun b o hb => hW.cell b o trivial hb; clear hW; go_simp; with_reducible rfl); simp only [Act.put, List.setIfInBounds_toArray, List.set_cons_zero, List.set_cons_succ]) | (refine sched_take (by simp only [List.getElem?_toArray, List.getElem?_cons_succ, List.getElem?_cons_zero]; rfl) (Or.inr ⟨by rfl, rfl⟩) HK1.out ?_; simp only [Act.put, List.setIfInBounds_toArray, List.set_cons_zero, List.set_cons_succ]))
    refine sched_step (by simp only [List.getElem?_toArray, List.getElem?_cons_succ, List.getElem?_cons_zero]; rfl) ?_
    go_wp2_with fail
    refine sched_on HK1.out ?_
    repeat (first | (refine sched_take (v := ?_) (by simp only [List.getElem?_toArray, List.getElem?_cons_succ, List.getElem?_cons_zero]; rfl) (Or.inl ⟨by rfl, fun W hW => ?_⟩) HK1.out ?_; rotate_left; (have hc := fun b o hb => hW.cell b o trivial hb; clear hW; go_simp; with_reducible rfl); simp only [Act.put, List.setIfInBounds_toArray, List.set_cons_zero, List.set_cons_succ]) | (refine sched_take (by simp only [List.getElem?_toArray, List.getElem?_cons_succ, List.getElem?_cons_zero]; rfl) (Or.inr ⟨by rfl, rfl⟩) HK1.out ?_; simp only [Act.put, List.setIfInBounds_toArray, List.set_cons_zero, List.set_cons_succ]))
    refine sched_done ?_
    clear HK HK1
    go_wp2
    go_ret
    exact ⟨by rw [HE.out]; rfl, K1.out⟩
  · have HE := Lib.hid (show outN next x = decide (next ≤ x.id) by unfold outN; rw [decide_eq_false hlo]; rfl)
    repeat (first | (refine sched_take (v := ?_) (by simp only [List.getElem?_toArray, List.getElem?_cons_succ, List.getElem?_cons_zero]; rfl) (Or.inl ⟨by rfl, fun W hW => ?_⟩) HK1.out ?_; rotate_left; (have hc := fun b o hb => hW.cell b o trivial hb; clear hW; go_simp; with_reducible rfl); simp only [Act.put, List.setIfInBounds_toArray, List.set_cons_zero, List.set_cons_succ]) | (refine sched_take (by simp only [List.getElem?_toArray, List.getElem?_cons_succ, List.getElem?_cons_zero]; rfl) (Or.inr ⟨by rfl, rfl⟩) HK1.out ?_; simp only [Act.put, List.setIfInBounds_toArray, List.set_cons_zero, List.set_cons_succ]))
    refine sched_step (by simp only [List.getElem?_toArray, List.getElem?_cons_succ, List.getElem?_cons_zero]; rfl) ?_
    go_wp2_with fail
    refine (keyN_calls _ x).mono ?_
    rintro e w2 ⟨rfl, hb2⟩
    have K2 := Lib.hid (K1.out.trans (hb2.mono K1.out.size))
    have HK2 := Lib.hid (HK1.out.below hb2)
    clear hb2
    go_wp2_with fail
    refine sched_on HK2.out ?_
    repeat (first | (refine sched_take (v := ?_) (by simp only [List.getElem?_toArray, List.getElem?_cons_succ, List.getElem?_cons_zero]; rfl) (Or.inl ⟨by rfl, fun W hW => ?_⟩) HK2.out ?_; rotate_left; (have hc := fun b o hb => hW.cell b o trivial hb; clear hW; go_simp; with_reducible rfl); simp only [Act.put, List.setIfInBounds_toArray, List.set_cons_zero, List.set_cons_succ]) | (refine sched_take (by simp only [List.getElem?_toArray, List.getElem?_cons_succ, List.getElem?_cons_zero]; rfl) (Or.inr ⟨by rfl, rfl⟩) HK2.out ?_; simp only [Act.put, List.setIfInBounds_toArray, List.set_cons_zero, List.set_cons_succ]))
    refine sched_done ?_
    clear HK HK1 HK2
    go_wp2
    go_ret
    exact ⟨by rw [HE.out]; rfl, K2.out⟩
theorem outN_enters : Enters Try.prog 129 := enters_of Try.func129 (by kernel_rfl) rfl
set_option maxRecDepth 20000 in
set_option maxHeartbeats 4000000 in
theorem containsE_calls (w : World) (S T : Nat → Prop) (v : Value) (xs : List EdgeD) (fid : Nat) (fr : Array Value) (p : EdgeD → Bool) (eg : Enters Try.prog fid)
    (hf : ∀ (W : World) (x : EdgeD), Kept w T W → Calls Try.prog fid (#[.agg #[.int .i64 x.id, .int .i64 x.frm, .int .i64 x.to]] ++ fr) W fun e W' => e = .returned (.bool (p x)) ∧ Below W.heap.size W W')
    (h : Row tEdge w S v xs) (hlen : xs.length ≤ 1000000) : Calls Try.prog 98 #[v, .func (.func fid) #[] fr] w (BPost w (∃ x ∈ xs, p x = true)) := by
  have H := Lib.hid h
  have HF := Lib.hid hf
  obtain ⟨A, c, rfl⟩ := h.slice
  have HE := Lib.hid (show (decide (0 ≤ idxB p xs) = true) ↔ ∃ x ∈ xs, p x = true by
    rcases idxB_cases p xs with ⟨e, hno⟩ | ⟨j, x, e, hx, hp, _⟩
    · rw [e]
      refine ⟨fun h => by simp at h, fun ⟨x, hx, hp⟩ => ?_⟩
      obtain ⟨i, hi⟩ := List.mem_iff_getElem?.1 hx
      rw [hno i x hi] at hp
      cases hp
    · rw [e]
      exact ⟨fun _ => ⟨x, List.mem_of_getElem? hx, hp⟩, fun _ => decide_eq_true (by omega)⟩)
  clear h hf
  go_enter Try.func98, Try.ntmps98
  go_wp2_with fail
  refine (indexE_calls w S T _ xs fid fr p eg HF.out H.out hlen).mono ?_
  rintro e w1 ⟨rfl, hb⟩
  have HB := Lib.hid hb
  clear hb
  generalize idxB p xs = ix at *
  go_wp2
  refine bodyPost_ret (v := .bool (decide (0 ≤ ix))) (by simp [results, Try.results98, go_sem]; try rfl) rfl ⟨_, rfl, HE.out, HB.out⟩
def outE (next : Int) (x : EdgeD) : Bool := decide (x.id < 1) || decide (next ≤ x.id)
set_option maxRecDepth 20000 in
set_option maxHeartbeats 4000000 in
theorem outE_calls (w : World) (x : EdgeD) (next : Int) (cb nb : Nat) (h1 : cb < w.heap.size) (h2 : nb < w.heap.size) (hc : w.cell? ⟨cb, 0, none⟩ = some (.func (.func 97) #[] #[])) (hn : w.cell? ⟨nb, 0, none⟩ = some (.int .i64 next)) :
    Calls Try.prog 132 #[.agg #[.int .i64 x.id, .int .i64 x.frm, .int .i64 x.to], .pointer (some ⟨cb, 0, none⟩), .pointer (some ⟨nb, 0, none⟩)] w fun e w' => e = .returned (.bool (outE next x)) ∧ Below w.heap.size w w' := by
  have g1 : cb < w.heap.size + 1 := by omega
  have g2 : nb < w.heap.size + 1 := by omega
  have g3 : w.heap.size < w.heap.size + 1 := by omega
  have eg' : ∀ args w, (callFunc 97 args).run Try.prog w = .ok (.enter 97 args) w := keyE_enters
  have KB := Lib.hid (Below.heap1 w (.cells #[.int .i64 x.id, .int .i64 x.frm, .int .i64 x.to] 40))
  go_enter Try.func132, Try.ntmps132
  go_wp2_with fail
  refine wp_region_schedK (fun _ => True) [(0, true), (1, true), (2, false), (3, true), (4, true), (5, true), (6, true), (8, true), (7, false), (9, true), (10, true), (11, true)] (by kernel_rfl) (by kernel_rfl) (fun hS => ?_)
  have HK := Lib.hid hS
  clear hS
  repeat (first | (refine sched_take (v := ?_) (by simp only [List.getElem?_toArray, List.getElem?_cons_succ, List.getElem?_cons_zero]; rfl) (Or.inl ⟨by rfl, fun W hW => ?_⟩) HK.out ?_; rotate_left; (have hc := fun b o hb => hW.cell b o trivial hb; clear hW; go_simp; with_reducible rfl); simp only [Act.put, List.setIfInBounds_toArray, List.set_cons_zero, List.set_cons_succ]) | (refine sched_take (by simp only [List.getElem?_toArray, List.getElem?_cons_succ, List.getElem?_cons_zero]; rfl) (Or.inr ⟨by rfl, rfl⟩) HK.out ?_; simp only [Act.put, List.setIfInBounds_toArray, List.set_cons_zero, List.set_cons_succ]))
  refine sched_step (by simp only [List.getElem?_toArray, List.getElem?_cons_succ, List.getElem?_cons_zero]; rfl) ?_
  go_wp2_with fail
  refine (keyE_calls _ x).mono ?_
  rintro e w1 ⟨rfl, hb1⟩
  have K1 := Lib.hid (KB.out.drew.trans (hb1.mono (by simp)))
  have HK1 := Lib.hid (HK.out.below hb1)
  clear hb1
  go_wp2_with fail
  refine sched_on HK1.out ?_
  by_cases hlo : x.id < 1
  · have HE := Lib.hid (show outE next x = true by unfold outE; rw [decide_eq_true hlo]; rfl)
    repeat (first | (refine sched_take (v := ?_) (by simp only [List.getElem?_toArray, List.getElem?_cons_succ, List.getElem?_cons_zero]; rfl) (Or.inl ⟨by rfl, fun W hW => ?_⟩) HK1.out ?_; rotate_left; (have hc := fun b o hb => hW.cell b o trivial hb; clear hW; go_simp; with_reducible rfl); simp only [Act.put, List.setIfInBounds_toArray, List.set_cons_zero, List.set_cons_succ]) | (refine sched_take (by simp only [List.getElem?_toArray, List.getElem?_cons_succ, List.getElem?_cons_zero]; rfl) (Or.inr ⟨by rfl, rfl⟩) HK1.out ?_; simp only [Act.put, List.setIfInBounds_toArray, List.set_cons_zero, List.set_cons_succ]))
    refine sched_step (by simp only [List.getElem?_toArray, List.getElem?_cons_succ, List.getElem?_cons_zero]; rfl) ?_
    go_wp2_with fail
    refine sched_on HK1.out ?_
    repeat (first | (refine sched_take (v := ?_) (by simp only [List.getElem?_toArray, List.getElem?_cons_succ, List.getElem?_cons_zero]; rfl) (Or.inl ⟨by rfl, fun W hW => ?_⟩) HK1.out ?_; rotate_left; (have hc := fun b o hb => hW.cell b o trivial hb; clear hW; go_simp; with_reducible rfl); simp only [Act.put, List.setIfInBounds_toArray, List.set_cons_zero, List.set_cons_succ]) | (refine sched_take (by simp only [List.getElem?_toArray, List.getElem?_cons_succ, List.getElem?_cons_zero]; rfl) (Or.inr ⟨by rfl, rfl⟩) HK1.out ?_; simp only [Act.put, List.setIfInBounds_toArray, List.set_cons_zero, List.set_cons_succ]))
    refine sched_done ?_
    clear HK HK1
    go_wp2
    go_ret
    exact ⟨by rw [HE.out]; rfl, K1.out⟩
  · have HE := Lib.hid (show outE next x = decide (next ≤ x.id) by unfold outE; rw [decide_eq_false hlo]; rfl)
    repeat (first | (refine sched_take (v := ?_) (by simp only [List.getElem?_toArray, List.getElem?_cons_succ, List.getElem?_cons_zero]; rfl) (Or.inl ⟨by rfl, fun W hW => ?_⟩) HK1.out ?_; rotate_left; (have hc := fun b o hb => hW.cell b o trivial hb; clear hW; go_simp; with_reducible rfl); simp only [Act.put, List.setIfInBounds_toArray, List.set_cons_zero, List.set_cons_succ]) | (refine sched_take (by simp only [List.getElem?_toArray, List.getElem?_cons_succ, List.getElem?_cons_zero]; rfl) (Or.inr ⟨by rfl, rfl⟩) HK1.out ?_; simp only [Act.put, List.setIfInBounds_toArray, List.set_cons_zero, List.set_cons_succ]))
    refine sched_step (by simp only [List.getElem?_toArray, List.getElem?_cons_succ, List.getElem?_cons_zero]; rfl) ?_
    go_wp2_with fail
    refine (keyE_calls _ x).mono ?_
    rintro e w2 ⟨rfl, hb2⟩
    have K2 := Lib.hid (K1.out.trans (hb2.mono K1.out.size))
    have HK2 := Lib.hid (HK1.out.below hb2)
    clear hb2
    go_wp2_with fail
    refine sched_on HK2.out ?_
    repeat (first | (refine sched_take (v := ?_) (by simp only [List.getElem?_toArray, List.getElem?_cons_succ, List.getElem?_cons_zero]; rfl) (Or.inl ⟨by rfl, fun W hW => ?_⟩) HK2.out ?_; rotate_left; (have hc := fun b o hb => hW.cell b o trivial hb; clear hW; go_simp; with_reducible rfl); simp only [Act.put, List.setIfInBounds_toArray, List.set_cons_zero, List.set_cons_succ]) | (refine sched_take (by simp only [List.getElem?_toArray, List.getElem?_cons_succ, List.getElem?_cons_zero]; rfl) (Or.inr ⟨by rfl, rfl⟩) HK2.out ?_; simp only [Act.put, List.setIfInBounds_toArray, List.set_cons_zero, List.set_cons_succ]))
    refine sched_done ?_
    clear HK HK1 HK2
    go_wp2
    go_ret
    exact ⟨by rw [HE.out]; rfl, K2.out⟩
theorem outE_enters : Enters Try.prog 132 := enters_of Try.func132 (by kernel_rfl) rfl
theorem outN_iff {next : Int} {xs : List NV} : (¬ ∃ x ∈ xs, outN next x = true) ↔ ∀ x ∈ xs, 1 ≤ x.id ∧ x.id < next := by
  constructor
  · intro h x hx
    have h1 : ¬ outN next x = true := fun e => h ⟨x, hx, e⟩
    simp [outN] at h1
    omega
  · rintro h ⟨x, hx, e⟩
    have := h x hx
    simp [outN] at e
    omega
set_option maxRecDepth 20000 in
set_option maxHeartbeats 4000000 in
theorem countedN_calls (w : World) (S : Nat → Prop) (v : Value) (xs : List NV) (next : Int) (h : Row tNV w S v xs) (hlen : xs.length ≤ 1000000) : Calls Try.prog 94 #[v, .func (.func 95) #[] #[], .int .i64 next] w (BPost w (RisesN xs xs.length ∧ ∀ x ∈ xs, 1 ≤ x.id ∧ x.id < next)) := by
  obtain ⟨A, c, rfl⟩ := h.slice
  have H := Lib.hid h
  clear h
  go_enter Try.func94, Try.ntmps94
  go_wp2_with fail
  have hW0 : Below w.heap.size w ((w.alloc (.cells #[.func (.func 95) #[] #[]] 121)).alloc (.cells #[.int .i64 next] 3)) := ((Below.refl w.heap.size w).alloc (Nat.le_refl _) _).alloc (by simp) _
  have KW := Lib.hid hW0
  have c0 : ((w.alloc (.cells #[.func (.func 95) #[] #[]] 121)).alloc (.cells #[.int .i64 next] 3)).cell? ⟨w.heap.size, 0, none⟩ = some (.func (.func 95) #[] #[]) := by simp [go_sem]
  have c1 : ((w.alloc (.cells #[.func (.func 95) #[] #[]] 121)).alloc (.cells #[.int .i64 next] 3)).cell? ⟨w.heap.size + 1, 0, none⟩ = some (.int .i64 next) := by simp [go_sem]
  have C := Lib.hid (And.intro c0 c1)
  have s0 : ((w.alloc (.cells #[.func (.func 95) #[] #[]] 121)).alloc (.cells #[.int .i64 next] 3)).heap.size = w.heap.size + 1 + 1 := by simp
  clear hW0 c0 c1
  generalize hW : (w.alloc (.cells #[.func (.func 95) #[] #[]] 121)).alloc (.cells #[.int .i64 next] 3) = W0 at *
  clear hW
  refine (risesN_calls W0 S _ xs (H.out.below KW.out) hlen).mono ?_
  rintro e w1 ⟨b, rfl, hb, hb1⟩
  have s1 := hb1.size
  have K1 := Lib.hid (KW.out.trans (hb1.mono KW.out.size))
  have C1 := Lib.hid (And.intro ((hb1.cell (p := ⟨w.heap.size, 0, none⟩) (by simp only; omega)).trans C.out.1) ((hb1.cell (p := ⟨w.heap.size + 1, 0, none⟩) (by simp only; omega)).trans C.out.2))
  have HB := Lib.hid hb
  clear hb1 hb C
  cases b
  · have HN := Lib.hid (show ¬ (RisesN xs xs.length ∧ ∀ x ∈ xs, 1 ≤ x.id ∧ x.id < next) from fun h => by have := HB.out.2 h.1; cases this)
    go_wp2
    refine bodyPost_ret (v := .bool false) (by simp [results, Try.results94, go_sem]; try rfl) rfl ⟨false, rfl, ⟨fun e => (by cases e), fun h => absurd h HN.out⟩, K1.out⟩
  have HR := Lib.hid (HB.out.1 rfl)
  go_wp2_with fail
  refine (containsN_calls w1 S (fun k => k = w.heap.size ∨ k = w.heap.size + 1) _ xs _ _ (outN next) outN_enters (fun W x hK => ?_) (H.out.below K1.out) hlen).mono ?_
  · refine outN_calls W x next w.heap.size (w.heap.size + 1) (by have := hK.1; omega) (by have := hK.1; omega) ?_ ?_
    · rw [hK.cell _ _ (.inl rfl) (by omega)]; exact C1.out.1
    · rw [hK.cell _ _ (.inr rfl) (by omega)]; exact C1.out.2
  rintro e w2 ⟨b2, rfl, hb2, hbl⟩
  have K2 := Lib.hid (K1.out.trans (hbl.mono K1.out.size))
  have HE := Lib.hid (show ((!b2) = true) ↔ (RisesN xs xs.length ∧ ∀ x ∈ xs, 1 ≤ x.id ∧ x.id < next) by
    rw [Bool.not_eq_true', ← Bool.not_eq_true, hb2, outN_iff]
    exact ⟨fun h => ⟨HR.out, h⟩, fun h => h.2⟩)
  clear hb2 hbl
  go_wp2
  refine bodyPost_ret (v := .bool (!b2)) (by simp [results, Try.results94, go_sem]; try rfl) rfl ⟨_, rfl, HE.out, K2.out⟩
theorem outE_iff {next : Int} {xs : List EdgeD} : (¬ ∃ x ∈ xs, outE next x = true) ↔ ∀ x ∈ xs, 1 ≤ x.id ∧ x.id < next := by
  constructor
  · intro h x hx
    have h1 : ¬ outE next x = true := fun e => h ⟨x, hx, e⟩
    simp [outE] at h1
    omega
  · rintro h ⟨x, hx, e⟩
    have := h x hx
    simp [outE] at e
    omega
set_option maxRecDepth 20000 in
set_option maxHeartbeats 4000000 in
theorem countedE_calls (w : World) (S : Nat → Prop) (v : Value) (xs : List EdgeD) (next : Int) (h : Row tEdge w S v xs) (hlen : xs.length ≤ 1000000) : Calls Try.prog 96 #[v, .func (.func 97) #[] #[], .int .i64 next] w (BPost w (RisesE xs xs.length ∧ ∀ x ∈ xs, 1 ≤ x.id ∧ x.id < next)) := by
  obtain ⟨A, c, rfl⟩ := h.slice
  have H := Lib.hid h
  clear h
  go_enter Try.func96, Try.ntmps96
  go_wp2_with fail
  have hW0 : Below w.heap.size w ((w.alloc (.cells #[.func (.func 97) #[] #[]] 123)).alloc (.cells #[.int .i64 next] 3)) := ((Below.refl w.heap.size w).alloc (Nat.le_refl _) _).alloc (by simp) _
  have KW := Lib.hid hW0
  have c0 : ((w.alloc (.cells #[.func (.func 97) #[] #[]] 123)).alloc (.cells #[.int .i64 next] 3)).cell? ⟨w.heap.size, 0, none⟩ = some (.func (.func 97) #[] #[]) := by simp [go_sem]
  have c1 : ((w.alloc (.cells #[.func (.func 97) #[] #[]] 123)).alloc (.cells #[.int .i64 next] 3)).cell? ⟨w.heap.size + 1, 0, none⟩ = some (.int .i64 next) := by simp [go_sem]
  have C := Lib.hid (And.intro c0 c1)
  have s0 : ((w.alloc (.cells #[.func (.func 97) #[] #[]] 123)).alloc (.cells #[.int .i64 next] 3)).heap.size = w.heap.size + 1 + 1 := by simp
  clear hW0 c0 c1
  generalize hW : (w.alloc (.cells #[.func (.func 97) #[] #[]] 123)).alloc (.cells #[.int .i64 next] 3) = W0 at *
  clear hW
  refine (risesE_calls W0 S _ xs (H.out.below KW.out) hlen).mono ?_
  rintro e w1 ⟨b, rfl, hb, hb1⟩
  have s1 := hb1.size
  have K1 := Lib.hid (KW.out.trans (hb1.mono KW.out.size))
  have C1 := Lib.hid (And.intro ((hb1.cell (p := ⟨w.heap.size, 0, none⟩) (by simp only; omega)).trans C.out.1) ((hb1.cell (p := ⟨w.heap.size + 1, 0, none⟩) (by simp only; omega)).trans C.out.2))
  have HB := Lib.hid hb
  clear hb1 hb C
  cases b
  · have HN := Lib.hid (show ¬ (RisesE xs xs.length ∧ ∀ x ∈ xs, 1 ≤ x.id ∧ x.id < next) from fun h => by have := HB.out.2 h.1; cases this)
    go_wp2
    refine bodyPost_ret (v := .bool false) (by simp [results, Try.results96, go_sem]; try rfl) rfl ⟨false, rfl, ⟨fun e => (by cases e), fun h => absurd h HN.out⟩, K1.out⟩
  have HR := Lib.hid (HB.out.1 rfl)
  go_wp2_with fail
  refine (containsE_calls w1 S (fun k => k = w.heap.size ∨ k = w.heap.size + 1) _ xs _ _ (outE next) outE_enters (fun W x hK => ?_) (H.out.below K1.out) hlen).mono ?_
  · refine outE_calls W x next w.heap.size (w.heap.size + 1) (by have := hK.1; omega) (by have := hK.1; omega) ?_ ?_
    · rw [hK.cell _ _ (.inl rfl) (by omega)]; exact C1.out.1
    · rw [hK.cell _ _ (.inr rfl) (by omega)]; exact C1.out.2
  rintro e w2 ⟨b2, rfl, hb2, hbl⟩
  have K2 := Lib.hid (K1.out.trans (hbl.mono K1.out.size))
  have HE := Lib.hid (show ((!b2) = true) ↔ (RisesE xs xs.length ∧ ∀ x ∈ xs, 1 ≤ x.id ∧ x.id < next) by
    rw [Bool.not_eq_true', ← Bool.not_eq_true, hb2, outE_iff]
    exact ⟨fun h => ⟨HR.out, h⟩, fun h => h.2⟩)
  clear hb2 hbl
  go_wp2
  refine bodyPost_ret (v := .bool (!b2)) (by simp [results, Try.results96, go_sem]; try rfl) rfl ⟨_, rfl, HE.out, K2.out⟩
end Go.Proofs.Ytpehmmdbjakkpaa
namespace Go.Proofs.Ytpehmmdbjakkpaa
open Go.RowKit Go.Shelf
set_option linter.unusedSimpArgs false
set_option linter.unusedVariables false
theorem min5 (a b c d e : Int) : ∃ m : Int, (m < 1 ↔ a < 1 ∨ b < 1 ∨ c < 1 ∨ d < 1 ∨ e < 1) ∧ ∀ (P : Program) (ts : Array TypeId) (t : TypeId) (W : World), (Builtin.min_ ts t #[.int .i64 a, .int .i64 b, .int .i64 c, .int .i64 d, .int .i64 e]).run P W = .ok (.int .i64 m) W := by
  refine ⟨_, ?_, fun P ts t W => by simp [Builtin.min_, Builtin.min2]; rfl⟩
  repeat' split
  all_goals omega
theorem max3 (a b c : Int) : ∃ m : Int, (64 < m ↔ 64 < a ∨ 64 < b ∨ 64 < c) ∧ ∀ (P : Program) (ts : Array TypeId) (t : TypeId) (W : World), (Builtin.max_ ts t #[.int .i64 a, .int .i64 b, .int .i64 c]).run P W = .ok (.int .i64 m) W := by
  refine ⟨_, ?_, fun P ts t W => by simp [Builtin.max_, Builtin.max2]; rfl⟩
  repeat' split
  all_goals omega
theorem max2 (a b : Int) : ∃ m : Int, (64 < m ↔ 64 < a ∨ 64 < b) ∧ ∀ (P : Program) (ts : Array TypeId) (t : TypeId) (W : World), (Builtin.max_ ts t #[.int .i64 a, .int .i64 b]).run P W = .ok (.int .i64 m) W := by
  refine ⟨_, ?_, fun P ts t W => by simp [Builtin.max_, Builtin.max2]; rfl⟩
  repeat' split
  all_goals omega
theorem min2' (a b : Int) : ∃ m : Int, (m < 1 ↔ a < 1 ∨ b < 1) ∧ ∀ (P : Program) (ts : Array TypeId) (t : TypeId) (W : World), (Builtin.min_ ts t #[.int .i64 a, .int .i64 b]).run P W = .ok (.int .i64 m) W := by
  refine ⟨_, ?_, fun P ts t W => by simp [Builtin.min_, Builtin.min2]; rfl⟩
  repeat' split
  all_goals omega
set_option maxRecDepth 20000 in
set_option maxHeartbeats 4000000 in
theorem place_calls (w : World) (c : CfgD) : Calls Try.prog 90 #[c.val] w fun e w' => ∃ x : Int, e = .returned (.int .i64 x) ∧ ((x = 0 ∧ c.ok) ∨ (x = 1 ∧ ¬ c.ok)) ∧ Below w.heap.size w w' := by
  obtain ⟨m1, hm1, r1⟩ := min5 c.nodes c.edges c.props c.ids c.eids
  obtain ⟨m2, hm2, r2⟩ := max3 c.nodes c.edges c.props
  obtain ⟨m3, hm3, r3⟩ := max2 c.ids c.eids
  have hok : c.ok ↔ ¬ m1 < 1 ∧ ¬ 64 < m2 ∧ ¬ 64 < m3 := by
    rw [hm1, hm2, hm3]
    unfold CfgD.ok
    omega
  have HOK := Lib.hid hok
  have r1 := r1 Try.prog
  have r2 := r2 Try.prog
  have r3 := r3 Try.prog
  clear hm1 hm2 hm3 hok
  unfold CfgD.val
  have KB := Lib.hid (Below.heap1 w (.cells #[.int .i64 c.nodes, .int .i64 c.edges, .int .i64 c.props, .int .i64 c.ids, .int .i64 c.eids] 23))
  by_cases h1 : m1 < 1
  · have HN := Lib.hid (show ¬ c.ok from fun h => (HOK.out.1 h).1 h1)
    have hd : decide (m1 < 1) = true := decide_eq_true h1
    go_enter Try.func90, Try.ntmps90
    go_wp2
    refine bodyPost_ret (v := .int .i64 1) (by simp [results, Try.results90, go_sem]; try rfl) rfl ⟨1, rfl, .inr ⟨rfl, HN.out⟩, KB.out⟩
  have hd : decide (m1 < 1) = false := decide_eq_false h1
  by_cases h2 : 64 < m2
  · have HN := Lib.hid (show ¬ c.ok from fun h => (HOK.out.1 h).2.1 h2)
    have hd2 : decide (64 < m2) = true := decide_eq_true h2
    go_enter Try.func90, Try.ntmps90
    go_wp2
    refine bodyPost_ret (v := .int .i64 1) (by simp [results, Try.results90, go_sem]; try rfl) rfl ⟨1, rfl, .inr ⟨rfl, HN.out⟩, KB.out⟩
  have hd2 : decide (64 < m2) = false := decide_eq_false h2
  by_cases h3 : 64 < m3
  · have HN := Lib.hid (show ¬ c.ok from fun h => (HOK.out.1 h).2.2 h3)
    have hd3 : decide (64 < m3) = true := decide_eq_true h3
    go_enter Try.func90, Try.ntmps90
    go_wp2
    refine bodyPost_ret (v := .int .i64 1) (by simp [results, Try.results90, go_sem]; try rfl) rfl ⟨1, rfl, .inr ⟨rfl, HN.out⟩, KB.out⟩
  have hd3 : decide (64 < m3) = false := decide_eq_false h3
  have HY := Lib.hid (HOK.out.2 ⟨h1, h2, h3⟩)
  go_enter Try.func90, Try.ntmps90
  go_wp2
  refine bodyPost_ret (v := .int .i64 0) (by simp [results, Try.results90, go_sem]; try rfl) rfl ⟨0, rfl, .inl ⟨rfl, HY.out⟩, KB.out⟩
/-- Has an edge an end that is nowhere? -/
def lostE (g : GraphD) (x : EdgeD) : Bool := decide (atOf g.nodes x.frm < 0) || decide (atOf g.nodes x.to < 0)
set_option maxRecDepth 20000 in
set_option maxHeartbeats 4000000 in
theorem lost_calls (w : World) (S : Nat → Prop) (g : GraphD) (vn ve : Value) (x : EdgeD) (gb : Nat) (h1 : gb < w.heap.size) (hb : Box4 w gb vn ve (.int .i64 g.nn) (.int .i64 g.ne)) (h : Gr w S g vn ve) (hs : g.nodes.length ≤ 1000000) :
    Calls Try.prog 93 #[.agg #[.int .i64 x.id, .int .i64 x.frm, .int .i64 x.to], .pointer (some ⟨gb, 0, none⟩)] w fun e w' => e = .returned (.bool (lostE g x)) ∧ Below w.heap.size w w' := by
  obtain ⟨⟨A1, c1, rfl⟩, ⟨A2, c2, rfl⟩⟩ := h.slices
  have KB := Lib.hid (Below.heap1 w (.cells #[.int .i64 x.id, .int .i64 x.frm, .int .i64 x.to] 40))
  have H := Lib.hid h
  have BX := Lib.hid (hb.keep (KB.out.block gb h1))
  clear h hb
  obtain ⟨x0, x1, x2, x3, xf⟩ := BX.out
  have g1 : gb < w.heap.size + 1 := by omega
  have g2 : w.heap.size < w.heap.size + 1 := by omega
  go_enter Try.func93, Try.ntmps93
  go_wp2_with fail
  refine (at_calls _ S g _ _ x.frm (H.out.below KB.out) hs).mono ?_
  rintro e w1 ⟨rfl, hb1⟩
  have s1 := hb1.size
  simp only [World.size_alloc] at s1
  have K1 := Lib.hid (KB.out.trans (hb1.mono (by simp)))
  have BX1 := Lib.hid (BX.out.keep (hb1.block gb (by simp; omega)))
  have e0 : w1.cell? ⟨w.heap.size, 2, none⟩ = some (.int .i64 x.to) := (hb1.cell (p := ⟨w.heap.size, 2, none⟩) (by simp)).trans (by simp [go_sem])
  clear hb1 x0 x1 x2 x3 xf
  by_cases hf : atOf g.nodes x.frm < 0
  · have HE := Lib.hid (show lostE g x = true by unfold lostE; rw [decide_eq_true hf]; rfl)
    have hd : decide (atOf g.nodes x.frm < 0) = true := decide_eq_true hf
    clear hf
    generalize atOf g.nodes x.frm = p at *
    go_wp2
    go_ret
    exact ⟨by rw [HE.out]; rfl, K1.out⟩
  have HE := Lib.hid (show lostE g x = decide (atOf g.nodes x.to < 0) by unfold lostE; rw [decide_eq_false hf]; rfl)
  have hd : decide (atOf g.nodes x.frm < 0) = false := decide_eq_false hf
  clear hf
  generalize atOf g.nodes x.frm = p at *
  obtain ⟨x0, x1, x2, x3, xf⟩ := BX1.out
  have g3 : gb < w1.heap.size := by omega
  have g4 : w.heap.size < w1.heap.size := by omega
  go_wp2_with fail
  refine (at_calls _ S g _ _ x.to (H.out.below K1.out) hs).mono ?_
  rintro e w2 ⟨rfl, hb2⟩
  have K2 := Lib.hid (K1.out.trans (hb2.mono K1.out.size))
  clear hb2 x0 x1 x2 x3 xf
  obtain ⟨q, hq⟩ : ∃ q, q = atOf g.nodes x.to := ⟨_, rfl⟩
  rw [← hq] at HE ⊢
  clear hq
  go_wp2
  go_ret
  exact ⟨by rw [HE.out]; rfl, K2.out⟩
theorem lost_enters : Enters Try.prog 93 := enters_of Try.func93 (by kernel_rfl) rfl
end Go.Proofs.Ytpehmmdbjakkpaa
namespace Go.Proofs.Ytpehmmdbjakkpaa
open Go.RowKit Go.Shelf
set_option linter.unusedSimpArgs false
set_option linter.unusedVariables false
theorem nodesOk_iff {g : GraphD} : NodesOk g g.nodes.length ↔ (∀ (i : Nat) (p q : NodeD), g.nodes[i]? = some p → g.nodes[i + 1]? = some q → p.id < q.id) ∧ (∀ x ∈ g.nodes, 1 ≤ x.id ∧ x.id < g.nn) ∧ ∀ x ∈ g.nodes, Rises x.ps x.ps.length := by
  have lt : ∀ {i : Nat} {x : NodeD}, g.nodes[i]? = some x → i < g.nodes.length := fun h => (List.getElem?_eq_some_iff.1 h).1
  constructor
  · intro h
    have h1 : ∀ (i : Nat) (x : NodeD), g.nodes[i]? = some x → 1 ≤ x.id := by
      intro i
      induction i with
      | zero =>
        intro x hx
        have h2 : (0 : Int) < x.id := (h 0 x (lt hx) hx).1
        omega
      | succ i ih =>
        intro x hx
        obtain ⟨y, hy⟩ := getElem?_of_lt (show i < g.nodes.length by have := lt hx; omega)
        have := (h (i + 1) x (lt hx) hx).1
        rw [lastN_succ hy] at this
        have := ih y hy
        omega
    refine ⟨fun i p q hp hq => ?_, fun x hx => ?_, fun x hx => ?_⟩
    · have := (h (i + 1) q (lt hq) hq).1
      rwa [lastN_succ hp] at this
    · obtain ⟨i, hi⟩ := List.mem_iff_getElem?.1 hx
      exact ⟨h1 i x hi, (h i x (lt hi) hi).2.1⟩
    · obtain ⟨i, hi⟩ := List.mem_iff_getElem?.1 hx
      exact (h i x (lt hi) hi).2.2
  · rintro ⟨h1, h2, h3⟩ i x _ hx
    refine ⟨?_, (h2 x (List.mem_of_getElem? hx)).2, h3 x (List.mem_of_getElem? hx)⟩
    cases i with
    | zero =>
      have := (h2 x (List.mem_of_getElem? hx)).1
      show (0 : Int) < x.id
      omega
    | succ i =>
      obtain ⟨y, hy⟩ := getElem?_of_lt (show i < g.nodes.length by have := lt hx; omega)
      rw [lastN_succ hy]
      exact h1 i y x hy hx
theorem edgesOk_iff {g : GraphD} : EdgesOk g g.edges.length ↔ RisesE g.edges g.edges.length ∧ (∀ x ∈ g.edges, 1 ≤ x.id ∧ x.id < g.ne) ∧ ∀ x ∈ g.edges, lostE g x = false := by
  have lt : ∀ {i : Nat} {x : EdgeD}, g.edges[i]? = some x → i < g.edges.length := fun h => (List.getElem?_eq_some_iff.1 h).1
  constructor
  · intro h
    have h1 : ∀ (i : Nat) (x : EdgeD), g.edges[i]? = some x → 1 ≤ x.id := by
      intro i
      induction i with
      | zero =>
        intro x hx
        have h2 : (0 : Int) < x.id := (h 0 x (lt hx) hx).1
        omega
      | succ i ih =>
        intro x hx
        obtain ⟨y, hy⟩ := getElem?_of_lt (show i < g.edges.length by have := lt hx; omega)
        have := (h (i + 1) x (lt hx) hx).1
        rw [lastE_succ hy] at this
        have := ih y hy
        omega
    refine ⟨fun i p q _ hp hq => ?_, fun x hx => ?_, fun x hx => ?_⟩
    · have := (h (i + 1) q (lt hq) hq).1
      rwa [lastE_succ hp] at this
    · obtain ⟨i, hi⟩ := List.mem_iff_getElem?.1 hx
      exact ⟨h1 i x hi, (h i x (lt hi) hi).2.1⟩
    · obtain ⟨i, hi⟩ := List.mem_iff_getElem?.1 hx
      have := (h i x (lt hi) hi).2.2
      unfold lostE
      rw [decide_eq_false (by omega), decide_eq_false (by omega)]
      rfl
  · rintro ⟨h1, h2, h3⟩ i x _ hx
    have h4 := h3 x (List.mem_of_getElem? hx)
    unfold lostE at h4
    simp only [Bool.or_eq_false_iff, decide_eq_false_iff_not] at h4
    refine ⟨?_, (h2 x (List.mem_of_getElem? hx)).2, by omega, by omega⟩
    cases i with
    | zero =>
      have := (h2 x (List.mem_of_getElem? hx)).1
      show (0 : Int) < x.id
      omega
    | succ i =>
      obtain ⟨y, hy⟩ := getElem?_of_lt (show i < g.edges.length by have := lt hx; omega)
      rw [lastE_succ hy]
      exact h1 i y x (lt hx) hy hx
theorem risesN_nodes {w : World} {S : Nat → Prop} {nvs : List NV} {xs : List NodeD} (h : NVs w S nvs xs) : RisesN nvs nvs.length ↔ ∀ (i : Nat) (p q : NodeD), xs[i]? = some p → xs[i + 1]? = some q → p.id < q.id := by
  constructor
  · intro hr i p q hp hq
    obtain ⟨u, hu, hid, _⟩ := h.at hp
    obtain ⟨v, hv, hid2, _⟩ := h.at hq
    have := hr i u v (List.getElem?_eq_some_iff.1 hv).1 hu hv
    omega
  · intro hr i u v hi hu hv
    obtain ⟨p, hp⟩ := getElem?_of_lt (show i < xs.length by rw [← h.len]; omega)
    obtain ⟨q, hq⟩ := getElem?_of_lt (show i + 1 < xs.length by rw [← h.len]; omega)
    have h1 := (h.each i u p hu hp).1
    have h2 := (h.each (i + 1) v q hv hq).1
    have := hr i p q hp hq
    omega
theorem ids_nodes {w : World} {S : Nat → Prop} {nvs : List NV} {xs : List NodeD} (h : NVs w S nvs xs) (n : Int) : (∀ x ∈ nvs, 1 ≤ x.id ∧ x.id < n) ↔ ∀ x ∈ xs, 1 ≤ x.id ∧ x.id < n := by
  constructor
  · intro hr x hx
    obtain ⟨i, hi⟩ := List.mem_iff_getElem?.1 hx
    obtain ⟨u, hu, hid, _⟩ := h.at hi
    rw [← hid]
    exact hr u (List.mem_of_getElem? hu)
  · intro hr u hu
    obtain ⟨i, hi⟩ := List.mem_iff_getElem?.1 hu
    obtain ⟨x, hx⟩ := getElem?_of_lt (show i < xs.length by rw [← h.len]; exact (List.getElem?_eq_some_iff.1 hi).1)
    rw [(h.each i u x hi hx).1]
    exact hr x (List.mem_of_getElem? hx)
def GraphD.mid (g : GraphD) : Prop := g.nodes.length ≤ 1000 ∧ g.edges.length ≤ 1000 ∧ ∀ x ∈ g.nodes, x.ps.length ≤ 1000
theorem GraphD.few.mid {g : GraphD} (h : g.few) : g.mid := ⟨by have := h.1; omega, by have := h.2.1; omega, fun x hx => by have := h.2.2 x hx; omega⟩
theorem psum_mid : ∀ {xs : List NodeD}, (∀ x ∈ xs, x.ps.length ≤ 1000) → psum xs ≤ 1000 * xs.length := by
  intro xs
  induction xs with
  | nil => intro _; simp [psum]
  | cons x xs ih =>
    intro h
    have h1 := ih fun y hy => h y (List.mem_cons_of_mem _ hy)
    have h2 := h x (List.mem_cons_self)
    simp only [psum, List.map_cons, List.sum_cons, List.length_cons] at h1 ⊢
    omega
def CheckPost (w : World) (c : CfgD) (g : GraphD) (e : Ending) (w' : World) : Prop := ∃ x : Int, e = .returned (.int .i64 x) ∧ ((x = 0 ∧ MayG c g) ∨ (x = 1 ∧ ¬ MayG c g)) ∧ Below w.heap.size w w'
set_option maxRecDepth 100000 in
set_option maxHeartbeats 8000000 in
theorem check_calls (w : World) (S : Nat → Prop) (c : CfgD) (g : GraphD) (vn ve : Value) (h : Gr w S g vn ve) (hm : g.mid) : Calls Try.prog 46 #[c.val, .agg #[vn, ve, .int .i64 g.nn, .int .i64 g.ne]] w (CheckPost w c g) := by
  obtain ⟨⟨A1, c1, rfl⟩, ⟨A2, c2, rfl⟩⟩ := h.slices
  have H := Lib.hid h
  have HM := Lib.hid hm
  have hm1 := hm.1
  have hm2 := hm.2.1
  obtain ⟨W0, hW⟩ : ∃ W0, W0 = (w.alloc (.cells #[.int .i64 c.nodes, .int .i64 c.edges, .int .i64 c.props, .int .i64 c.ids, .int .i64 c.eids] 23)).alloc (.cells #[.slice A1 g.nodes.length c1, .slice A2 g.edges.length c2, .int .i64 g.nn, .int .i64 g.ne] 27) := ⟨_, rfl⟩
  have KW := Lib.hid (show Below w.heap.size w W0 by rw [hW]; exact ((Below.refl w.heap.size w).alloc (Nat.le_refl _) _).alloc (by simp) _)
  have BX := Lib.hid (show Box4 W0 (w.heap.size + 1) (.slice A1 g.nodes.length c1) (.slice A2 g.edges.length c2) (.int .i64 g.nn) (.int .i64 g.ne) by
    rw [hW]
    have := Box4.made (w.alloc (.cells #[.int .i64 c.nodes, .int .i64 c.edges, .int .i64 c.props, .int .i64 c.ids, .int .i64 c.eids] 23)) 27 (.slice A1 g.nodes.length c1) (.slice A2 g.edges.length c2) (.int .i64 g.nn) (.int .i64 g.ne)
    rw [World.size_alloc] at this
    exact this)
  have CF := Lib.hid (show W0.heap[w.heap.size]? = some (.cells #[.int .i64 c.nodes, .int .i64 c.edges, .int .i64 c.props, .int .i64 c.ids, .int .i64 c.eids] 23 (0, 0)) by rw [hW]; exact (Below.heap_alloc _ _ _ (by simp)).trans (heap_alloc_new w _))
  have s0 : W0.heap.size = w.heap.size + 1 + 1 := by rw [hW]; simp
  have HW := Lib.hid hW
  clear h hm hW
  unfold CfgD.val
  go_enter Try.func46, Try.ntmps46
  go_wp2_with fail
  rw [← HW.out]
  refine (place_calls W0 c).mono ?_
  rintro e w1 ⟨x, rfl, hx, hb⟩
  have s1 := hb.size
  have K1 := Lib.hid (KW.out.trans (hb.mono KW.out.size))
  have BX1 := Lib.hid (BX.out.keep (hb.block _ (by omega)))
  have CF1 := Lib.hid ((hb.block w.heap.size (by omega)).trans CF.out)
  clear hb KW BX CF HW
  have g1 : w.heap.size < w1.heap.size := by omega
  have g2 : w.heap.size + 1 < w1.heap.size := by omega
  obtain ⟨x0, x1, x2, x3, xf⟩ := BX1.out
  have cf := CF1.out
  have d0 : w1.cell? ⟨w.heap.size, 0, none⟩ = some (.int .i64 c.nodes) := by unfold World.cell?; rw [cf]; rfl
  have d1 : w1.cell? ⟨w.heap.size, 1, none⟩ = some (.int .i64 c.edges) := by unfold World.cell?; rw [cf]; rfl
  have d2 : w1.cell? ⟨w.heap.size, 2, none⟩ = some (.int .i64 c.props) := by unfold World.cell?; rw [cf]; rfl
  have d3 : w1.cell? ⟨w.heap.size, 3, none⟩ = some (.int .i64 c.ids) := by unfold World.cell?; rw [cf]; rfl
  have d4 : w1.cell? ⟨w.heap.size, 4, none⟩ = some (.int .i64 c.eids) := by unfold World.cell?; rw [cf]; rfl
  clear cf
  rcases hx with ⟨rfl, hok⟩ | ⟨rfl, hok⟩
  case inr =>
    have HN := Lib.hid (show ¬ MayG c g from fun h => hok h.head.cfg)
    clear hok
    go_wp2
    refine bodyPost_ret (v := .int .i64 1) (by simp [results, Try.results46, go_sem]; try rfl) rfl ⟨1, rfl, .inr ⟨rfl, HN.out⟩, K1.out⟩
  have HOK := Lib.hid hok
  have hi1 := hok.2.2.2.1
  have hi2 := hok.2.2.2.2
  clear hok
  obtain ⟨m, hm, hmin⟩ := min2' g.nn g.ne
  have hmin := hmin Try.prog
  have hw1 : IntKind.i64.wrap (c.ids + 1) = c.ids + 1 := by rw [IntKind.wrap_i64]; omega
  have hw2 : IntKind.i64.wrap (c.eids + 1) = c.eids + 1 := by rw [IntKind.wrap_i64]; omega
  by_cases h1 : m < 1
  · have HN := Lib.hid (show ¬ MayG c g from fun h => by have := h.head.nn; have := h.head.ne; omega)
    have hd : decide (m < 1) = true := decide_eq_true h1
    clear h1 hm
    go_wp2
    refine bodyPost_ret (v := .int .i64 1) (by simp [results, Try.results46, go_sem]; try rfl) rfl ⟨1, rfl, .inr ⟨rfl, HN.out⟩, K1.out⟩
  have hd1 : decide (m < 1) = false := decide_eq_false h1
  by_cases h2 : c.ids + 1 < g.nn
  · have HN := Lib.hid (show ¬ MayG c g from fun h => by have := h.head.nn; omega)
    have hd2 : decide (c.ids + 1 < g.nn) = true := decide_eq_true h2
    clear hm
    go_wp2
    refine bodyPost_ret (v := .int .i64 1) (by simp [results, Try.results46, go_sem]; try rfl) rfl ⟨1, rfl, .inr ⟨rfl, HN.out⟩, K1.out⟩
  have hd2 : decide (c.ids + 1 < g.nn) = false := decide_eq_false h2
  by_cases h3 : c.eids + 1 < g.ne
  · have HN := Lib.hid (show ¬ MayG c g from fun h => by have := h.head.ne; omega)
    have hd3 : decide (c.eids + 1 < g.ne) = true := decide_eq_true h3
    clear hm
    go_wp2
    refine bodyPost_ret (v := .int .i64 1) (by simp [results, Try.results46, go_sem]; try rfl) rfl ⟨1, rfl, .inr ⟨rfl, HN.out⟩, K1.out⟩
  have hd3 : decide (c.eids + 1 < g.ne) = false := decide_eq_false h3
  have HH := Lib.hid (show (1 ≤ g.nn ∧ g.nn ≤ c.ids + 1) ∧ (1 ≤ g.ne ∧ g.ne ≤ c.eids + 1) by omega)
  clear hm
  go_wp2
  clear x0 x1 x2 x3 xf d0 d1 d2 d3 d4 hd1 hd2 hd3
  have H1 := Lib.hid (H.out.below K1.out)
  go_loopw [5, 39] (fun t p wr => ∃ k : Nat, k ≤ g.nodes.length ∧ p = .int .i64 (k : Int) ∧ t = .int .i64 (psum (g.nodes.take k) : Int) ∧ Hid (∀ (i : Nat) (x : NodeD), i < k → g.nodes[i]? = some x → Rises x.ps x.ps.length) ∧ Hid (Below w1.heap.size w1 wr)) (fun _ p _ => g.nodes.length - (intOf p).toNat)
  case atStart => exact ⟨0, by omega, rfl, rfl, (fun i x h => by omega), Below.refl _ _⟩
  case round =>
    obtain ⟨wa, rfl⟩ : ∃ wa, wa = wr := ⟨wr, rfl⟩
    obtain ⟨k, hk, rfl, rfl, hri, hb⟩ := hrel
    have hwa := hb.out.size
    have KA := Lib.hid (K1.out.trans (hb.out.mono K1.out.size))
    have BXa := Lib.hid (BX1.out.keep (hb.out.block _ g2))
    have HGa := Lib.hid (H1.out.below hb.out)
    have g3 : w.heap.size + 1 < wa.heap.size := by omega
    have CFa := Lib.hid ((hb.out.block w.heap.size g1).trans CF1.out)
    have hps : psum (g.nodes.take k) ≤ 1000 * 1000 := by
      have h1 := psum_mid (xs := g.nodes.take k) fun x hx => HM.out.2.2 x (List.mem_of_mem_take hx)
      have h2 : (g.nodes.take k).length ≤ 1000 := by rw [List.length_take]; omega
      have h3 : 1000 * (g.nodes.take k).length ≤ 1000 * 1000 := Nat.mul_le_mul_left _ h2
      omega
    by_cases hlt : k < g.nodes.length
    case neg =>
      obtain rfl : k = g.nodes.length := by omega
      have HRA := Lib.hid (show ∀ x ∈ g.nodes, Rises x.ps x.ps.length from fun x hx => by
        obtain ⟨i, hi⟩ := List.mem_iff_getElem?.1 hx
        exact hri.out i x (List.getElem?_eq_some_iff.1 hi).1 hi)
      rw [List.take_length] at hps ⊢
      obtain ⟨⟨nvs, hrow, hnv⟩, hre⟩ := HGa.out
      have HRW := Lib.hid hrow
      have HNV := Lib.hid hnv
      have HRE := Lib.hid hre
      have hnl : nvs.length ≤ 1000000 := by rw [hnv.len]; omega
      obtain ⟨ps0, hps0⟩ : ∃ p, p = psum g.nodes := ⟨_, rfl⟩
      have HPS0 := Lib.hid hps0
      rw [← hps0] at hps ⊢
      clear hrow hnv hre hps0
      obtain ⟨x0, x1, x2, x3, xf⟩ := BXa.out
      go_wp2_with fail
      refine (countedN_calls wa S _ nvs g.nn HRW.out hnl).mono ?_
      rintro e w3 ⟨b, rfl, hbb, hb3⟩
      have s3 := hb3.size
      have K3 := Lib.hid (KA.out.trans (hb3.mono KA.out.size))
      have BX3 := Lib.hid (BXa.out.keep (hb3.block _ g3))
      have HRE3 := Lib.hid (HRE.out.below hb3)
      have CF3 := Lib.hid ((hb3.block w.heap.size (by omega)).trans CFa.out)
      have HG3 := Lib.hid (HGa.out.below hb3)
      have HB := Lib.hid hbb
      clear hb3 hbb x0 x1 x2 x3 xf
      obtain ⟨x0, x1, x2, x3, xf⟩ := BX3.out
      have g4 : w.heap.size + 1 < w3.heap.size := by omega
      have g5 : w.heap.size < w3.heap.size := by omega
      cases b
      · have HN := Lib.hid (show ¬ MayG c g from fun h => by
          have h9 := nodesOk_iff.1 h.nodes
          have := HB.out.2 ⟨(risesN_nodes HNV.out).2 h9.1, (ids_nodes HNV.out g.nn).2 h9.2.1⟩
          cases this)
        go_wp2
        refine bodyPost_ret (v := .int .i64 1) (by simp [results, Try.results46, go_sem]; try rfl) rfl ⟨1, rfl, .inr ⟨rfl, HN.out⟩, K3.out⟩
      have HNO := Lib.hid (show NodesOk g g.nodes.length from nodesOk_iff.2 ⟨(risesN_nodes HNV.out).1 (HB.out.1 rfl).1, (ids_nodes HNV.out g.nn).1 (HB.out.1 rfl).2, HRA.out⟩)
      go_wp2_with fail
      refine (countedE_calls w3 S _ g.edges g.ne HRE3.out (by omega)).mono ?_
      rintro e w4 ⟨b, rfl, hbb, hb4⟩
      have s4 := hb4.size
      have K4 := Lib.hid (K3.out.trans (hb4.mono K3.out.size))
      have BX4 := Lib.hid (BX3.out.keep (hb4.block _ g4))
      have HG4 := Lib.hid (HG3.out.below hb4)
      have HRE4 := Lib.hid (HRE3.out.below hb4)
      have CF4 := Lib.hid ((hb4.block w.heap.size (by omega)).trans CF3.out)
      have HB := Lib.hid hbb
      clear hb4 hbb x0 x1 x2 x3 xf
      cases b
      · have HN := Lib.hid (show ¬ MayG c g from fun h => by
          have h9 := edgesOk_iff.1 h.edges
          have := HB.out.2 ⟨h9.1, h9.2.1⟩
          cases this)
        go_wp2
        refine bodyPost_ret (v := .int .i64 1) (by simp [results, Try.results46, go_sem]; try rfl) rfl ⟨1, rfl, .inr ⟨rfl, HN.out⟩, K4.out⟩
      have HEO := Lib.hid (HB.out.1 rfl)
      have g6 : w.heap.size + 1 < w4.heap.size := by omega
      have g7 : w.heap.size < w4.heap.size := by omega
      have cf := CF4.out
      have d0 : w4.cell? ⟨w.heap.size, 0, none⟩ = some (.int .i64 c.nodes) := by unfold World.cell?; rw [cf]; rfl
      have d1 : w4.cell? ⟨w.heap.size, 1, none⟩ = some (.int .i64 c.edges) := by unfold World.cell?; rw [cf]; rfl
      have d2 : w4.cell? ⟨w.heap.size, 2, none⟩ = some (.int .i64 c.props) := by unfold World.cell?; rw [cf]; rfl
      clear cf
      obtain ⟨x0, x1, x2, x3, xf⟩ := BX4.out
      by_cases n1 : c.nodes < (g.nodes.length : Int)
      · have HN := Lib.hid (show ¬ MayG c g from fun h => by have := h.head.ln; omega)
        have hd : decide (c.nodes < (g.nodes.length : Int)) = true := decide_eq_true n1
        clear n1
        go_wp2
        refine bodyPost_ret (v := .int .i64 1) (by simp [results, Try.results46, go_sem]; try rfl) rfl ⟨1, rfl, .inr ⟨rfl, HN.out⟩, K4.out⟩
      have hd1 : decide (c.nodes < (g.nodes.length : Int)) = false := decide_eq_false n1
      by_cases n2 : c.edges < (g.edges.length : Int)
      · have HN := Lib.hid (show ¬ MayG c g from fun h => by have := h.head.le; omega)
        have hd : decide (c.edges < (g.edges.length : Int)) = true := decide_eq_true n2
        clear n2
        go_wp2
        refine bodyPost_ret (v := .int .i64 1) (by simp [results, Try.results46, go_sem]; try rfl) rfl ⟨1, rfl, .inr ⟨rfl, HN.out⟩, K4.out⟩
      have hd2 : decide (c.edges < (g.edges.length : Int)) = false := decide_eq_false n2
      by_cases n3 : c.props < (ps0 : Int)
      · have HN := Lib.hid (show ¬ MayG c g from fun h => by have := h.props; rw [← HPS0.out] at this; omega)
        have hd : decide (c.props < (ps0 : Int)) = true := decide_eq_true n3
        clear n3
        go_wp2
        refine bodyPost_ret (v := .int .i64 1) (by simp [results, Try.results46, go_sem]; try rfl) rfl ⟨1, rfl, .inr ⟨rfl, HN.out⟩, K4.out⟩
      have hd3 : decide (c.props < (ps0 : Int)) = false := decide_eq_false n3
      go_wp2_with fail
      refine (containsE_calls w4 S (fun k => S k ∨ k = w.heap.size + 1) _ g.edges _ _ (lostE g) lost_enters (fun W x hK => ?_) HRE4.out (by omega)).mono ?_
      · refine lost_calls W S g _ _ x (w.heap.size + 1) (by have := hK.1; omega) (BX4.out.keep (hK.2 _ (.inr rfl) g6)) (HG4.out.move fun k hk hl => hK.2 k (.inl hk) hl) (by omega)
      rintro e w5 ⟨b, rfl, hbb, hb5⟩
      have K5 := Lib.hid (K4.out.trans (hb5.mono K4.out.size))
      have HB5 := Lib.hid hbb
      clear hb5 hbb x0 x1 x2 x3 xf d0 d1 d2
      cases b
      · have HY := Lib.hid (show MayG c g from ⟨⟨HOK.out, HH.out.1, HH.out.2, by omega, by omega⟩, HNO.out, edgesOk_iff.2 ⟨HEO.out.1, HEO.out.2, fun x hx => by
          cases hq : lostE g x
          · rfl
          · have := HB5.out.2 ⟨x, hx, hq⟩
            cases this⟩, by rw [← HPS0.out]; omega⟩)
        go_wp2
        refine bodyPost_ret (v := .int .i64 0) (by simp [results, Try.results46, go_sem]; try rfl) rfl ⟨0, rfl, .inl ⟨rfl, HY.out⟩, K5.out⟩
      · have HN := Lib.hid (show ¬ MayG c g from fun h => by
          obtain ⟨x, hx, hq⟩ := HB5.out.1 rfl
          rw [(edgesOk_iff.1 h.edges).2.2 x hx] at hq
          cases hq)
        go_wp2
        refine bodyPost_ret (v := .int .i64 1) (by simp [results, Try.results46, go_sem]; try rfl) rfl ⟨1, rfl, .inr ⟨rfl, HN.out⟩, K5.out⟩
    obtain ⟨x, hx⟩ := getElem?_of_lt hlt
    obtain ⟨bn, on, ap, dp, rfl, _, hbl, hr, z0, z1⟩ := HGa.out.atN hx
    have hpx := HM.out.2.2 x (List.mem_of_getElem? hx)
    have HX := Lib.hid hx
    have HPS := Lib.hid (psum_succ hx)
    have KP := Lib.hid (Below.heap1 wa (.cells #[.int .i64 x.id, .slice ap x.ps.length dp] 32))
    have HRP := Lib.hid (hr.below KP.out)
    clear hx hr
    have q1 : wa.heap.size < wa.heap.size + 1 := by omega
    have q2 : bn < wa.heap.size + 1 := by omega
    generalize hps0 : psum (g.nodes.take k) = ps0 at *
    have HPS0 := Lib.hid hps0
    clear hps0
    go_wp2_with fail
    refine (risesP_calls _ S _ x.ps HRP.out (by omega)).mono ?_
    rintro e w2 ⟨b, rfl, hbb, hb2⟩
    have s2 := hb2.size
    have K2 := Lib.hid (hb.out.trans ((KP.out.trans (hb2.mono (by simp))).mono hwa))
    have HB := Lib.hid hbb
    clear hb2 hbb z0 z1
    cases b
    · have HN := Lib.hid (show ¬ MayG c g from fun h => by
        have h9 := (nodesOk_iff.1 h.nodes).2.2 x (List.mem_of_getElem? HX.out)
        have := HB.out.2 h9
        cases this)
      have KE := Lib.hid (K1.out.trans (K2.out.mono K1.out.size))
      go_wp2
      refine bodyPost_ret (v := .int .i64 1) (by simp [results, Try.results46, go_sem]; try rfl) rfl ⟨1, rfl, .inr ⟨rfl, HN.out⟩, KE.out⟩
    · have HRI := Lib.hid (show ∀ (i : Nat) (y : NodeD), i < k + 1 → g.nodes[i]? = some y → Rises y.ps y.ps.length from fun i y hi hy => by
        rcases Nat.lt_or_ge i k with h3 | h3
        · exact hri.out i y h3 hy
        · obtain rfl : i = k := by omega
          rw [HX.out] at hy
          injection hy with hy
          subst hy
          exact HB.out.1 rfl)
      go_wp2
      go_roundw
      case rel => exact ⟨k + 1, by omega, by first | (go_num; done) | (go_num; omega), by rw [HPS.out]; first | (go_num; done) | (go_num; omega), HRI, K2⟩
      case measure => simp [intOf]; omega
end Go.Proofs.Ytpehmmdbjakkpaa
