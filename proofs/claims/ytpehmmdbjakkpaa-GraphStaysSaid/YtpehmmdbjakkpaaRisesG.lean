/- graph.rises at pairs, nodes and edges; graph.counted. -/
import Derived.Test.YtpehmmdbjakkpaaRefCheck
import Derived.Test.YtpehmmdbjakkpaaSchedK
namespace Go.Proofs.Ytpehmmdbjakkpaa
open Go.RowKit Go.Shelf
set_option linter.unusedSimpArgs false
set_option linter.unusedVariables false
/-- A bool that tells whether P. -/
def BPost (w : World) (P : Prop) (e : Ending) (w' : World) : Prop := ∃ b : Bool, e = .returned (.bool b) ∧ (b = true ↔ P) ∧ Below w.heap.size w w'
def RisesN (xs : List NV) (m : Nat) : Prop := ∀ (i : Nat) (p q : NV), i + 1 < m → xs[i]? = some p → xs[i + 1]? = some q → p.id < q.id
def RisesE (xs : List EdgeD) (m : Nat) : Prop := ∀ (i : Nat) (p q : EdgeD), i + 1 < m → xs[i]? = some p → xs[i + 1]? = some q → p.id < q.id
set_option maxRecDepth 20000 in
theorem keyP_calls (w : World) (x : P2) : Calls Try.prog 92 #[.agg #[.int .i64 x.x, .int .i64 x.y]] w fun e w' => e = .returned (.int .i64 x.x) ∧ Below w.heap.size w w' := by
  go_enter Try.func92, Try.ntmps92
  go_wp2
  go_ret
  exact ⟨rfl, (Below.refl _ _).alloc (Nat.le_refl _) _⟩
theorem keyP_enters : Enters Try.prog 92 := enters_of Try.func92 (by kernel_rfl) rfl
set_option maxRecDepth 20000 in
set_option maxHeartbeats 4000000 in
theorem risesP_calls (w : World) (S : Nat → Prop) (v : Value) (xs : List P2) (h : Row tP w S v xs) (hlen : xs.length ≤ 1000000) : Calls Try.prog 91 #[v, .func (.func 92) #[] #[]] w (BPost w (Rises xs xs.length)) := by
  obtain ⟨A, c, rfl⟩ := h.slice
  have H := Lib.hid h
  have eg' : ∀ args w, (callFunc 92 args).run Try.prog w = .ok (.enter 92 args) w := keyP_enters
  clear h
  go_enter Try.func91, Try.ntmps91
  go_wp2
  go_loopw [5] (fun q wr => ∃ j : Nat, 1 ≤ j ∧ (j ≤ xs.length ∨ j = 1) ∧ q = .int .i64 (j : Int) ∧ Hid (Rises xs j) ∧ Hid (Below w.heap.size w wr)) (fun q _ => xs.length - (intOf q).toNat)
  case atStart => exact ⟨1, by omega, by omega, rfl, (fun i p q h => by omega), Below.refl _ _⟩
  case round =>
    obtain ⟨wa, rfl⟩ : ∃ wa, wa = wr := ⟨wr, rfl⟩
    obtain ⟨j, hj1, hj, rfl, hno, hb⟩ := hrel
    have hwr := hb.out.size
    by_cases hlt : j < xs.length
    case neg =>
      have HD := Lib.hid (show Rises xs xs.length from fun i p q hi hp hq => hno.out i p q (by omega) hp hq)
      have hd : ¬ (j : Int) < (xs.length : Int) := by omega
      go_wp2
      go_ret
      exact ⟨true, rfl, ⟨fun _ => HD.out, fun _ => rfl⟩, hb.out⟩
    obtain ⟨i, rfl⟩ : ∃ i, j = i + 1 := ⟨j - 1, by omega⟩
    obtain ⟨x, hx⟩ := getElem?_of_lt hlt
    obtain ⟨y, hy⟩ := getElem?_of_lt (show i < xs.length by omega)
    obtain ⟨b, off, rfl, _, hbl, z0, z1⟩ := (H.out.below hb.out).atP hx
    obtain ⟨b', off', hA, _, _, y0, y1⟩ := (H.out.below hb.out).atP hy
    injection hA with hA
    injection hA with h1 h2
    subst h1 h2
    have HX := Lib.hid hx
    have HY := Lib.hid hy
    clear hx hy
    have hi0 : (0 : Int) ≤ (i : Int) + 1 := by omega
    have htn : ((i : Int) + 1).toNat = i + 1 := by omega
    have hil : i < xs.length := by omega
    have hwi : IntKind.i64.wrap (i : Int) = (i : Int) := by rw [IntKind.wrap_i64]; omega
    have hlt2 : (i : Int) + 1 < (xs.length : Int) := by omega
    go_wp2_with fail
    refine wp_region_schedK (fun _ => True) [(0, true), (1, true), (2, true), (3, true), (4, true), (6, true), (7, true), (8, true), (9, true), (10, true), (11, true), (5, false), (12, false), (13, true)] (by kernel_rfl) (by kernel_rfl) (fun hS => ?_)
    have HK := Lib.hid hS
    clear hS
    repeat (refine sched_take (v := ?_) (by simp only [List.getElem?_toArray, List.getElem?_cons_succ, List.getElem?_cons_zero]; rfl) (Or.inl ⟨by rfl, fun W hW => ?_⟩) HK.out ?_; rotate_left; (have hc := fun b o hb => hW.cell b o trivial hb; clear hW; go_simp; with_reducible rfl); simp only [Act.put, List.setIfInBounds_toArray, List.set_cons_zero, List.set_cons_succ])
    refine sched_step (by simp only [List.getElem?_toArray, List.getElem?_cons_succ, List.getElem?_cons_zero]; rfl) ?_
    go_wp2_with fail
    refine (keyP_calls _ x).mono ?_
    rintro e w1 ⟨rfl, hb1⟩
    have K1 := Lib.hid (hb.out.trans ((Below.refl wa.heap.size wa).drew.trans hb1 |>.mono hwr))
    have HK1 := Lib.hid (HK.out.below hb1)
    have s1 := hb1.size
    simp only [World.size_drew] at s1
    clear hb1
    go_wp2_with fail
    refine sched_on HK1.out ?_
    repeat (refine sched_take (v := ?_) (by simp only [List.getElem?_toArray, List.getElem?_cons_succ, List.getElem?_cons_zero]; rfl) (Or.inl ⟨by rfl, fun W hW => ?_⟩) HK1.out ?_; rotate_left; (have hc := fun b o hb => hW.cell b o trivial hb; clear hW; go_simp; with_reducible rfl); simp only [Act.put, List.setIfInBounds_toArray, List.set_cons_zero, List.set_cons_succ])
    refine sched_step (by simp only [List.getElem?_toArray, List.getElem?_cons_succ, List.getElem?_cons_zero]; rfl) ?_
    go_wp2_with fail
    refine (keyP_calls _ y).mono ?_
    rintro e w2 ⟨rfl, hb2⟩
    have K2 := Lib.hid (K1.out.trans (hb2.mono (by omega)))
    have HK2 := Lib.hid (HK1.out.below hb2)
    clear hb2
    go_wp2_with fail
    refine sched_on HK2.out ?_
    repeat (refine sched_take (v := ?_) (by simp only [List.getElem?_toArray, List.getElem?_cons_succ, List.getElem?_cons_zero]; rfl) (Or.inl ⟨by rfl, fun W hW => ?_⟩) HK2.out ?_; rotate_left; (have hc := fun b o hb => hW.cell b o trivial hb; clear hW; go_simp; with_reducible rfl); simp only [Act.put, List.setIfInBounds_toArray, List.set_cons_zero, List.set_cons_succ])
    refine sched_done ?_
    clear HK HK1 HK2
    by_cases hc : y.x < x.x
    · have HN := Lib.hid (show Rises xs (i + 1 + 1) from fun m p q hm hp hq => by
        rcases Nat.lt_or_ge (m + 1) (i + 1) with h3 | h3
        · exact hno.out m p q h3 hp hq
        · obtain rfl : m = i := by omega
          rw [HY.out] at hp
          injection hp with hp
          rw [HX.out] at hq
          injection hq with hq
          subst hp hq
          exact hc)
      have hd : ¬ x.x ≤ y.x := by omega
      go_wp2
      go_roundw
      case rel => exact ⟨i + 1 + 1, by omega, by omega, by first | (go_num; done) | (go_num; omega), HN, K2⟩
      case measure => simp [intOf]; omega
    · have HN := Lib.hid (show ¬ Rises xs xs.length from fun hr => hc (hr i y x (by omega) HY.out HX.out))
      have hd : x.x ≤ y.x := by omega
      go_wp2
      go_ret
      exact ⟨false, rfl, ⟨fun e => (by cases e), fun h => absurd h HN.out⟩, K2.out⟩
set_option maxRecDepth 20000 in
theorem keyN_calls (w : World) (x : NV) : Calls Try.prog 95 #[.agg #[.int .i64 x.id, .slice x.A x.n x.c]] w fun e w' => e = .returned (.int .i64 x.id) ∧ Below w.heap.size w w' := by
  go_enter Try.func95, Try.ntmps95
  go_wp2
  go_ret
  exact ⟨rfl, (Below.refl _ _).alloc (Nat.le_refl _) _⟩
theorem keyN_enters : Enters Try.prog 95 := enters_of Try.func95 (by kernel_rfl) rfl
set_option maxRecDepth 20000 in
set_option maxHeartbeats 4000000 in
theorem risesN_calls (w : World) (S : Nat → Prop) (v : Value) (xs : List NV) (h : Row tNV w S v xs) (hlen : xs.length ≤ 1000000) : Calls Try.prog 130 #[v, .func (.func 95) #[] #[]] w (BPost w (RisesN xs xs.length)) := by
  obtain ⟨A, c, rfl⟩ := h.slice
  have H := Lib.hid h
  have eg' : ∀ args w, (callFunc 95 args).run Try.prog w = .ok (.enter 95 args) w := keyN_enters
  clear h
  go_enter Try.func130, Try.ntmps130
  go_wp2
  go_loopw [5] (fun q wr => ∃ j : Nat, 1 ≤ j ∧ (j ≤ xs.length ∨ j = 1) ∧ q = .int .i64 (j : Int) ∧ Hid (RisesN xs j) ∧ Hid (Below w.heap.size w wr)) (fun q _ => xs.length - (intOf q).toNat)
  case atStart => exact ⟨1, by omega, by omega, rfl, (fun i p q h => by omega), Below.refl _ _⟩
  case round =>
    obtain ⟨wa, rfl⟩ : ∃ wa, wa = wr := ⟨wr, rfl⟩
    obtain ⟨j, hj1, hj, rfl, hno, hb⟩ := hrel
    have hwr := hb.out.size
    by_cases hlt : j < xs.length
    case neg =>
      have HD := Lib.hid (show RisesN xs xs.length from fun i p q hi hp hq => hno.out i p q (by omega) hp hq)
      have hd : ¬ (j : Int) < (xs.length : Int) := by omega
      go_wp2
      go_ret
      exact ⟨true, rfl, ⟨fun _ => HD.out, fun _ => rfl⟩, hb.out⟩
    obtain ⟨i, rfl⟩ : ∃ i, j = i + 1 := ⟨j - 1, by omega⟩
    obtain ⟨x, hx⟩ := getElem?_of_lt hlt
    obtain ⟨y, hy⟩ := getElem?_of_lt (show i < xs.length by omega)
    obtain ⟨b, off, rfl, _, hbl, z0, z1⟩ := (H.out.below hb.out).atNV hx
    obtain ⟨b', off', hA, _, _, y0, y1⟩ := (H.out.below hb.out).atNV hy
    injection hA with hA
    injection hA with h1 h2
    subst h1 h2
    have HX := Lib.hid hx
    have HY := Lib.hid hy
    clear hx hy
    have hi0 : (0 : Int) ≤ (i : Int) + 1 := by omega
    have htn : ((i : Int) + 1).toNat = i + 1 := by omega
    have hil : i < xs.length := by omega
    have hwi : IntKind.i64.wrap (i : Int) = (i : Int) := by rw [IntKind.wrap_i64]; omega
    have hlt2 : (i : Int) + 1 < (xs.length : Int) := by omega
    go_wp2_with fail
    refine wp_region_schedK (fun _ => True) [(0, true), (1, true), (2, true), (3, true), (4, true), (6, true), (7, true), (8, true), (9, true), (10, true), (11, true), (5, false), (12, false), (13, true)] (by kernel_rfl) (by kernel_rfl) (fun hS => ?_)
    have HK := Lib.hid hS
    clear hS
    repeat (refine sched_take (v := ?_) (by simp only [List.getElem?_toArray, List.getElem?_cons_succ, List.getElem?_cons_zero]; rfl) (Or.inl ⟨by rfl, fun W hW => ?_⟩) HK.out ?_; rotate_left; (have hc := fun b o hb => hW.cell b o trivial hb; clear hW; go_simp; with_reducible rfl); simp only [Act.put, List.setIfInBounds_toArray, List.set_cons_zero, List.set_cons_succ])
    refine sched_step (by simp only [List.getElem?_toArray, List.getElem?_cons_succ, List.getElem?_cons_zero]; rfl) ?_
    go_wp2_with fail
    refine (keyN_calls _ x).mono ?_
    rintro e w1 ⟨rfl, hb1⟩
    have K1 := Lib.hid (hb.out.trans ((Below.refl wa.heap.size wa).drew.trans hb1 |>.mono hwr))
    have HK1 := Lib.hid (HK.out.below hb1)
    have s1 := hb1.size
    simp only [World.size_drew] at s1
    clear hb1
    go_wp2_with fail
    refine sched_on HK1.out ?_
    repeat (refine sched_take (v := ?_) (by simp only [List.getElem?_toArray, List.getElem?_cons_succ, List.getElem?_cons_zero]; rfl) (Or.inl ⟨by rfl, fun W hW => ?_⟩) HK1.out ?_; rotate_left; (have hc := fun b o hb => hW.cell b o trivial hb; clear hW; go_simp; with_reducible rfl); simp only [Act.put, List.setIfInBounds_toArray, List.set_cons_zero, List.set_cons_succ])
    refine sched_step (by simp only [List.getElem?_toArray, List.getElem?_cons_succ, List.getElem?_cons_zero]; rfl) ?_
    go_wp2_with fail
    refine (keyN_calls _ y).mono ?_
    rintro e w2 ⟨rfl, hb2⟩
    have K2 := Lib.hid (K1.out.trans (hb2.mono (by omega)))
    have HK2 := Lib.hid (HK1.out.below hb2)
    clear hb2
    go_wp2_with fail
    refine sched_on HK2.out ?_
    repeat (refine sched_take (v := ?_) (by simp only [List.getElem?_toArray, List.getElem?_cons_succ, List.getElem?_cons_zero]; rfl) (Or.inl ⟨by rfl, fun W hW => ?_⟩) HK2.out ?_; rotate_left; (have hc := fun b o hb => hW.cell b o trivial hb; clear hW; go_simp; with_reducible rfl); simp only [Act.put, List.setIfInBounds_toArray, List.set_cons_zero, List.set_cons_succ])
    refine sched_done ?_
    clear HK HK1 HK2
    by_cases hc : y.id < x.id
    · have HN := Lib.hid (show RisesN xs (i + 1 + 1) from fun m p q hm hp hq => by
        rcases Nat.lt_or_ge (m + 1) (i + 1) with h3 | h3
        · exact hno.out m p q h3 hp hq
        · obtain rfl : m = i := by omega
          rw [HY.out] at hp
          injection hp with hp
          rw [HX.out] at hq
          injection hq with hq
          subst hp hq
          exact hc)
      have hd : ¬ x.id ≤ y.id := by omega
      go_wp2
      go_roundw
      case rel => exact ⟨i + 1 + 1, by omega, by omega, by first | (go_num; done) | (go_num; omega), HN, K2⟩
      case measure => simp [intOf]; omega
    · have HN := Lib.hid (show ¬ RisesN xs xs.length from fun hr => hc (hr i y x (by omega) HY.out HX.out))
      have hd : x.id ≤ y.id := by omega
      go_wp2
      go_ret
      exact ⟨false, rfl, ⟨fun e => (by cases e), fun h => absurd h HN.out⟩, K2.out⟩
set_option maxRecDepth 20000 in
theorem keyE_calls (w : World) (x : EdgeD) : Calls Try.prog 97 #[.agg #[.int .i64 x.id, .int .i64 x.frm, .int .i64 x.to]] w fun e w' => e = .returned (.int .i64 x.id) ∧ Below w.heap.size w w' := by
  go_enter Try.func97, Try.ntmps97
  go_wp2
  go_ret
  exact ⟨rfl, (Below.refl _ _).alloc (Nat.le_refl _) _⟩
theorem keyE_enters : Enters Try.prog 97 := enters_of Try.func97 (by kernel_rfl) rfl
set_option maxRecDepth 20000 in
set_option maxHeartbeats 4000000 in
theorem risesE_calls (w : World) (S : Nat → Prop) (v : Value) (xs : List EdgeD) (h : Row tEdge w S v xs) (hlen : xs.length ≤ 1000000) : Calls Try.prog 133 #[v, .func (.func 97) #[] #[]] w (BPost w (RisesE xs xs.length)) := by
  obtain ⟨A, c, rfl⟩ := h.slice
  have H := Lib.hid h
  have eg' : ∀ args w, (callFunc 97 args).run Try.prog w = .ok (.enter 97 args) w := keyE_enters
  clear h
  go_enter Try.func133, Try.ntmps133
  go_wp2
  go_loopw [5] (fun q wr => ∃ j : Nat, 1 ≤ j ∧ (j ≤ xs.length ∨ j = 1) ∧ q = .int .i64 (j : Int) ∧ Hid (RisesE xs j) ∧ Hid (Below w.heap.size w wr)) (fun q _ => xs.length - (intOf q).toNat)
  case atStart => exact ⟨1, by omega, by omega, rfl, (fun i p q h => by omega), Below.refl _ _⟩
  case round =>
    obtain ⟨wa, rfl⟩ : ∃ wa, wa = wr := ⟨wr, rfl⟩
    obtain ⟨j, hj1, hj, rfl, hno, hb⟩ := hrel
    have hwr := hb.out.size
    by_cases hlt : j < xs.length
    case neg =>
      have HD := Lib.hid (show RisesE xs xs.length from fun i p q hi hp hq => hno.out i p q (by omega) hp hq)
      have hd : ¬ (j : Int) < (xs.length : Int) := by omega
      go_wp2
      go_ret
      exact ⟨true, rfl, ⟨fun _ => HD.out, fun _ => rfl⟩, hb.out⟩
    obtain ⟨i, rfl⟩ : ∃ i, j = i + 1 := ⟨j - 1, by omega⟩
    obtain ⟨x, hx⟩ := getElem?_of_lt hlt
    obtain ⟨y, hy⟩ := getElem?_of_lt (show i < xs.length by omega)
    obtain ⟨b, off, rfl, _, hbl, z0, z1, z2⟩ := (H.out.below hb.out).atEdge hx
    obtain ⟨b', off', hA, _, _, y0, y1, y2⟩ := (H.out.below hb.out).atEdge hy
    injection hA with hA
    injection hA with h1 h2
    subst h1 h2
    have HX := Lib.hid hx
    have HY := Lib.hid hy
    clear hx hy
    have hi0 : (0 : Int) ≤ (i : Int) + 1 := by omega
    have htn : ((i : Int) + 1).toNat = i + 1 := by omega
    have hil : i < xs.length := by omega
    have hwi : IntKind.i64.wrap (i : Int) = (i : Int) := by rw [IntKind.wrap_i64]; omega
    have hlt2 : (i : Int) + 1 < (xs.length : Int) := by omega
    go_wp2_with fail
    refine wp_region_schedK (fun _ => True) [(0, true), (1, true), (2, true), (3, true), (4, true), (6, true), (7, true), (8, true), (9, true), (10, true), (11, true), (5, false), (12, false), (13, true)] (by kernel_rfl) (by kernel_rfl) (fun hS => ?_)
    have HK := Lib.hid hS
    clear hS
    repeat (refine sched_take (v := ?_) (by simp only [List.getElem?_toArray, List.getElem?_cons_succ, List.getElem?_cons_zero]; rfl) (Or.inl ⟨by rfl, fun W hW => ?_⟩) HK.out ?_; rotate_left; (have hc := fun b o hb => hW.cell b o trivial hb; clear hW; go_simp; with_reducible rfl); simp only [Act.put, List.setIfInBounds_toArray, List.set_cons_zero, List.set_cons_succ])
    refine sched_step (by simp only [List.getElem?_toArray, List.getElem?_cons_succ, List.getElem?_cons_zero]; rfl) ?_
    go_wp2_with fail
    refine (keyE_calls _ x).mono ?_
    rintro e w1 ⟨rfl, hb1⟩
    have K1 := Lib.hid (hb.out.trans ((Below.refl wa.heap.size wa).drew.trans hb1 |>.mono hwr))
    have HK1 := Lib.hid (HK.out.below hb1)
    have s1 := hb1.size
    simp only [World.size_drew] at s1
    clear hb1
    go_wp2_with fail
    refine sched_on HK1.out ?_
    repeat (refine sched_take (v := ?_) (by simp only [List.getElem?_toArray, List.getElem?_cons_succ, List.getElem?_cons_zero]; rfl) (Or.inl ⟨by rfl, fun W hW => ?_⟩) HK1.out ?_; rotate_left; (have hc := fun b o hb => hW.cell b o trivial hb; clear hW; go_simp; with_reducible rfl); simp only [Act.put, List.setIfInBounds_toArray, List.set_cons_zero, List.set_cons_succ])
    refine sched_step (by simp only [List.getElem?_toArray, List.getElem?_cons_succ, List.getElem?_cons_zero]; rfl) ?_
    go_wp2_with fail
    refine (keyE_calls _ y).mono ?_
    rintro e w2 ⟨rfl, hb2⟩
    have K2 := Lib.hid (K1.out.trans (hb2.mono (by omega)))
    have HK2 := Lib.hid (HK1.out.below hb2)
    clear hb2
    go_wp2_with fail
    refine sched_on HK2.out ?_
    repeat (refine sched_take (v := ?_) (by simp only [List.getElem?_toArray, List.getElem?_cons_succ, List.getElem?_cons_zero]; rfl) (Or.inl ⟨by rfl, fun W hW => ?_⟩) HK2.out ?_; rotate_left; (have hc := fun b o hb => hW.cell b o trivial hb; clear hW; go_simp; with_reducible rfl); simp only [Act.put, List.setIfInBounds_toArray, List.set_cons_zero, List.set_cons_succ])
    refine sched_done ?_
    clear HK HK1 HK2
    by_cases hc : y.id < x.id
    · have HN := Lib.hid (show RisesE xs (i + 1 + 1) from fun m p q hm hp hq => by
        rcases Nat.lt_or_ge (m + 1) (i + 1) with h3 | h3
        · exact hno.out m p q h3 hp hq
        · obtain rfl : m = i := by omega
          rw [HY.out] at hp
          injection hp with hp
          rw [HX.out] at hq
          injection hq with hq
          subst hp hq
          exact hc)
      have hd : ¬ x.id ≤ y.id := by omega
      go_wp2
      go_roundw
      case rel => exact ⟨i + 1 + 1, by omega, by omega, by first | (go_num; done) | (go_num; omega), HN, K2⟩
      case measure => simp [intOf]; omega
    · have HN := Lib.hid (show ¬ RisesE xs xs.length from fun hr => hc (hr i y x (by omega) HY.out HX.out))
      have hd : x.id ≤ y.id := by omega
      go_wp2
      go_ret
      exact ⟨false, rfl, ⟨fun e => (by cases e), fun h => absurd h HN.out⟩, K2.out⟩
end Go.Proofs.Ytpehmmdbjakkpaa
