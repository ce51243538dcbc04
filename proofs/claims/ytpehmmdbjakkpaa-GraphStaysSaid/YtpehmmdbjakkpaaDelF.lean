/- slices.DeleteFunc, at nodes and at edges, whatever the closure. -/
import Derived.Test.YtpehmmdbjakkpaaClear
namespace Go.Proofs.Ytpehmmdbjakkpaa
open Go.RowKit Go.Shelf
set_option linter.unusedSimpArgs false
set_option linter.unusedVariables false
set_option maxRecDepth 20000 in
set_option maxHeartbeats 8000000 in
theorem deleteN_calls (w0 w : World) (B : Nat) (T : Nat → Prop) (v : Value) (xs : List NV) (fid : Nat) (fr : Array Value) (p : NV → Bool) (eg : Enters Try.prog fid)
    (hf : ∀ (W : World) (x : NV), Kept w T W → Calls Try.prog fid (#[.agg #[.int .i64 x.id, .slice x.A x.n x.c]] ++ fr) W fun e W' => e = .returned (.bool (p x)) ∧ Below W.heap.size W W')
    (h : Own tNV 32 w (fun k => B ≤ k) v xs) (hT : ∀ k, v.ownBlock = some k → ¬ T k) (hB : Below B w0 w) (hBw : B ≤ w.heap.size) (hlen : xs.length ≤ 1000000) : Calls Try.prog 127 #[v, .func (.func fid) #[] fr] w fun e w' => ∃ v', e = .returned v' ∧ Own tNV 32 w' (fun k => B ≤ k) v' (xs.filter fun x => !p x) ∧ v'.ownBlock = v.ownBlock ∧ Below B w0 w' ∧ Same (fun k => v.ownBlock ≠ some k) w w' ∧ w.heap.size ≤ w'.heap.size := by
  obtain ⟨A, c, rfl⟩ := h.slice
  have H := Lib.hid h
  have HF := Lib.hid hf
  have HT := Lib.hid hT
  have HB := Lib.hid hB
  have HEG := Lib.hid eg
  have eg' : ∀ args w, (callFunc fid args).run Try.prog w = .ok (.enter fid args) w := eg
  clear h hf eg hT hB
  go_enter Try.func127, Try.ntmps127
  go_wp2_with fail
  refine (indexN_calls w _ T _ xs fid fr p HEG.out HF.out H.out.row hlen).mono ?_
  rintro e w1 ⟨rfl, hb1⟩
  have K1 := Lib.hid hb1
  have H1 := Lib.hid (H.out.below hb1)
  have s1 := hb1.size
  have HB1 := Lib.hid (HB.out.trans (hb1.mono hBw))
  clear hb1
  rcases idxB_cases p xs with ⟨hi, hno⟩ | ⟨k0, z0, hi, hz0, hp0, hno⟩
  · have HE := Lib.hid (show xs.filter (fun x => !p x) = xs from List.filter_eq_self.2 fun x hx => by
      obtain ⟨i, hi⟩ := List.mem_iff_getElem?.1 hx
      rw [hno i x hi]; rfl)
    rw [hi]
    clear hi hno
    go_wp2
    go_ret
    exact ⟨_, rfl, by rw [HE.out]; exact H1.out, rfl, HB1.out, Same.of_below K1.out, s1⟩
  rw [hi]
  have hk0 : k0 < xs.length := (List.getElem?_eq_some_iff.1 hz0).1
  obtain ⟨g, rfl, hgB, hgl⟩ := H1.out.head (by omega)
  have HK := Lib.hid (show xs.take k0 = (xs.take (k0 + 1)).filter (fun x => !p x) by
    rw [List.take_add_one, hz0, Option.toList_some, List.filter_append, List.filter_eq_self.2 (fun x hx => by
      obtain ⟨i, hi⟩ := List.mem_iff_getElem?.1 hx
      have hi2 : i < k0 := by have := (List.getElem?_eq_some_iff.1 hi).1; rw [List.length_take] at this; omega
      rw [List.getElem?_take, if_pos hi2] at hi
      rw [hno i x hi2 hi]; rfl)]
    simp [hp0])
  clear hi hno hz0 hp0
  have hk1 : ((k0 : Int) == -1) = false := beq_eq_false_iff_ne.mpr (by omega)
  go_wp2
  clear hk1
  go_loopw [5, 6] (fun q5 q6 wr => ∃ (i j : Nat) (ys : List NV), i < j ∧ j ≤ xs.length ∧ q5 = .int .i64 (i : Int) ∧ q6 = .int .i64 (j : Int) ∧ Hid (ys.length = xs.length) ∧ Hid (ys.take i = (xs.take j).filter fun x => !p x) ∧ Hid (ys.drop j = xs.drop j) ∧ Hid (Own tNV 32 wr (fun k => B ≤ k) (.slice (some ⟨g, 0, none⟩) xs.length c) ys) ∧ Hid (Below B w0 wr) ∧ Hid (Same (fun k => k ≠ g) w1 wr) ∧ w1.heap.size ≤ wr.heap.size) (fun _ q6 _ => xs.length - (intOf q6).toNat)
  case atStart => exact ⟨k0, k0 + 1, xs, by omega, by omega, rfl, by first | (go_num; done) | (go_num; omega) | rfl, Lib.hid rfl, HK, Lib.hid rfl, H1, HB1, (fun _ _ _ => rfl), Nat.le_refl _⟩
  case round =>
    obtain ⟨wa, rfl⟩ : ∃ wa, wa = wr := ⟨wr, rfl⟩
    obtain ⟨i, j, ys, hij, hj, rfl, rfl, hyl, hyt, hyd, ho, hb, hsm, hsz⟩ := hrel
    have hba := hb.out.size
    by_cases hlt : j < xs.length
    · obtain ⟨x, hx⟩ := getElem?_of_lt hlt
      have hyj : ys[j]? = some x := by
        have h1 : (ys.drop j)[0]? = (xs.drop j)[0]? := by rw [hyd.out]
        rw [List.getElem?_drop, List.getElem?_drop, Nat.add_zero, hx] at h1
        exact h1
      have hil : i < ys.length := by rw [hyl.out]; omega
      obtain ⟨y, hyi⟩ := getElem?_of_lt hil
      obtain ⟨b', off', hA, _, _, x0, x1⟩ := ho.out.row.atNV hyj
      injection hA with hA
      injection hA with h1 h2
      subst h1 h2
      simp only [Nat.zero_add] at x0 x1
      have HX := Lib.hid hx
      have HYI := Lib.hid hyi
      have HYJ := Lib.hid hyj
      have g1 : wa.heap.size < wa.heap.size + 1 := by omega
      have g2 : g < wa.heap.size + 1 := by omega
      have HKP := Lib.hid (show Kept w T (wa.alloc (.cells #[.int .i64 x.id, .slice x.A x.n x.c] 32)) from Kept.alloc ⟨by omega, fun k hk hl => (hsm.out k (fun e => HT.out k (by rw [e]; rfl) hk) (by omega)).trans (K1.out.block k hl)⟩ _)
      clear hx hyi hyj
      go_wp2_with fail
      refine (HF.out _ x HKP.out).mono ?_
      rintro e w2 ⟨rfl, hb2⟩
      have KB := Lib.hid ((Below.heap1 wa (.cells #[.int .i64 x.id, .slice x.A x.n x.c] 32)).trans (hb2.mono (by simp)))
      have hc2 := (bcell hb2).1
      have hf2 := (bcell hb2).2
      have s2 := hb2.size
      clear hb2
      simp only [World.size_alloc] at s2 hc2 hf2
      have g3 : wa.heap.size < w2.heap.size := by omega
      have g4 : g < w2.heap.size := by omega
      have H2 := Lib.hid (ho.out.below KB.out)
      have HB2 := Lib.hid (hb.out.trans (KB.out.mono (by omega)))
      have HS2 := Lib.hid (hsm.out.trans hsz (Same.of_below KB.out))
      cases hp : p x with
      | true =>
        have HT2 := Lib.hid (show ys.take i = (xs.take (j + 1)).filter (fun x => !p x) by
          rw [hyt.out, List.take_add_one, HX.out, Option.toList_some, List.filter_append]; simp [hp])
        have HD2 := Lib.hid (show ys.drop (j + 1) = xs.drop (j + 1) by rw [← List.drop_drop, ← List.drop_drop, hyd.out])
        clear hp
        go_wp2
        go_roundw
        case rel => exact ⟨i, j + 1, ys, by omega, by omega, rfl, by first | (go_num; done) | (go_num; omega), hyl, HT2, HD2, H2, HB2, HS2, by omega⟩
        case measure => simp [intOf]; omega
      | false =>
        have hyi := HYI.out
        have hil2 : i < xs.length := by omega
        obtain ⟨b', off', hA, _, _, y0, y1⟩ := ho.out.row.atNV hyi
        injection hA with hA
        injection hA with h1 h2
        subst h1 h2
        simp only [Nat.zero_add] at y0 y1
        have N1 : Own tNV 32 (w2.setCell ⟨g, i * 2 + 0, none⟩ (.int .i64 x.id)) (fun k => B ≤ k) (.slice (some ⟨g, 0, none⟩) xs.length c) (ys.set i ⟨x.id, y.A, y.n, y.c⟩) := H2.out.setFlat (p := i) (i := 0) (y := y) (y' := ⟨x.id, y.A, y.n, y.c⟩) (u := .int .i64 x.id) hyi (by decide) rfl
        have N2 : Own tNV 32 ((w2.setCell ⟨g, i * 2 + 0, none⟩ (.int .i64 x.id)).setCell ⟨g, i * 2 + 1, none⟩ (.slice x.A x.n x.c)) (fun k => B ≤ k) (.slice (some ⟨g, 0, none⟩) xs.length c) ((ys.set i ⟨x.id, y.A, y.n, y.c⟩).set i x) := N1.setFlat (p := i) (i := 1) (y := ⟨x.id, y.A, y.n, y.c⟩) (y' := x) (u := .slice x.A x.n x.c) (by simp [hil]) (by decide) rfl
        simp only [List.set_set] at N2
        have N := Lib.hid N2
        have hfz := fun o => ho.out.frozenC o
        have HT2 := Lib.hid (show (ys.set i x).take (i + 1) = (xs.take (j + 1)).filter (fun x => !p x) by
          rw [List.take_add_one, take_set_of_le (Nat.le_refl _), hyt.out, List.take_add_one (l := xs), HX.out, Option.toList_some, List.filter_append]; simp [hp, hil])
        have HD2 := Lib.hid (show (ys.set i x).drop (j + 1) = xs.drop (j + 1) by rw [List.drop_set_of_lt (by omega), ← List.drop_drop, ← List.drop_drop, hyd.out])
        have HL2 := Lib.hid (show (ys.set i x).length = xs.length by rw [List.length_set]; exact hyl.out)
        clear hp N1 N2 hyi
        go_wp2
        go_roundw
        case rel => exact ⟨i + 1, j + 1, ys.set i x, by omega, by omega, by first | (go_num; done) | (go_num; omega), by first | (go_num; done) | (go_num; omega), HL2, HT2, HD2, N, Lib.hid ((HB2.out.setCell (p := ⟨g, i * 2, none⟩) hgB (.int .i64 x.id)).setCell (p := ⟨g, i * 2 + 1, none⟩) hgB (.slice x.A x.n x.c)), Lib.hid (HS2.out.trans (by omega) ((Same.of_setCell _ ⟨g, i * 2, none⟩ (.int .i64 x.id) (fun k hk => hk)).trans (by simp) (Same.of_setCell _ ⟨g, i * 2 + 1, none⟩ (.slice x.A x.n x.c) (fun k hk => hk)))), by simp; omega⟩
        case measure => simp [intOf]; omega
    · obtain rfl : j = xs.length := by omega
      have hcap := ho.out.row.n_eq.2.1
      have hcap2 := ho.out.row.n_eq.2.2.1
      unfold maxLen at hcap2
      have hfzo := fun o => ho.out.frozenC o
      obtain ⟨vs, hvl, hcl⟩ := run_clearN wa 24 32 (.agg #[.int .i64 0, .slice none 0 0]) Try.underlying24 zeroNode (by intro u hu; simp [Value.cells] at hu; rcases hu with rfl | rfl <;> rfl) (by decide) g (i * 2) (xs.length - i) (c - i)
        (fun q hq => ho.out.isSomeO (by have h1 : q < (xs.length - i) * 2 := hq; show i * 2 + q < xs.length * 2; omega)) (fun q hq => hfzo _)
      have HE := Lib.hid (show ys.take i = xs.filter (fun x => !p x) by rw [hyt.out, List.take_length])
      have HO := Lib.hid (ho.out.cutTail (i := i) (by omega) vs)
      clear hvl hfzo
      go_wp2
      go_ret
      exact ⟨_, rfl, by rw [← HE.out]; exact HO.out, rfl, setCells_below hgB vs (i * 2) _ hb.out, (Same.of_below K1.out).trans s1 ((hsm.out.mono fun k hk e => hk (by rw [e]; rfl)).trans hsz (fun k hk _ => setCells_heap vs (i * 2) _ k (fun e => hk (by rw [e]; rfl)))), by rw [setCells_size]; omega⟩
set_option maxRecDepth 20000 in
set_option maxHeartbeats 8000000 in
theorem deleteE_calls (w0 w : World) (B : Nat) (T : Nat → Prop) (v : Value) (xs : List EdgeD) (fid : Nat) (fr : Array Value) (p : EdgeD → Bool) (eg : Enters Try.prog fid)
    (hf : ∀ (W : World) (x : EdgeD), Kept w T W → Calls Try.prog fid (#[.agg #[.int .i64 x.id, .int .i64 x.frm, .int .i64 x.to]] ++ fr) W fun e W' => e = .returned (.bool (p x)) ∧ Below W.heap.size W W')
    (h : Own tEdge 40 w (fun k => B ≤ k) v xs) (hT : ∀ k, v.ownBlock = some k → ¬ T k) (hB : Below B w0 w) (hBw : B ≤ w.heap.size) (hlen : xs.length ≤ 1000000) : Calls Try.prog 128 #[v, .func (.func fid) #[] fr] w fun e w' => ∃ v', e = .returned v' ∧ Own tEdge 40 w' (fun k => B ≤ k) v' (xs.filter fun x => !p x) ∧ v'.ownBlock = v.ownBlock ∧ Below B w0 w' ∧ Same (fun k => v.ownBlock ≠ some k) w w' ∧ w.heap.size ≤ w'.heap.size := by
  obtain ⟨A, c, rfl⟩ := h.slice
  have H := Lib.hid h
  have HF := Lib.hid hf
  have HT := Lib.hid hT
  have HB := Lib.hid hB
  have HEG := Lib.hid eg
  have eg' : ∀ args w, (callFunc fid args).run Try.prog w = .ok (.enter fid args) w := eg
  clear h hf eg hT hB
  go_enter Try.func128, Try.ntmps128
  go_wp2_with fail
  refine (indexE_calls w _ T _ xs fid fr p HEG.out HF.out H.out.row hlen).mono ?_
  rintro e w1 ⟨rfl, hb1⟩
  have K1 := Lib.hid hb1
  have H1 := Lib.hid (H.out.below hb1)
  have s1 := hb1.size
  have HB1 := Lib.hid (HB.out.trans (hb1.mono hBw))
  clear hb1
  rcases idxB_cases p xs with ⟨hi, hno⟩ | ⟨k0, z0, hi, hz0, hp0, hno⟩
  · have HE := Lib.hid (show xs.filter (fun x => !p x) = xs from List.filter_eq_self.2 fun x hx => by
      obtain ⟨i, hi⟩ := List.mem_iff_getElem?.1 hx
      rw [hno i x hi]; rfl)
    rw [hi]
    clear hi hno
    go_wp2
    go_ret
    exact ⟨_, rfl, by rw [HE.out]; exact H1.out, rfl, HB1.out, Same.of_below K1.out, s1⟩
  rw [hi]
  have hk0 : k0 < xs.length := (List.getElem?_eq_some_iff.1 hz0).1
  obtain ⟨g, rfl, hgB, hgl⟩ := H1.out.head (by omega)
  have HK := Lib.hid (show xs.take k0 = (xs.take (k0 + 1)).filter (fun x => !p x) by
    rw [List.take_add_one, hz0, Option.toList_some, List.filter_append, List.filter_eq_self.2 (fun x hx => by
      obtain ⟨i, hi⟩ := List.mem_iff_getElem?.1 hx
      have hi2 : i < k0 := by have := (List.getElem?_eq_some_iff.1 hi).1; rw [List.length_take] at this; omega
      rw [List.getElem?_take, if_pos hi2] at hi
      rw [hno i x hi2 hi]; rfl)]
    simp [hp0])
  clear hi hno hz0 hp0
  have hk1 : ((k0 : Int) == -1) = false := beq_eq_false_iff_ne.mpr (by omega)
  go_wp2
  clear hk1
  go_loopw [5, 6] (fun q5 q6 wr => ∃ (i j : Nat) (ys : List EdgeD), i < j ∧ j ≤ xs.length ∧ q5 = .int .i64 (i : Int) ∧ q6 = .int .i64 (j : Int) ∧ Hid (ys.length = xs.length) ∧ Hid (ys.take i = (xs.take j).filter fun x => !p x) ∧ Hid (ys.drop j = xs.drop j) ∧ Hid (Own tEdge 40 wr (fun k => B ≤ k) (.slice (some ⟨g, 0, none⟩) xs.length c) ys) ∧ Hid (Below B w0 wr) ∧ Hid (Same (fun k => k ≠ g) w1 wr) ∧ w1.heap.size ≤ wr.heap.size) (fun _ q6 _ => xs.length - (intOf q6).toNat)
  case atStart => exact ⟨k0, k0 + 1, xs, by omega, by omega, rfl, by first | (go_num; done) | (go_num; omega) | rfl, Lib.hid rfl, HK, Lib.hid rfl, H1, HB1, (fun _ _ _ => rfl), Nat.le_refl _⟩
  case round =>
    obtain ⟨wa, rfl⟩ : ∃ wa, wa = wr := ⟨wr, rfl⟩
    obtain ⟨i, j, ys, hij, hj, rfl, rfl, hyl, hyt, hyd, ho, hb, hsm, hsz⟩ := hrel
    have hba := hb.out.size
    by_cases hlt : j < xs.length
    · obtain ⟨x, hx⟩ := getElem?_of_lt hlt
      have hyj : ys[j]? = some x := by
        have h1 : (ys.drop j)[0]? = (xs.drop j)[0]? := by rw [hyd.out]
        rw [List.getElem?_drop, List.getElem?_drop, Nat.add_zero, hx] at h1
        exact h1
      have hil : i < ys.length := by rw [hyl.out]; omega
      obtain ⟨y, hyi⟩ := getElem?_of_lt hil
      obtain ⟨b', off', hA, _, _, x0, x1, x2⟩ := ho.out.row.atEdge hyj
      injection hA with hA
      injection hA with h1 h2
      subst h1 h2
      simp only [Nat.zero_add] at x0 x1 x2
      have HX := Lib.hid hx
      have HYI := Lib.hid hyi
      have HYJ := Lib.hid hyj
      have g1 : wa.heap.size < wa.heap.size + 1 := by omega
      have g2 : g < wa.heap.size + 1 := by omega
      have HKP := Lib.hid (show Kept w T (wa.alloc (.cells #[.int .i64 x.id, .int .i64 x.frm, .int .i64 x.to] 40)) from Kept.alloc ⟨by omega, fun k hk hl => (hsm.out k (fun e => HT.out k (by rw [e]; rfl) hk) (by omega)).trans (K1.out.block k hl)⟩ _)
      clear hx hyi hyj
      go_wp2_with fail
      refine (HF.out _ x HKP.out).mono ?_
      rintro e w2 ⟨rfl, hb2⟩
      have KB := Lib.hid ((Below.heap1 wa (.cells #[.int .i64 x.id, .int .i64 x.frm, .int .i64 x.to] 40)).trans (hb2.mono (by simp)))
      have hc2 := (bcell hb2).1
      have hf2 := (bcell hb2).2
      have s2 := hb2.size
      clear hb2
      simp only [World.size_alloc] at s2 hc2 hf2
      have g3 : wa.heap.size < w2.heap.size := by omega
      have g4 : g < w2.heap.size := by omega
      have H2 := Lib.hid (ho.out.below KB.out)
      have HB2 := Lib.hid (hb.out.trans (KB.out.mono (by omega)))
      have HS2 := Lib.hid (hsm.out.trans hsz (Same.of_below KB.out))
      cases hp : p x with
      | true =>
        have HT2 := Lib.hid (show ys.take i = (xs.take (j + 1)).filter (fun x => !p x) by
          rw [hyt.out, List.take_add_one, HX.out, Option.toList_some, List.filter_append]; simp [hp])
        have HD2 := Lib.hid (show ys.drop (j + 1) = xs.drop (j + 1) by rw [← List.drop_drop, ← List.drop_drop, hyd.out])
        clear hp
        go_wp2
        go_roundw
        case rel => exact ⟨i, j + 1, ys, by omega, by omega, rfl, by first | (go_num; done) | (go_num; omega), hyl, HT2, HD2, H2, HB2, HS2, by omega⟩
        case measure => simp [intOf]; omega
      | false =>
        have hyi := HYI.out
        have hil2 : i < xs.length := by omega
        obtain ⟨b', off', hA, _, _, y0, y1, y2⟩ := ho.out.row.atEdge hyi
        injection hA with hA
        injection hA with h1 h2
        subst h1 h2
        simp only [Nat.zero_add] at y0 y1 y2
        have N1 : Own tEdge 40 (w2.setCell ⟨g, i * 3 + 0, none⟩ (.int .i64 x.id)) (fun k => B ≤ k) (.slice (some ⟨g, 0, none⟩) xs.length c) (ys.set i ⟨x.id, y.frm, y.to⟩) := H2.out.setFlat (p := i) (i := 0) (y := y) (y' := ⟨x.id, y.frm, y.to⟩) (u := .int .i64 x.id) hyi (by decide) rfl
        have N2 : Own tEdge 40 ((w2.setCell ⟨g, i * 3 + 0, none⟩ (.int .i64 x.id)).setCell ⟨g, i * 3 + 1, none⟩ (.int .i64 x.frm)) (fun k => B ≤ k) (.slice (some ⟨g, 0, none⟩) xs.length c) ((ys.set i ⟨x.id, y.frm, y.to⟩).set i ⟨x.id, x.frm, y.to⟩) := N1.setFlat (p := i) (i := 1) (y := ⟨x.id, y.frm, y.to⟩) (y' := ⟨x.id, x.frm, y.to⟩) (u := .int .i64 x.frm) (by simp [hil]) (by decide) rfl
        have N3 : Own tEdge 40 (((w2.setCell ⟨g, i * 3 + 0, none⟩ (.int .i64 x.id)).setCell ⟨g, i * 3 + 1, none⟩ (.int .i64 x.frm)).setCell ⟨g, i * 3 + 2, none⟩ (.int .i64 x.to)) (fun k => B ≤ k) (.slice (some ⟨g, 0, none⟩) xs.length c) (((ys.set i ⟨x.id, y.frm, y.to⟩).set i ⟨x.id, x.frm, y.to⟩).set i x) := N2.setFlat (p := i) (i := 2) (y := ⟨x.id, x.frm, y.to⟩) (y' := x) (u := .int .i64 x.to) (by simp [hil]) (by decide) rfl
        simp only [List.set_set] at N3
        have N := Lib.hid N3
        have hfz := fun o => ho.out.frozenC o
        have HT2 := Lib.hid (show (ys.set i x).take (i + 1) = (xs.take (j + 1)).filter (fun x => !p x) by
          rw [List.take_add_one, take_set_of_le (Nat.le_refl _), hyt.out, List.take_add_one (l := xs), HX.out, Option.toList_some, List.filter_append]; simp [hp, hil])
        have HD2 := Lib.hid (show (ys.set i x).drop (j + 1) = xs.drop (j + 1) by rw [List.drop_set_of_lt (by omega), ← List.drop_drop, ← List.drop_drop, hyd.out])
        have HL2 := Lib.hid (show (ys.set i x).length = xs.length by rw [List.length_set]; exact hyl.out)
        clear hp N1 N2 N3 hyi
        go_wp2
        go_roundw
        case rel => exact ⟨i + 1, j + 1, ys.set i x, by omega, by omega, by first | (go_num; done) | (go_num; omega), by first | (go_num; done) | (go_num; omega), HL2, HT2, HD2, N, Lib.hid (((HB2.out.setCell (p := ⟨g, i * 3, none⟩) hgB (.int .i64 x.id)).setCell (p := ⟨g, i * 3 + 1, none⟩) hgB (.int .i64 x.frm)).setCell (p := ⟨g, i * 3 + 2, none⟩) hgB (.int .i64 x.to)), Lib.hid (HS2.out.trans (by omega) (((Same.of_setCell _ ⟨g, i * 3, none⟩ (.int .i64 x.id) (fun k hk => hk)).trans (by simp) (Same.of_setCell _ ⟨g, i * 3 + 1, none⟩ (.int .i64 x.frm) (fun k hk => hk))).trans (by simp) (Same.of_setCell _ ⟨g, i * 3 + 2, none⟩ (.int .i64 x.to) (fun k hk => hk)))), by simp; omega⟩
        case measure => simp [intOf]; omega
    · obtain rfl : j = xs.length := by omega
      have hcap := ho.out.row.n_eq.2.1
      have hcap2 := ho.out.row.n_eq.2.2.1
      unfold maxLen at hcap2
      have hfzo := fun o => ho.out.frozenC o
      obtain ⟨vs, hvl, hcl⟩ := run_clearN wa 25 40 (.agg #[.int .i64 0, .int .i64 0, .int .i64 0]) Try.underlying25 zeroEdge (by intro u hu; simp [Value.cells] at hu; rcases hu with rfl | rfl | rfl <;> rfl) (by decide) g (i * 3) (xs.length - i) (c - i)
        (fun q hq => ho.out.isSomeO (by have h1 : q < (xs.length - i) * 3 := hq; show i * 3 + q < xs.length * 3; omega)) (fun q hq => hfzo _)
      have HE := Lib.hid (show ys.take i = xs.filter (fun x => !p x) by rw [hyt.out, List.take_length])
      have HO := Lib.hid (ho.out.cutTail (i := i) (by omega) vs)
      clear hvl hfzo
      go_wp2
      go_ret
      exact ⟨_, rfl, by rw [← HE.out]; exact HO.out, rfl, setCells_below hgB vs (i * 3) _ hb.out, (Same.of_below K1.out).trans s1 ((hsm.out.mono fun k hk e => hk (by rw [e]; rfl)).trans hsz (fun k hk _ => setCells_heap vs (i * 3) _ k (fun e => hk (by rw [e]; rfl)))), by rw [setCells_size]; omega⟩
end Go.Proofs.Ytpehmmdbjakkpaa
