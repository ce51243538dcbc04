/- The reference's Near. -/
import Derived.Test.YtpehmmdbjakkpaaGreatLiveM
namespace Go.Proofs.YtpehmmdbjakkpaaGreat
open Go.RowKit Go.Shelf
set_option linter.unusedSimpArgs false
set_option linter.unusedVariables false
set_option maxRecDepth 20000 in
set_option maxHeartbeats 8000000 in
theorem refNear_calls (w : World) (S : Nat → Prop) (g : GraphD) (vn ve : Value) (n : Int) (h : Gr w S g vn ve) (hl : g.nodes.length ≤ 1000000) (hle : g.edges.length ≤ 1000000) : Calls Tryz.prog 71 #[.agg #[vn, ve, .int .i64 g.nn, .int .i64 g.ne], .int .i64 n] w (NearPost w (nearOf g n)) := by
 obtain ⟨⟨A1, c1, rfl⟩, ⟨A2, c2, rfl⟩⟩ := h.slices
 have HG := Lib.hid h
 have H0 := Lib.hid (h.below (Below.heap1 w (.cells #[.slice A1 g.nodes.length c1, .slice A2 g.edges.length c2, .int .i64 g.nn, .int .i64 g.ne] 31)))
 have BX0 := Lib.hid (Box4.made w 31 (.slice A1 g.nodes.length c1) (.slice A2 g.edges.length c2) (.int .i64 g.nn) (.int .i64 g.ne))
 clear h
 go_enter Tryz.func71, Tryz.ntmps71
 go_wp2_with fail
 refine (refAt_calls _ S g _ _ n H0.out hl).mono ?_
 rintro e w1 ⟨rfl, hb1⟩
 have s1 := hb1.size
 have K1 := Lib.hid ((Below.heap1 w (.cells #[.slice A1 g.nodes.length c1, .slice A2 g.edges.length c2, .int .i64 g.nn, .int .i64 g.ne] 31)).trans (hb1.mono (by simp)))
 have BX1 := Lib.hid (BX0.out.keep (hb1.block _ (by simp)))
 have H1 := Lib.hid (H0.out.below hb1)
 clear hb1 BX0 H0
 simp only [World.size_alloc] at s1
 have g1 : w.heap.size < w1.heap.size := by omega
 obtain ⟨x0, x1, x2, x3, xf⟩ := BX1.out
 by_cases ha : atOf g.nodes n < 0
 ·
  have HE := Lib.hid (show nearOf g n = ([], [], 2) by unfold nearOf; rw [if_pos ha])
  have hd : decide (atOf g.nodes n < 0) = true := decide_eq_true ha
  clear ha
  generalize atOf g.nodes n = p at *
  go_wp2
  refine bodyPost_ret (v := .tuple #[.slice none 0 0, .slice none 0 0, .int .i64 2]) (by simp [results, Tryz.results71, go_sem]; try rfl) rfl ?_
  rw [HE.out]
  exact ⟨_, _, rfl, Row.nil _ _ _, Row.nil _ _ _, K1.out⟩
 have HE := Lib.hid (show nearOf g n = (nearO g.edges n, nearI g.edges n, 0) by unfold nearOf; rw [if_neg ha])
 have hd : decide (atOf g.nodes n < 0) = false := decide_eq_false ha
 clear ha
 generalize atOf g.nodes n = p at *
 go_wp2
 clear hd
 have KS := Lib.hid (show w.heap.size ≤ w1.heap.size by omega)
 clear x0 x1 x2 x3 xf BX1 g1 s1
 go_loopw [7, 8, 18] (fun o i p wr => ∃ j : Nat, j ≤ g.edges.length ∧ p = .int .i64 (j : Int) ∧ Hid (Own tP 131 wr (fun k => w.heap.size ≤ k) o (nearO (g.edges.take j) n)) ∧ Hid (Own tP 131 wr (fun k => w.heap.size ≤ k) i (nearI (g.edges.take j) n)) ∧ Hid (Below w.heap.size w wr) ∧ Hid (∀ k, o.ownBlock = some k → i.ownBlock ≠ some k)) (fun _ _ p _ => g.edges.length - (intOf p).toNat)
 case atStart => exact ⟨0, by omega, rfl, Own.nil _ _ _ _, Own.nil _ _ _ _, K1, (fun k hk => by simp [Value.ownBlock] at hk)⟩
 case round =>
  obtain ⟨wa, rfl⟩ : ∃ wa, wa = wr := ⟨wr, rfl⟩
  obtain ⟨j, hj, rfl, ho, hi, hb, hd⟩ := hrel
  have hwr := hb.out.size
  by_cases hlt : j < g.edges.length
  ·
   obtain ⟨x, hx⟩ := getElem?_of_lt hlt
   obtain ⟨b', off', rfl, _, hbl, x0, x1, x2⟩ := (HG.out.below hb.out).atE hx
   have q0 : b' < wa.heap.size + 1 := by omega
   have HX := Lib.hid hx
   clear hx
   have hlo := nearO_len g.edges j n
   have hli := nearI_len g.edges j n
   have q1 : wa.heap.size < wa.heap.size + 1 := by omega
   have KB := Lib.hid (Below.heap1 wa (.cells #[.int .i64 x.id, .int .i64 x.frm, .int .i64 x.to] 75))
   have HOA := Lib.hid (ho.out.below KB.out)
   have HIA := Lib.hid (hi.out.below KB.out)
   have HBA := Lib.hid (hb.out.trans (KB.out.mono hwr))
   by_cases h1 : x.frm = n
   ·
    have HO2 := Lib.hid (show nearO (g.edges.take (j + 1)) n = nearO (g.edges.take j) n ++ [⟨x.id, x.to⟩] by rw [nearO_succ HX.out, if_pos h1])
    replace h1 : (x.frm == n) = true := beq_iff_eq.mpr h1
    go_wp2_with (at_builtin; refine wpList_own_append1 (ty := tP) (w := w) (S := fun k => w.heap.size ≤ k) (Sy := fun _ => False) (v := u7) (xs := nearO (g.edges.take j) n) (x := ⟨x.id, x.to⟩) rfl _ _ 48 131 16 _ rfl elemEnds rfl ?hown rfl (by simp <;> omega) rfl ?hB (fun _ h => h) (fun _ h _ => h) ?hbytes ?hlen (fun _ h => h.elim) ?_)
    case hown => exact HOA.out
    case hB => exact HBA.out
    case hbytes => omega
    case hlen => unfold maxLen; omega
    intro v3 w3 ho3 hb3 hg3 hor3
    have HO3 := Lib.hid (show Own tP 131 w3 (fun k => w.heap.size ≤ k) v3 (nearO (g.edges.take (j + 1)) n) by rw [HO2.out]; exact ho3)
    have HI3 := Lib.hid (HIA.out.keepFlat (w' := w3) fun k hk => hg3.block k (HIA.out.lt k hk) (fun e => hd.out k e.symm hk))
    have HB3 := Lib.hid hb3
    have HD3 := Lib.hid (show ∀ k, v3.ownBlock = some k → u8.ownBlock ≠ some k from fun k hk e => by
     rcases hor3 with h | h
     ·
      exact hd.out k (h ▸ hk) e
     ·
      have h5 := Option.some.inj (h.symm.trans hk)
      have h6 := HIA.out.lt k e
      try simp only [World.size_alloc] at h5
      try simp only [World.size_alloc] at h6
      omega)
    have s3 := hg3.size
    have hbk : w3.heap[wa.heap.size]? = (wa.alloc (.cells #[.int .i64 x.id, .int .i64 x.frm, .int .i64 x.to] 75)).heap[wa.heap.size]? := hg3.block wa.heap.size (by simp) (fun e => by have := ho.out.lt _ e.symm; omega)
    simp only [World.size_alloc] at s3
    have q2 : wa.heap.size < w3.heap.size := by omega
    have c0 : w3.cell? ⟨wa.heap.size, 0, none⟩ = some (.int .i64 x.id) := (World.cell?_of_block hbk).trans (by simp [go_sem])
    have c1 : w3.cell? ⟨wa.heap.size, 1, none⟩ = some (.int .i64 x.frm) := (World.cell?_of_block hbk).trans (by simp [go_sem])
    have c2 : w3.cell? ⟨wa.heap.size, 2, none⟩ = some (.int .i64 x.to) := (World.cell?_of_block hbk).trans (by simp [go_sem])
    clear ho3 hb3 hg3 hor3 hbk
    by_cases h2 : x.to = n
    ·
     have HI2 := Lib.hid (show nearI (g.edges.take (j + 1)) n = nearI (g.edges.take j) n ++ [⟨x.id, x.frm⟩] by rw [nearI_succ HX.out, if_pos h2])
     replace h2 : (x.to == n) = true := beq_iff_eq.mpr h2
     go_wp2_with (at_builtin; refine wpList_own_append1 (ty := tP) (w := w) (S := fun k => w.heap.size ≤ k) (Sy := fun _ => False) (v := u8) (xs := nearI (g.edges.take j) n) (x := ⟨x.id, x.frm⟩) rfl _ _ 48 131 16 _ rfl elemEnds rfl ?hown rfl (by simp <;> omega) rfl ?hB (fun _ h => h) (fun _ h _ => h) ?hbytes ?hlen (fun _ h => h.elim) ?_)
     case hown => exact HI3.out
     case hB => exact HB3.out
     case hbytes => omega
     case hlen => unfold maxLen; omega
     intro v4 w4 ho4 hb4 hg4 hor4
     have HO4 := Lib.hid (HO3.out.keepFlat (w' := w4) fun k hk => hg4.block k (HO3.out.lt k hk) (fun e => HD3.out k hk e.symm))
     have HI4 := Lib.hid (show Own tP 131 w4 (fun k => w.heap.size ≤ k) v4 (nearI (g.edges.take (j + 1)) n) by rw [HI2.out]; exact ho4)
     have HB4 := Lib.hid hb4
     have HD4 := Lib.hid (show ∀ k, v3.ownBlock = some k → v4.ownBlock ≠ some k from fun k hk e => by
      rcases hor4 with h | h
      ·
       exact HD3.out k hk (h ▸ e)
      ·
       have h5 := Option.some.inj (h.symm.trans e)
       have h6 := HO3.out.lt k hk
       try simp only [World.size_alloc] at h5
       try simp only [World.size_alloc] at h6
       omega)
     clear ho4 hb4 hg4 hor4
     go_wp2
     go_roundw
     case rel => exact ⟨j + 1, by omega, by first | (go_num; done) | (go_num; omega), HO4, HI4, HB4, HD4⟩
     case measure => simp [intOf]; omega
    ·
     have HI2 := Lib.hid (show nearI (g.edges.take (j + 1)) n = nearI (g.edges.take j) n by rw [nearI_succ HX.out, if_neg h2, List.append_nil])
     replace h2 : (x.to == n) = false := beq_eq_false_iff_ne.mpr h2
     have HI4 := HI3
     rw [← HI2.out] at HI4
     go_wp2
     go_roundw
     case rel => exact ⟨j + 1, by omega, by first | (go_num; done) | (go_num; omega), HO3, HI4, HB3, HD3⟩
     case measure => simp [intOf]; omega
   ·
    have HO2 := Lib.hid (show nearO (g.edges.take (j + 1)) n = nearO (g.edges.take j) n by rw [nearO_succ HX.out, if_neg h1, List.append_nil])
    replace h1 : (x.frm == n) = false := beq_eq_false_iff_ne.mpr h1
    have HO3 := HOA
    rw [← HO2.out] at HO3
    by_cases h2 : x.to = n
    ·
     have HI2 := Lib.hid (show nearI (g.edges.take (j + 1)) n = nearI (g.edges.take j) n ++ [⟨x.id, x.frm⟩] by rw [nearI_succ HX.out, if_pos h2])
     replace h2 : (x.to == n) = true := beq_iff_eq.mpr h2
     go_wp2_with (at_builtin; refine wpList_own_append1 (ty := tP) (w := w) (S := fun k => w.heap.size ≤ k) (Sy := fun _ => False) (v := u8) (xs := nearI (g.edges.take j) n) (x := ⟨x.id, x.frm⟩) rfl _ _ 48 131 16 _ rfl elemEnds rfl ?hown rfl (by simp <;> omega) rfl ?hB (fun _ h => h) (fun _ h _ => h) ?hbytes ?hlen (fun _ h => h.elim) ?_)
     case hown => exact HIA.out
     case hB => exact HBA.out
     case hbytes => omega
     case hlen => unfold maxLen; omega
     intro v4 w4 ho4 hb4 hg4 hor4
     have HO4 := Lib.hid (HO3.out.keepFlat (w' := w4) fun k hk => hg4.block k (HO3.out.lt k hk) (fun e => hd.out k hk e.symm))
     have HI4 := Lib.hid (show Own tP 131 w4 (fun k => w.heap.size ≤ k) v4 (nearI (g.edges.take (j + 1)) n) by rw [HI2.out]; exact ho4)
     have HB4 := Lib.hid hb4
     have HD4 := Lib.hid (show ∀ k, u7.ownBlock = some k → v4.ownBlock ≠ some k from fun k hk e => by
      rcases hor4 with h | h
      ·
       exact hd.out k hk (h ▸ e)
      ·
       have h5 := Option.some.inj (h.symm.trans e)
       have h6 := HO3.out.lt k hk
       try simp only [World.size_alloc] at h5
       try simp only [World.size_alloc] at h6
       omega)
     clear ho4 hb4 hg4 hor4
     go_wp2
     go_roundw
     case rel => exact ⟨j + 1, by omega, by first | (go_num; done) | (go_num; omega), HO4, HI4, HB4, HD4⟩
     case measure => simp [intOf]; omega
    ·
     have HI2 := Lib.hid (show nearI (g.edges.take (j + 1)) n = nearI (g.edges.take j) n by rw [nearI_succ HX.out, if_neg h2, List.append_nil])
     replace h2 : (x.to == n) = false := beq_eq_false_iff_ne.mpr h2
     have HI4 := HIA
     rw [← HI2.out] at HI4
     go_wp2
     go_roundw
     case rel => exact ⟨j + 1, by omega, by first | (go_num; done) | (go_num; omega), HO3, HI4, HBA, hd⟩
     case measure => simp [intOf]; omega
  ·
   obtain rfl : j = g.edges.length := by omega
   go_wp2
   refine bodyPost_ret (v := .tuple #[u7, u8, .int .i64 0]) (by simp [results, Tryz.results71, go_sem]; try rfl) rfl ?_
   rw [HE.out]
   exact ⟨_, _, rfl, by have := ho.out.row; rwa [List.take_length] at this, by have := hi.out.row; rwa [List.take_length] at this, hb.out⟩

end Go.Proofs.YtpehmmdbjakkpaaGreat
