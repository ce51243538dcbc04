/- The document's calls of a history. -/
import Derived.Test.YtgpmkcipogljbaaRefChk
import Derived.Test.YtgpmkcipogljbaaSchedT
import Derived.Test.YtgpmkcipogljbaaCalls
import Derived.Test.YtgpmkcipogljbaaAppend
namespace Go.Proofs.Ytgpmkcipogljbaa
open Go.RowKit
set_option linter.unusedSimpArgs false
set_option linter.unusedVariables false
theorem belowN {B : Nat} {a w : World} (h : Below B a w) (n : Nat) : Below B a (w.drewN n) := h.trans ⟨rfl, rfl, rfl, Nat.le_refl _, fun _ _ => rfl⟩
theorem drewN_alloc (W : World) (o : Obj) (n : Nat) : (W.alloc o).drewN n = (W.drewN n).alloc o := rfl
set_option maxRecDepth 100000 in
set_option maxHeartbeats 2000000 in
theorem next_calls2 (w : World) (S : Nat → Prop) (v : Value) (l : List EvD) (h : Row tEv w S v l) (hlen : l.length ≤ 1000000) {i : Nat} {x : EvD} (hi : l[i]? = some x) : Calls Try.prog 25 #[v, .int .i64 (i : Int)] w fun e w' => ∃ r : Int, e = .returned (.int .i64 r) ∧ IsNext l x.th i r ∧ ∃ n, w' = w.drewN n := by
  obtain ⟨A, c, rfl⟩ := h.slice
  have H := Lib.hid h
  have hil : i < l.length := (List.getElem?_eq_some_iff.1 hi).1
  have HI := Lib.hid hi
  clear h hi
  go_enter Try.func25, Try.ntmps25
  go_wp2
  go_loopw [5] (fun o wr => ∃ k : Nat, i < k ∧ k ≤ l.length ∧ o = .int .i64 (k : Int) ∧ Hid (∀ (m : Nat) (y : EvD), i < m → m < k → l[m]? = some y → y.th ≠ x.th) ∧ Hid (∃ n, wr = w.drewN n)) (fun o _ => l.length - (intOf o).toNat)
  case atStart => exact ⟨i + 1, by omega, by omega, by first | (go_num; done) | (go_num; omega) | rfl, (fun m y h1 h2 => by omega), ⟨0, rfl⟩⟩
  case round =>
    obtain ⟨k, hik, hk, rfl, hno, hb⟩ := hrel
    obtain ⟨n, hn⟩ := hb.out
    subst hn
    by_cases hlt : k < l.length
    · obtain ⟨y, hy⟩ := getElem?_of_lt hlt
      obtain ⟨b, off, a1, d1, a2, d2, a3, d3, rfl, hbl, _, x0, x1, x2, x3, x4, x5, x6, x7, x8, x9, x10, x11⟩ := H.out.atEvF HI.out
      obtain ⟨b', off', a1', d1', a2', d2', a3', d3', hA, _, _, y0, y1, y2, y3, y4, y5, y6, y7, y8, y9, y10, y11⟩ := H.out.atEvF hy
      injection hA with hA
      injection hA with h1 h2
      subst h1 h2
      have HY := Lib.hid hy
      clear hy x1 x2 x3 x4 x5 x6 x7 x8 x9 x10 x11 y1 y2 y3 y4 y5 y6 y7 y8 y9 y10 y11
      go_wp2_with fail
      refine wp_region_sched [(0, true), (1, true), (2, true), (3, true), (4, true), (5, true), (6, true), (7, true), (8, true), (9, true), (10, true)] (Kept w (fun _ => True)) (by kernel_rfl) (by kernel_rfl) ?_
      have HS := Lib.hid ((Kept.refl w (fun _ => True)).drewN n).drew
      repeat (refine sched_take (v := ?_) (by simp only [List.getElem?_toArray, List.getElem?_cons_succ, List.getElem?_cons_zero]; rfl) (Or.inl ⟨by rfl, fun W hW => ?_⟩) HS.out ?_; rotate_left; (have hc := fun b o hb => hW.cell b o trivial hb; clear hW; go_simp; with_reducible rfl); simp only [Act.put, List.setIfInBounds_toArray, List.set_cons_zero, List.set_cons_succ])
      refine sched_done ?_
      by_cases hth : y.th = x.th
      · have HT := Lib.hid hth
        replace hth : (y.th == x.th) = true := beq_iff_eq.mpr hth
        go_wp2
        go_ret
        exact ⟨_, rfl, .inr ⟨k, y, rfl, hik, HY.out, HT.out, hno.out⟩, n + 1, rfl⟩
      · have HT := Lib.hid hth
        replace hth : (y.th == x.th) = false := beq_eq_false_iff_ne.mpr hth
        go_wp2
        go_roundw
        case rel => exact ⟨k + 1, by omega, by omega, by first | (go_num; done) | (go_num; omega), Lib.hid (fun m z h1 h2 hz => by
          rcases Nat.lt_or_ge m k with h3 | h3
          · exact hno.out m z h1 h3 hz
          · obtain rfl : m = k := by omega
            rw [HY.out] at hz
            injection hz with hz
            subst hz
            exact HT.out), Lib.hid ⟨n + 1, rfl⟩⟩
        case measure => simp [intOf]; omega
    · obtain rfl : k = l.length := by omega
      go_wp2
      go_ret
      exact ⟨_, rfl, .inl ⟨rfl, fun m y h1 hy => hno.out m y h1 (List.getElem?_eq_some_iff.1 hy).1 hy⟩, n, rfl⟩
set_option maxRecDepth 100000 in
set_option maxHeartbeats 8000000 in
theorem refCalls_calls (w : World) (v : Value) (l : List EvD) (h : Row tEv w (fun _ => True) v l) (hlen : l.length ≤ 1000000) (okl : ∀ x ∈ l, okI x.th) : Calls Try.prog 13 #[v] w fun e w' => ∃ v', e = .returned (.tuple #[v', .int .i64 (errOf (runL l))]) ∧ Row tCall w' (fun _ => True) v' (outOf (runL l)) ∧ Below w.heap.size w w' := by
  obtain ⟨A, c, rfl⟩ := h.slice
  have H := Lib.hid h.bound
  have OK := Lib.hid okl
  clear h okl
  go_enter Try.func13, Try.ntmps13
  go_wp2_with fail
  refine (refCheck_calls _ _ _ _ H.out hlen OK.out).mono ?_
  rintro e w1 ⟨rfl, hb1⟩
  have K1 := Lib.hid hb1
  have s1 := hb1.size
  have H1 := Lib.hid (H.out.below hb1)
  clear hb1
  cases hrun : runL l with
  | none =>
    simp only [errOf]
    have HN := Lib.hid hrun
    clear hrun
    go_wp2
    exact bodyPost_ret (v := .tuple #[.slice none 0 0, .int .i64 1]) (by simp [results, Try.results13, go_sem]) rfl ⟨_, by rw [HN.out]; rfl, by rw [HN.out]; exact Row.nil _ _ _, K1.out⟩
  | some t =>
    simp only [errOf, outOf]
    have HR := Lib.hid hrun
    clear hrun
    go_wp2
    go_loopw [5, 16] (fun o p wr => ∃ (k : Nat) (rs : List CallD), k ≤ l.length ∧ p = .int .i64 (k : Int) ∧ rs.length ≤ k ∧ Hid (rs.map (fun c => c.frm) = frmsOf l k) ∧ Hid (∀ (i : Nat) (c : CallD), rs[i]? = some c → RCall l c) ∧ Hid (Own tCall 36 wr (fun _ => True) o rs) ∧ Hid (∀ b, o.ownBlock = some b → w1.heap.size ≤ b) ∧ Hid (Below w1.heap.size w1 wr)) (fun _ p _ => l.length - (intOf p).toNat)
    case atStart => exact ⟨0, [], by omega, rfl, Nat.le_refl _, rfl, (fun i c h => by simp at h), Own.nil _ _ _ _, (fun b h => by simp [Value.ownBlock] at h), Below.refl _ _⟩
    case round =>
      obtain ⟨wa, rfl⟩ : ∃ wa, wa = wr := ⟨wr, rfl⟩
      obtain ⟨k, rs, hk, rfl, hrl, hfr, hrc, ho, hge, hb⟩ := hrel
      have hwr := hb.out.size
      by_cases hlt : k < l.length
      case neg =>
        obtain rfl : k = l.length := by omega
        have he := calls_eq HR.out hfr.out hrc.out
        go_wp2
        refine bodyPost_ret (v := .tuple #[_, .int .i64 0]) (by simp [results, Try.results13, go_sem]; rfl) rfl ⟨_, by rw [HR.out]; rfl, by rw [HR.out]; show Row _ _ _ _ t.out; rw [he]; exact ho.out.row, K1.out.trans (hb.out.mono s1)⟩
      obtain ⟨⟨xth, xdn, xop, xres⟩, hx⟩ := getElem?_of_lt hlt
      obtain ⟨b, off, a1, d1, a2, d2, a3, d3, rfl, hbl, hs1, x0, x1, x2, x3, x4, x5, x6, x7, x8, x9, x10, x11⟩ := (H1.out.below hb.out).atEvF hx
      simp only at x0 x1 x2 x3 x4 x5 x6 x7 x8 x9 x10 x11
      have hfs := frmsOf_succ hx
      have HX := Lib.hid hx
      clear hs1 hx
      have g1 : wa.heap.size < wa.heap.size + 1 := by omega
      have g2 : b < wa.heap.size + 1 := by omega
      cases xdn
      case true =>
        rw [if_neg (by simp), List.append_nil] at hfs
        have HF := Lib.hid (hfr.out.trans hfs.symm)
        clear hfs
        go_wp2
        go_roundw
        case rel => exact ⟨k + 1, rs, by omega, by first | (go_num; done) | (go_num; omega), by omega, HF, hrc, Lib.hid (ho.out.below ((Below.refl _ _).alloc (Nat.le_refl _) _)), hge, Lib.hid (hb.out.alloc (by omega) _)⟩
        case measure => simp [intOf]; omega
      rw [if_pos rfl] at hfs
      have HF := Lib.hid (show rs.map (fun c => c.frm) ++ [(k : Int)] = frmsOf l (k + 1) by rw [hfr.out, hfs])
      clear hfs
      go_wp2_with fail
      refine wp_region_tr (fun _ => True) (.take 0 (.take 1 (.take 2 (.take 3 (.take 4 (.take 5 (.take 6 (.two 7 (.take 8 (.step 9 (.step 10 .nil))) 9 (.step 7 (.take 8 (.step 10 .nil))))))))))) (by kernel_rfl) (by kernel_rfl) (fun hS => ?_)
      have HS := Lib.hid hS
      clear hS
      repeat (refine tr_take (v := ?_) (by simp only [List.getElem?_toArray, List.getElem?_cons_succ, List.getElem?_cons_zero]; rfl) (Or.inl ⟨by rfl, fun W hW => ?_⟩) HS.out ?_; rotate_left; (have hc := fun b o hb => hW.cell b o trivial hb; clear hW; go_simp; with_reducible rfl); simp only [Act.put, List.setIfInBounds_toArray, List.set_cons_zero, List.set_cons_succ])
      have hwc := ((Below.refl wa.heap.size wa).alloc (Nat.le_refl _) (.cells #[.int .i64 xth, .bool false, .int .i64 xop.kind, .int .i64 xop.a, .int .i64 xop.b, .int .i64 xop.k, .int .i64 xop.v, .int .i64 xres.err, .int .i64 xres.id, .slice a1 xres.ps.length d1, .slice a2 xres.os.length d2, .slice a3 xres.is.length d3] 43)).drew
      have HRk := Lib.hid ((H1.out.below hb.out).below hwc)
      have HRj := Lib.hid ((H1.out.below hb.out).below (((Below.refl wa.heap.size wa).alloc (Nat.le_refl _) (.cells #[.int .i64 xth, .bool false, .int .i64 xop.kind, .int .i64 xop.a, .int .i64 xop.b, .int .i64 xop.k, .int .i64 xop.v, .int .i64 xres.err, .int .i64 xres.id, .slice a1 xres.ps.length d1, .slice a2 xres.os.length d2, .slice a3 xres.is.length d3] 43)).alloc (by simp) (.cells #[.int .i64 0, .int .i64 0, .int .i64 0, .int .i64 0, .int .i64 0, .int .i64 0, .int .i64 0, .int .i64 0, .int .i64 0, .int .i64 0, .slice none 0 0, .slice none 0 0, .slice none 0 0] 36)).drew)
      have HRa := Lib.hid (H1.out.below hb.out)
      clear hwc
      refine tr_two (by simp only [List.getElem?_toArray, List.getElem?_cons_succ, List.getElem?_cons_zero]; rfl) ?brA (by simp only [List.getElem?_toArray, List.getElem?_cons_succ, List.getElem?_cons_zero]; rfl) ?brB
      case' brA =>
        go_wp2_with fail
        refine (next_calls2 _ _ _ l HRk.out hlen HX.out).mono ?_
        rintro e w2 ⟨r, rfl, hn, nd, rfl⟩
        have HN := Lib.hid hn
        have HS2 := Lib.hid (HS.out.drewN nd)
        clear hn
        go_wp2_with fail
        refine tr_on HS2.out ?_
        repeat (refine tr_take (v := ?_) (by simp only [List.getElem?_toArray, List.getElem?_cons_succ, List.getElem?_cons_zero]; rfl) (Or.inl ⟨by rfl, fun W hW => ?_⟩) HS2.out ?_; rotate_left; (have hc := fun b o hb => hW.cell b o trivial hb; clear hW; go_simp; with_reducible rfl); simp only [Act.put, List.setIfInBounds_toArray, List.set_cons_zero, List.set_cons_succ])
        refine tr_step (by simp only [List.getElem?_toArray, List.getElem?_cons_succ, List.getElem?_cons_zero]; rfl) ?_
        go_wp2_with fail
        refine tr_on (by repeat (first | (with_reducible exact HS2.out) | (with_reducible exact Kept.refl _ _) | (with_reducible refine Kept.drew ?_) | (with_reducible refine Kept.drewN ?_ _) | (with_reducible refine Kept.alloc ?_ _) | (with_reducible refine Kept.setCell ?_ (.inl (by simp; try omega)) _))) ?_
        refine tr_step (by simp only [List.getElem?_toArray, List.getElem?_cons_succ, List.getElem?_cons_zero]; rfl) ?_
        go_wp2_with fail
        refine tr_on (by repeat (first | (with_reducible exact HS2.out) | (with_reducible exact Kept.refl _ _) | (with_reducible refine Kept.drew ?_) | (with_reducible refine Kept.drewN ?_ _) | (with_reducible refine Kept.alloc ?_ _) | (with_reducible refine Kept.setCell ?_ (.inl (by simp; try omega)) _))) ?_
        refine tr_done ?_
      case' brB =>
        go_wp2_with fail
        refine tr_on (by repeat (first | (with_reducible exact HS.out) | (with_reducible exact Kept.refl _ _) | (with_reducible refine Kept.drew ?_) | (with_reducible refine Kept.drewN ?_ _) | (with_reducible refine Kept.alloc ?_ _) | (with_reducible refine Kept.setCell ?_ (.inl (by simp; try omega)) _))) ?_
        refine tr_step (by simp only [List.getElem?_toArray, List.getElem?_cons_succ, List.getElem?_cons_zero]; rfl) ?_
        go_wp2_with fail
        refine (next_calls2 _ _ _ l HRj.out hlen HX.out).mono ?_
        rintro e w2 ⟨r, rfl, hn, nd, rfl⟩
        have HN := Lib.hid hn
        clear hn
        go_wp2_with fail
        refine tr_on (by repeat (first | (with_reducible exact HS.out) | (with_reducible exact Kept.refl _ _) | (with_reducible refine Kept.drew ?_) | (with_reducible refine Kept.drewN ?_ _) | (with_reducible refine Kept.alloc ?_ _) | (with_reducible refine Kept.setCell ?_ (.inl (by simp; try omega)) _))) ?_
        repeat (refine tr_take (v := ?_) (by simp only [List.getElem?_toArray, List.getElem?_cons_succ, List.getElem?_cons_zero]; rfl) (Or.inl ⟨by rfl, fun W hW => ?_⟩) (by repeat (first | (with_reducible exact HS.out) | (with_reducible exact Kept.refl _ _) | (with_reducible refine Kept.drew ?_) | (with_reducible refine Kept.drewN ?_ _) | (with_reducible refine Kept.alloc ?_ _) | (with_reducible refine Kept.setCell ?_ (.inl (by simp; try omega)) _))) ?_; rotate_left; (have hc := fun b o hb => hW.cell b o trivial hb; clear hW; go_simp; with_reducible rfl); simp only [Act.put, List.setIfInBounds_toArray, List.set_cons_zero, List.set_cons_succ])
        rw [drewN_alloc]
        refine tr_step (by simp only [List.getElem?_toArray, List.getElem?_cons_succ, List.getElem?_cons_zero]; rfl) ?_
        go_wp2_with fail
        refine tr_on (by repeat (first | (with_reducible exact HS.out) | (with_reducible exact Kept.refl _ _) | (with_reducible refine Kept.drew ?_) | (with_reducible refine Kept.drewN ?_ _) | (with_reducible refine Kept.alloc ?_ _) | (with_reducible refine Kept.setCell ?_ (.inl (by simp; try omega)) _))) ?_
        refine tr_done ?_
      all_goals
        have W3 := Lib.hid (belowN ((Below.refl wa.heap.size wa).alloc (Nat.le_refl _) (.cells #[.int .i64 xth, .bool false, .int .i64 xop.kind, .int .i64 xop.a, .int .i64 xop.b, .int .i64 xop.k, .int .i64 xop.v, .int .i64 xres.err, .int .i64 xres.id, .slice a1 xres.ps.length d1, .slice a2 xres.os.length d2, .slice a3 xres.is.length d3] 43)) (1 + nd))
        clear HS HRk HRj g1 g2 x0 x1 x2 x3 x4 x5 x6 x7 x8 x9 x10 x11
        try clear HS2
        have hsz : (World.drewN (wa.alloc (.cells #[.int .i64 xth, .bool false, .int .i64 xop.kind, .int .i64 xop.a, .int .i64 xop.b, .int .i64 xop.k, .int .i64 xop.v, .int .i64 xres.err, .int .i64 xres.id, .slice a1 xres.ps.length d1, .slice a2 xres.os.length d2, .slice a3 xres.is.length d3] 43)) (1 + nd)).heap.size = wa.heap.size + 1 := by simp
        generalize (World.drewN _ _) = w2 at *
        rw [← hsz]
        have s2 := W3.out.size
        have HRw := Lib.hid (HRa.out.below W3.out)
        have HO2 := Lib.hid (ho.out.below W3.out)
        have HB2 := Lib.hid (hb.out.trans (W3.out.mono hwr))
        clear HRa W3
        rcases HN.out with ⟨rfl, hn1⟩ | ⟨m, y, rfl, hn1, hn2, hn3, hn4⟩
        · have hrn := Lib.hid (show RCall l ⟨xth, xop, k, -1, ResD.zero⟩ from ⟨by simp only; omega, _, HX.out, rfl, rfl, HN.out, fun _ => rfl, fun e => by simp only at e; omega⟩)
          obtain ⟨rs2, hrs2⟩ : ∃ z : List CallD, z = rs ++ [⟨xth, xop, k, -1, ResD.zero⟩] := ⟨_, rfl⟩
          have A1 : rs2.length ≤ k + 1 := by rw [hrs2, List.length_append]; simp only [List.length_cons, List.length_nil]; omega
          have A2 := Lib.hid (show rs2.map (fun c => c.frm) = frmsOf l (k + 1) by rw [hrs2, List.map_append]; exact HF.out)
          have A3 := Lib.hid (show ∀ (i : Nat) (c : CallD), rs2[i]? = some c → RCall l c from fun i c hc => by
            rw [hrs2] at hc
            rcases at_append hc with hc | ⟨_, rfl⟩
            · exact hrc.out i c hc
            · exact hrn.out)
          have HR2 := Lib.hid hrs2
          clear hrs2
          clear hn1 HN
          go_wp2_with (at_builtin; refine wpList_own_appendS (ty := tCall) (w := w1) (S := fun _ => True) (Sy := fun k => k < w.heap.size) (v := u5) (xs := rs) (x := ⟨xth, xop, k, -1, ResD.zero⟩) rfl _ _ 25 36 152 _ rfl elemCall rfl ?hown rfl (by simp <;> omega) ⟨_, _, _, Sl.nil _ _, rfl⟩ ?hB ?hge (fun _ _ => trivial) ?hbytes ?hlen ?hin ?_)
          case hown => exact HO2.out.below ((Below.refl _ _).alloc (Nat.le_refl _) _)
          case hB => exact HB2.out.alloc (by omega) _
          case hge => exact hge.out
          case hbytes => omega
          case hlen => unfold maxLen; omega
          case hin =>
            intro k hk _
            have h9 : u5.ownBlock ≠ some k := fun e => by have := hge.out k e; omega
            first | exact ⟨trivial, h9⟩ | exact h9
          intro v3 w3 ho3 hb3 hge3 _
          rw [← HR2.out] at ho3
          have HO3 := Lib.hid ho3
          have HB3 := Lib.hid hb3
          have HG3 := Lib.hid hge3
          clear ho3 hb3 hge3
          go_wp2
          go_roundw
          case rel => exact ⟨k + 1, rs2, by omega, by first | (go_num; done) | (go_num; omega), A1, A2, A3, HO3, HG3, HB3⟩
          case measure => simp [intOf]; omega
        · obtain ⟨b2, off2, a1', d1', a2', d2', a3', d3', hA, hbl2, hs2, y0, y1, y2, y3, y4, y5, y6, y7, y8, y9, y10, y11⟩ := HRw.out.atEvF hn2
          injection hA with hA
          injection hA with h1 h2
          subst h1 h2
          have hm : m < l.length := (List.getElem?_eq_some_iff.1 hn2).1
          have hrn := Lib.hid (show RCall l ⟨xth, xop, k, m, y.res⟩ from ⟨by simp only; omega, _, HX.out, rfl, rfl, HN.out, fun e => by simp only at e; omega, fun _ => ⟨y, by simpa using hn2, rfl⟩⟩)
          have HS2 := Lib.hid hs2
          have g2 : b < w2.heap.size + 1 := by omega
          obtain ⟨rs2, hrs2⟩ : ∃ z : List CallD, z = rs ++ [⟨xth, xop, k, m, y.res⟩] := ⟨_, rfl⟩
          have A1 : rs2.length ≤ k + 1 := by rw [hrs2, List.length_append]; simp only [List.length_cons, List.length_nil]; omega
          have A2 := Lib.hid (show rs2.map (fun c => c.frm) = frmsOf l (k + 1) by rw [hrs2, List.map_append]; exact HF.out)
          have A3 := Lib.hid (show ∀ (i : Nat) (c : CallD), rs2[i]? = some c → RCall l c from fun i c hc => by
            rw [hrs2] at hc
            rcases at_append hc with hc | ⟨_, rfl⟩
            · exact hrc.out i c hc
            · exact hrn.out)
          have HR2 := Lib.hid hrs2
          clear hrs2
          clear hn1 HN hn2 hn3 hn4 hs2
          go_wp2_with (at_builtin; refine wpList_own_appendS (ty := tCall) (w := w1) (S := fun _ => True) (Sy := fun k => k < w.heap.size) (v := u5) (xs := rs) (x := ⟨xth, xop, k, m, y.res⟩) rfl _ _ 25 36 152 _ rfl elemCall rfl ?hown rfl (by simp <;> omega) ⟨_, _, _, ?hsl, rfl⟩ ?hB ?hge (fun _ _ => trivial) ?hbytes ?hlen ?hin ?_)
          case hsl => exact (HS2.out.mono (fun k h _ => (h.2 : k < w.heap.size))).below ((Below.refl _ _).alloc (Nat.le_refl _) _)
          case hown => exact HO2.out.below ((Below.refl _ _).alloc (Nat.le_refl _) _)
          case hB => exact HB2.out.alloc (by omega) _
          case hge => exact hge.out
          case hbytes => omega
          case hlen => unfold maxLen; omega
          case hin =>
            intro k hk _
            have h9 : u5.ownBlock ≠ some k := fun e => by have := hge.out k e; omega
            first | exact ⟨trivial, h9⟩ | exact h9
          intro v3 w3 ho3 hb3 hge3 _
          rw [← HR2.out] at ho3
          have HO3 := Lib.hid ho3
          have HB3 := Lib.hid hb3
          have HG3 := Lib.hid hge3
          clear ho3 hb3 hge3
          go_wp2
          go_roundw
          case rel => exact ⟨k + 1, rs2, by omega, by first | (go_num; done) | (go_num; omega), A1, A2, A3, HO3, HG3, HB3⟩
          case measure => simp [intOf]; omega
end Go.Proofs.Ytgpmkcipogljbaa
