/- hist.Calls. -/
import Derived.Test.YtgpmkcipogljbaaSpec
import Derived.Test.YtgpmkcipogljbaaOwnR
import Derived.Test.YtgpmkcipogljbaaStore
namespace Go.Proofs.Ytgpmkcipogljbaa
open Go.RowKit Go.Maps
set_option linter.unusedSimpArgs false
set_option linter.unusedVariables false
theorem Row.atEv {w : World} {S : Nat → Prop} {A : Option Addr} {n c : Nat} {xs : List EvD} (h : Row tEv w S (.slice A n c) xs) {j : Nat} {x : EvD} (hj : xs[j]? = some x) :
    ∃ b off p o i, A = some ⟨b, off, none⟩ ∧ b < w.heap.size ∧ Sl w S x.res p o i ∧ w.rangeAt b (off + j * 12) [.int .i64 x.th, .bool x.done, .int .i64 x.op.kind, .int .i64 x.op.a, .int .i64 x.op.b, .int .i64 x.op.k, .int .i64 x.op.v, .int .i64 x.res.err, .int .i64 x.res.id, p, o, i] := by
  obtain ⟨b, off, cs, hA, _, hl, ⟨p, o, i, hs, rfl⟩, hr⟩ := h.at hj
  exact ⟨b, off, p, o, i, hA, hl, hs, hr⟩
theorem range12 {w : World} {b o : Nat} {v0 v1 v2 v3 v4 v5 v6 v7 v8 v9 v10 v11 : Value} (h : w.rangeAt b o [v0, v1, v2, v3, v4, v5, v6, v7, v8, v9, v10, v11]) : w.cell? ⟨b, o, none⟩ = some v0 ∧ w.cell? ⟨b, o + 1, none⟩ = some v1 ∧ w.cell? ⟨b, o + 2, none⟩ = some v2 ∧ w.cell? ⟨b, o + 3, none⟩ = some v3 ∧ w.cell? ⟨b, o + 4, none⟩ = some v4 ∧ w.cell? ⟨b, o + 5, none⟩ = some v5 ∧ w.cell? ⟨b, o + 6, none⟩ = some v6 ∧ w.cell? ⟨b, o + 7, none⟩ = some v7 ∧ w.cell? ⟨b, o + 8, none⟩ = some v8 ∧ w.cell? ⟨b, o + 9, none⟩ = some v9 ∧ w.cell? ⟨b, o + 10, none⟩ = some v10 ∧ w.cell? ⟨b, o + 11, none⟩ = some v11 :=
  ⟨h 0 _ rfl, h 1 _ rfl, h 2 _ rfl, h 3 _ rfl, h 4 _ rfl, h 5 _ rfl, h 6 _ rfl, h 7 _ rfl, h 8 _ rfl, h 9 _ rfl, h 10 _ rfl, h 11 _ rfl⟩
theorem elemCall : ElemOf Try.prog 25 36 tCall.sz 152 (.agg #[.int .i64 0, .int .i64 0, .int .i64 0, .int .i64 0, .int .i64 0, .int .i64 0, .int .i64 0, .int .i64 0, .int .i64 0, .int .i64 0, .slice none 0 0, .slice none 0 0, .slice none 0 0]) := ⟨Try.underlying25, by kernel_rfl, rfl⟩
def CallsPost (w : World) (l : List EvD) (e : Ending) (w' : World) : Prop := ∃ v', e = .returned (.tuple #[v', .int .i64 (errOf (runL l))]) ∧ Row tCall w' (fun k => w.heap.size ≤ k) v' (outOf (runL l)) ∧ Below w.heap.size w w'
theorem CallsPost.bad {w w' : World} {l : List EvD} (h : runL l = none) (hb : Below w.heap.size w w') : CallsPost w l (.returned (.tuple #[.slice none 0 0, .int .i64 1])) w' := ⟨_, by rw [h]; rfl, by rw [h]; exact Row.nil _ _ _, hb⟩
theorem Own.head {α : Type} {t : Ty α} {e : TypeId} {w : World} {S : Nat → Prop} {A : Option Addr} {n c : Nat} {xs : List α} (h : Own t e w S (.slice A n c) xs) (hn : 0 < xs.length) : ∃ g, A = some ⟨g, 0, none⟩ ∧ S g ∧ g < w.heap.size := by
  have hlt := h.lt
  obtain ⟨hS, inner, ho, hk⟩ := h
  rcases ho.2 with ⟨h1, h2⟩ | ⟨g, cap, cur, h1, _⟩
  · omega
  · injection h1 with h1 _ _
    subst h1
    exact ⟨g, rfl, hS g rfl, hlt g rfl⟩
theorem Own.frozenC {α : Type} {t : Ty α} {e : TypeId} {w : World} {S : Nat → Prop} {g n c : Nat} {xs : List α} (h : Own t e w S (.slice (some ⟨g, 0, none⟩) n c) xs) (j : Nat) : w.frozen? ⟨g, j, none⟩ = false := by
  obtain ⟨hS, inner, ho, hk⟩ := h
  have hn : n = xs.length := by
    rcases ho.2 with ⟨h1, _⟩ | ⟨_, _, _, h1, _⟩
    · simp at h1
    · injection h1
  subst hn
  exact ho.frozenAt j
theorem Own.atCall {e : TypeId} {w : World} {S : Nat → Prop} {g n c : Nat} {xs : List CallD} (h : Own tCall e w S (.slice (some ⟨g, 0, none⟩) n c) xs) {j : Nat} {y : CallD} (hj : xs[j]? = some y) :
    ∃ p o i, w.cell? ⟨g, j * 13, none⟩ = some (.int .i64 y.th) ∧ w.cell? ⟨g, j * 13 + 1, none⟩ = some (.int .i64 y.op.kind) ∧ w.cell? ⟨g, j * 13 + 2, none⟩ = some (.int .i64 y.op.a) ∧ w.cell? ⟨g, j * 13 + 3, none⟩ = some (.int .i64 y.op.b) ∧ w.cell? ⟨g, j * 13 + 4, none⟩ = some (.int .i64 y.op.k) ∧ w.cell? ⟨g, j * 13 + 5, none⟩ = some (.int .i64 y.op.v) ∧ w.cell? ⟨g, j * 13 + 6, none⟩ = some (.int .i64 y.frm) ∧ w.cell? ⟨g, j * 13 + 7, none⟩ = some (.int .i64 y.to) ∧ w.cell? ⟨g, j * 13 + 8, none⟩ = some (.int .i64 y.res.err) ∧ w.cell? ⟨g, j * 13 + 9, none⟩ = some (.int .i64 y.res.id) ∧ w.cell? ⟨g, j * 13 + 10, none⟩ = some p ∧ w.cell? ⟨g, j * 13 + 11, none⟩ = some o ∧ w.cell? ⟨g, j * 13 + 12, none⟩ = some i := by
  obtain ⟨b, off, cs, hA, _, hl, ⟨p, o, i, hs, rfl⟩, hr⟩ := h.row.at hj
  injection hA with hA
  injection hA with h1 h2
  subst h1 h2
  rw [Nat.zero_add] at hr
  have hz : tCall.sz = 13 := rfl
  rw [hz] at hr
  exact ⟨p, o, i, hr 0 _ rfl, hr 1 _ rfl, hr 2 _ rfl, hr 3 _ rfl, hr 4 _ rfl, hr 5 _ rfl, hr 6 _ rfl, hr 7 _ rfl, hr 8 _ rfl, hr 9 _ rfl, hr 10 _ rfl, hr 11 _ rfl, hr 12 _ rfl⟩
set_option maxRecDepth 100000 in
set_option maxHeartbeats 8000000 in
theorem calls_calls (w : World) (S : Nat → Prop) (v : Value) (l : List EvD) (h : Row tEv w S v l) (hlen : l.length ≤ 1000000) (hfew : ∀ x ∈ l, x.res.few) (hok : ∀ x ∈ l, okI x.th) : Calls Try.prog 11 #[v] w (CallsPost w l) := by
  obtain ⟨A, c, rfl⟩ := h.slice
  have H := Lib.hid h.bound
  have HF := Lib.hid hfew
  have HO := Lib.hid hok
  clear h hfew hok
  have hmm := @run_makeMap Try.prog
  go_enter Try.func11, Try.ntmps11
  go_wp2
  clear hmm
  go_loopw [4, 13] (fun o i wr => ∃ (k : Nat) (s : St), k ≤ l.length ∧ i = .int .i64 (k : Int) ∧ Hid (runL (l.take k) = some s) ∧ Hid s.fits ∧ s.out.length ≤ k ∧ Hid (Own tCall 36 wr (fun b => w.heap.size < b) o s.out) ∧ Hid (MapI wr w.heap.size k s.opn) ∧ Hid (Below w.heap.size w wr)) (fun _ i _ => l.length - (intOf i).toNat)
  case atStart => exact ⟨0, St.zero, by omega, rfl, Lib.hid rfl, (fun q p h => by cases h), Nat.le_refl _, Own.nil _ _ _ _, MapI.made w, (Below.refl _ _).alloc (Nat.le_refl _) _⟩
  case round =>
    obtain ⟨k, s, hk, rfl, hrun, hfit, hsl, ho, hmap, hb⟩ := hrel
    have hwr := hb.out.size
    have hml := hmap.out.lt
    obtain ⟨A0, c0, rfl⟩ := ho.out.slice
    by_cases hlt : k < l.length
    · obtain ⟨x, hx⟩ := getElem?_of_lt hlt
      have hstep := runL_succ hx
      rw [hrun.out] at hstep
      have HST := Lib.hid (show runL (l.take (k + 1)) = step k x s from hstep)
      obtain ⟨b, off, p, o, i, rfl, hbl, hsl', hr⟩ := (H.out.below hb.out).atEv hx
      obtain ⟨x0, x1, x2, x3, x4, x5, x6, x7, x8, x9, x10, x11⟩ := range12 hr
      have okx := Lib.hid (HO.out x (List.mem_of_getElem? hx))
      have fewx := Lib.hid (HF.out x (List.mem_of_getElem? hx))
      have HSL := Lib.hid hsl'
      clear hx hstep hr hsl'
      obtain ⟨a1, d1, rfl⟩ := HSL.out.1.slice
      obtain ⟨a2, d2, rfl⟩ := HSL.out.2.1.slice
      obtain ⟨a3, d3, rfl⟩ := HSL.out.2.2.slice
      go_wp2_with (at_lookup; refine wpList_lookupI rfl _ _ rfl (hmap.out.kept ?hkept) okx.out rfl rfl ?_)
      case hkept => exact Below.heap_alloc _ _ _ hml
      intro cc hcc
      have HB := Lib.hid (hb.out.alloc hwr (.cells #[.int .i64 x.th, .bool x.done, .int .i64 x.op.kind, .int .i64 x.op.a, .int .i64 x.op.b, .int .i64 x.op.k, .int .i64 x.op.v, .int .i64 x.res.err, .int .i64 x.res.id, .slice a1 x.res.ps.length d1, .slice a2 x.res.os.length d2, .slice a3 x.res.is.length d3] 43))
      have HOw := Lib.hid (ho.out.move (Same.of_alloc _ _ (.cells #[.int .i64 x.th, .bool x.done, .int .i64 x.op.kind, .int .i64 x.op.a, .int .i64 x.op.b, .int .i64 x.op.k, .int .i64 x.op.v, .int .i64 x.res.err, .int .i64 x.res.id, .slice a1 x.res.ps.length d1, .slice a2 x.res.os.length d2, .slice a3 x.res.is.length d3] 43)))
      have HM := Lib.hid (hmap.out.kept (Below.heap_alloc _ (.cells #[.int .i64 x.th, .bool x.done, .int .i64 x.op.kind, .int .i64 x.op.a, .int .i64 x.op.b, .int .i64 x.op.k, .int .i64 x.op.v, .int .i64 x.res.err, .int .i64 x.res.id, .slice a1 x.res.ps.length d1, .slice a2 x.res.os.length d2, .slice a3 x.res.is.length d3] 43) _ hml))
      have HSw := Lib.hid (HSL.out.below (Below.heap1 wr (.cells #[.int .i64 x.th, .bool x.done, .int .i64 x.op.kind, .int .i64 x.op.a, .int .i64 x.op.b, .int .i64 x.op.k, .int .i64 x.op.v, .int .i64 x.res.err, .int .i64 x.res.id, .slice a1 x.res.ps.length d1, .slice a2 x.res.os.length d2, .slice a3 x.res.is.length d3] 43)))
      clear hb hmap HSL x0 x1 x2 x3 x4 x5 x6 x7 x8 x9 x10 x11
      have bad : step k x s = none → runL l = none := fun e => runL_none (k := k + 1) (HST.out.trans e)
      have BAD := Lib.hid bad
      clear bad
      by_cases h1 : x.th < 0
      · have HN := Lib.hid (BAD.out (step_bad (.inl h1)))
        go_wp2
        exact bodyPost_ret (v := .tuple #[.slice none 0 0, .int .i64 1]) (by simp [results, Try.results11, go_sem]) rfl (CallsPost.bad HN.out HB.out)
      by_cases h2 : 64 ≤ x.th
      · have HN := Lib.hid (BAD.out (step_bad (.inr (.inl h2))))
        go_wp2
        exact bodyPost_ret (v := .tuple #[.slice none 0 0, .int .i64 1]) (by simp [results, Try.results11, go_sem]) rfl (CallsPost.bad HN.out HB.out)
      cases hopn : s.opn x.th with
      | none =>
        have HP := Lib.hid hopn
        simp only [Option.isSome_none]
        cases hd : x.done with
        | true =>
          have HN := Lib.hid (BAD.out (step_bad (.inr (.inr (by rw [HP.out, hd]; simp)))))
          have HD := Lib.hid hd
          clear hd hopn hcc
          rw [HD.out] at HB
          go_wp2
          exact bodyPost_ret (v := .tuple #[.slice none 0 0, .int .i64 1]) (by simp [results, Try.results11, go_sem]) rfl (CallsPost.bad HN.out HB.out)
        | false =>
          have hgood : ¬ (x.th < 0 ∨ 64 ≤ x.th ∨ (s.opn x.th).isSome ≠ x.done) := by rw [HP.out, hd]; rintro (h | h | h) <;> first | omega | exact h rfl
          have HG := Lib.hid hgood
          have HD := Lib.hid hd
          rw [hd] at HB HOw HM HSw
          clear hd hopn hcc hgood
          go_wp2_with fail
          refine (histSame_calls _ _ x.res ResD.zero _ _ _ _ _ _ HSw.out (Sl.nil _ _)).mono ?_
          rintro e w1 ⟨rfl, hb1⟩
          obtain ⟨hc1, hf1⟩ := bcell hb1
          have hs1 := hb1.size
          have K1 := Lib.hid (HB.out.trans (hb1.mono (by simp; omega)))
          have HO1 := Lib.hid (HOw.out.below hb1)
          have HM1 := Lib.hid (HM.out.kept (hb1.block _ (by simp; omega)))
          clear hb1
          simp only [World.size_alloc] at hs1 hc1 hf1
          have g1 : wr.heap.size < wr.heap.size + 1 := by omega
          have g2 : wr.heap.size < w1.heap.size := by omega
          by_cases hz : x.res = ResD.zero
          case neg =>
            have HN := Lib.hid (BAD.out (step_newBad HG.out HD.out hz))
            rw [decide_eq_false hz]
            clear hz
            go_wp2
            exact bodyPost_ret (v := .tuple #[.slice none 0 0, .int .i64 1]) (by simp [results, Try.results11, go_sem]) rfl (CallsPost.bad HN.out K1.out)
          have hst := step_new (i := k) HG.out HD.out hz
          have HN := Lib.hid (HST.out.trans hst)
          have HF2 := Lib.hid (step_fits hst hfit.out)
          rw [decide_eq_true hz]
          clear hz hst
          go_wp2_with (at_mapUpdate; refine wpList_updateI rfl _ _ _ rfl HM1.out okx.out (p := s.out.length) (by omega) (by unfold maxLen; omega) rfl rfl rfl ?_)
          intro w2 hm2 hg2
          have hc2 : ∀ o, w2.cell? ⟨wr.heap.size, o, none⟩ = w1.cell? ⟨wr.heap.size, o, none⟩ := fun o => World.cell?_of_block (w := w1) (hg2.block wr.heap.size g2 (fun e => by have := Option.some.inj e; omega))
          have hs2 := hg2.size
          have K2 := Lib.hid (below_of_grown K1.out hg2 (fun k hk => Nat.le_of_eq (Option.some.inj hk)))
          have HO2 := Lib.hid (HO1.out.move (Same.of_grown hg2 (fun k hk e => by have := Option.some.inj e; omega)))
          have HM2 := Lib.hid hm2
          have HNE := Lib.hid (show ∀ k, k = w.heap.size → some k ≠ (Value.slice A0 s.out.length c0).ownBlock from fun k hk e => by have h1 : w.heap.size < k := HO2.out.1 k e.symm; omega)
          clear hm2 hg2
          have g3 : w.heap.size < w2.heap.size := by omega
          go_wp2_with (at_builtin; refine wpList_own_append1 (ty := tCall) (w := w) (S := fun b => w.heap.size < b) (Sy := fun _ => False) (v := .slice A0 s.out.length c0) (xs := s.out) (x := ⟨x.th, x.op, k, -1, ResD.zero⟩) rfl _ _ 25 36 152 _ rfl elemCall rfl ?hown rfl (by simp) ⟨_, _, _, Sl.nil _ _, rfl⟩ ?hB (fun _ h => Nat.le_of_lt h) (fun _ _ h => Nat.lt_of_lt_of_le g3 h) ?hbytes ?hlen (fun _ h => h.elim) ?_)
          case hown => exact HO2.out
          case hB => exact K2.out
          case hbytes => omega
          case hlen => unfold maxLen; omega
          intro v3 w3 ho3 hb3 hg3 _
          have HO3 := Lib.hid ho3
          have HB3 := Lib.hid hb3
          have HM3 := Lib.hid (HM2.out.kept (hg3.block _ HM2.out.lt (HNE.out _ rfl)))
          clear ho3 hb3 hg3
          go_wp2
          go_roundw
          case rel => exact ⟨k + 1, ⟨s.out ++ [⟨x.th, x.op, k, -1, ResD.zero⟩], upd s.opn x.th (some s.out.length)⟩, by omega, by first | (go_num; done) | (go_num; omega), HN, HF2, by simp; omega, HO3, HM3, HB3⟩
          case measure => simp [intOf]; omega
      | some q =>
        have HP := Lib.hid hopn
        simp only [Option.isSome_some]
        cases hd : x.done with
        | false =>
          have HN := Lib.hid (BAD.out (step_bad (.inr (.inr (by rw [HP.out, hd]; simp)))))
          have HD := Lib.hid hd
          clear hd hopn hcc
          rw [HD.out] at HB
          go_wp2
          exact bodyPost_ret (v := .tuple #[.slice none 0 0, .int .i64 1]) (by simp [results, Try.results11, go_sem]) rfl (CallsPost.bad HN.out HB.out)
        | true =>
          have hgood : ¬ (x.th < 0 ∨ 64 ≤ x.th ∨ (s.opn x.th).isSome ≠ x.done) := by rw [HP.out, hd]; rintro (h | h | h) <;> first | omega | exact h rfl
          have HG := Lib.hid hgood
          have HD := Lib.hid hd
          obtain rfl := hcc q hopn
          have hq : q < s.out.length := hfit.out _ _ hopn
          obtain ⟨y, hy⟩ := getElem?_of_lt hq
          have HY := Lib.hid hy
          obtain ⟨g, rfl, hgS, hgl'⟩ := ho.out.head (by omega)
          rw [hd] at HB HOw HM HSw
          obtain ⟨vp, vo, vi, y0, y1, y2, y3, y4, y5, y6, y7, y8, y9, y10, y11, y12⟩ := HOw.out.atCall hy
          clear hd hopn hcc hgood hy
          go_wp2
          refine wp_region_sched [(0, true), (1, true), (2, true), (3, true), (4, true), (5, true), (6, true), (7, true)] (Kept (wr.alloc (.cells #[.int .i64 x.th, .bool true, .int .i64 x.op.kind, .int .i64 x.op.a, .int .i64 x.op.b, .int .i64 x.op.k, .int .i64 x.op.v, .int .i64 x.res.err, .int .i64 x.res.id, .slice a1 x.res.ps.length d1, .slice a2 x.res.os.length d2, .slice a3 x.res.is.length d3] 43)) (fun _ => True)) (by kernel_rfl) (by kernel_rfl) ?_
          have HS := Lib.hid (Kept.refl (wr.alloc (.cells #[.int .i64 x.th, .bool true, .int .i64 x.op.kind, .int .i64 x.op.a, .int .i64 x.op.b, .int .i64 x.op.k, .int .i64 x.op.v, .int .i64 x.res.err, .int .i64 x.res.id, .slice a1 x.res.ps.length d1, .slice a2 x.res.os.length d2, .slice a3 x.res.is.length d3] 43)) (fun _ => True)).drew
          have g1 : wr.heap.size < wr.heap.size + 1 := by omega
          have g2 : g < wr.heap.size + 1 := by omega
          repeat (refine sched_take (v := ?_) (by simp only [List.getElem?_toArray, List.getElem?_cons_succ, List.getElem?_cons_zero]; rfl) (Or.inl ⟨by rfl, fun W hW => ?_⟩) HS.out ?_; rotate_left; (have hc := fun b o hb => hW.cell b o trivial hb; clear hW; go_simp; with_reducible rfl); simp only [Act.put, List.setIfInBounds_toArray, List.set_cons_zero, List.set_cons_succ])
          refine sched_take (v := .bool (!decide (y.op = x.op))) (by simp only [List.getElem?_toArray, List.getElem?_cons_succ, List.getElem?_cons_zero]; rfl) (Or.inl ⟨by rfl, fun W _ => exec_neqOp W y.op x.op rfl rfl rfl⟩) HS.out ?_
          simp only [Act.put, List.setIfInBounds_toArray, List.set_cons_zero, List.set_cons_succ]
          refine sched_done ?_
          by_cases hz : y.op = x.op
          case neg =>
            have HN := Lib.hid (BAD.out (step_doneBad HG.out HD.out HP.out HY.out hz))
            have e : (!decide (y.op = x.op)) = true := by simp [hz]
            rw [e]
            clear e hz y0 y1 y2 y3 y4 y5 y6 y7 y8 y9 y10 y11 y12
            go_wp2
            exact bodyPost_ret (v := .tuple #[.slice none 0 0, .int .i64 1]) (by simp [results, Try.results11, go_sem]) rfl (CallsPost.bad HN.out HB.out.drew)
          have hst := step_done (i := k) HG.out HD.out HP.out HY.out hz
          have HN := Lib.hid (HST.out.trans hst)
          have HF2 := Lib.hid (step_fits hst hfit.out)
          have e : (!decide (y.op = x.op)) = false := by simp [hz]
          rw [e]
          clear e hz hst y0 y1 y2 y3 y4 y5 y6 y7 y8 y9 y10 y11 y12
          have HSd := Lib.hid (HSw.out.below (Below.refl (wr.alloc (.cells #[.int .i64 x.th, .bool true, .int .i64 x.op.kind, .int .i64 x.op.a, .int .i64 x.op.b, .int .i64 x.op.k, .int .i64 x.op.v, .int .i64 x.res.err, .int .i64 x.res.id, .slice a1 x.res.ps.length d1, .slice a2 x.res.os.length d2, .slice a3 x.res.is.length d3] 43)).heap.size (wr.alloc (.cells #[.int .i64 x.th, .bool true, .int .i64 x.op.kind, .int .i64 x.op.a, .int .i64 x.op.b, .int .i64 x.op.k, .int .i64 x.op.v, .int .i64 x.res.err, .int .i64 x.res.id, .slice a1 x.res.ps.length d1, .slice a2 x.res.os.length d2, .slice a3 x.res.is.length d3] 43))).drew)
          go_wp2_with fail
          refine (own_calls _ _ x.res _ _ _ HSd.out fewx.out).mono ?_
          rintro e w1 ⟨p', o', i', rfl, hsl1, hb1⟩
          obtain ⟨hc1, hf1⟩ := bcell hb1
          have hs1 := hb1.size
          have hbd : Below (wr.alloc (.cells #[.int .i64 x.th, .bool true, .int .i64 x.op.kind, .int .i64 x.op.a, .int .i64 x.op.b, .int .i64 x.op.k, .int .i64 x.op.v, .int .i64 x.res.err, .int .i64 x.res.id, .slice a1 x.res.ps.length d1, .slice a2 x.res.os.length d2, .slice a3 x.res.is.length d3] 43)).heap.size (wr.alloc (.cells #[.int .i64 x.th, .bool true, .int .i64 x.op.kind, .int .i64 x.op.a, .int .i64 x.op.b, .int .i64 x.op.k, .int .i64 x.op.v, .int .i64 x.res.err, .int .i64 x.res.id, .slice a1 x.res.ps.length d1, .slice a2 x.res.os.length d2, .slice a3 x.res.is.length d3] 43)) w1 := ((Below.refl _ (wr.alloc (.cells #[.int .i64 x.th, .bool true, .int .i64 x.op.kind, .int .i64 x.op.a, .int .i64 x.op.b, .int .i64 x.op.k, .int .i64 x.op.v, .int .i64 x.res.err, .int .i64 x.res.id, .slice a1 x.res.ps.length d1, .slice a2 x.res.os.length d2, .slice a3 x.res.is.length d3] 43))).drew).trans hb1
          have K1 := Lib.hid (HB.out.trans (hbd.mono (by simp; omega)))
          have HO1 := Lib.hid (HOw.out.below hbd)
          have HM1 := Lib.hid (HM.out.kept (hbd.block _ (by simp; omega)))
          obtain ⟨e1, f1, rfl⟩ := hsl1.1.slice
          obtain ⟨e2, f2, rfl⟩ := hsl1.2.1.slice
          obtain ⟨e3, f3, rfl⟩ := hsl1.2.2.slice
          have HR1 := Lib.hid hsl1
          clear hb1 hbd hsl1
          simp only [World.size_alloc, World.size_drew] at hs1 hc1 hf1
          have g3 : g < w1.heap.size := by omega
          have g4 : wr.heap.size < w1.heap.size := by omega
          have g5 : w.heap.size < w1.heap.size := by omega
          have g6 : g ≠ wr.heap.size := by omega
          have g7 : ¬ wr.heap.size = g := by omega
          have hcb := hc1 wr.heap.size 0 (by omega)
          clear hc1 hf1
          have hcell : ∃ u7 u8 u9 u10 u11 u12, w1.cell? ⟨g, q * 13 + 7, none⟩ = some u7 ∧ w1.cell? ⟨g, q * 13 + 8, none⟩ = some u8 ∧ w1.cell? ⟨g, q * 13 + 9, none⟩ = some u9 ∧ w1.cell? ⟨g, q * 13 + 10, none⟩ = some u10 ∧ w1.cell? ⟨g, q * 13 + 11, none⟩ = some u11 ∧ w1.cell? ⟨g, q * 13 + 12, none⟩ = some u12 := by
            obtain ⟨vp, vo, vi, _, _, _, _, _, _, _, y7, y8, y9, y10, y11, y12⟩ := HO1.out.atCall HY.out
            exact ⟨_, _, _, _, _, _, y7, y8, y9, y10, y11, y12⟩
          obtain ⟨u7', u8', u9', u10', u11', u12', y7, y8, y9, y10, y11, y12⟩ := hcell
          have FZ := Lib.hid (fun j => HO1.out.frozenC j)
          have Y7 := Lib.hid y7
          have Y8 := Lib.hid (cell_far (u := .int .i64 (k : Int)) (show q * 13 + 7 ≠ q * 13 + 8 by omega) y8)
          have Y9 := Lib.hid (cell_far (u := .int .i64 (k : Int)) (show q * 13 + 7 ≠ q * 13 + 9 by omega) y9)
          have Y10 := Lib.hid (cell_far (u := .int .i64 (k : Int)) (show q * 13 + 7 ≠ q * 13 + 10 by omega) y10)
          have Y11 := Lib.hid (cell_far (u := .int .i64 (k : Int)) (show q * 13 + 7 ≠ q * 13 + 11 by omega) y11)
          have Y12 := Lib.hid (cell_far (u := .int .i64 (k : Int)) (show q * 13 + 7 ≠ q * 13 + 12 by omega) y12)
          clear y7 y8 y9 y10 y11 y12
          have HCB := Lib.hid hcb
          clear hcb
          go_wp2_with (refine wpList_storeI (g := g) (off := q * 13 + 7) rfl _ _ rfl rfl (n := (k : Int)) rfl Y7.out (FZ.out _) ?_)
          intro w2 HW2
          have C8 := Lib.hid (show w2.cell? ⟨g, q * 13 + 8, none⟩ = some u8' from by rw [HW2.out]; exact Y8.out)
          have C9 := Lib.hid (show w2.cell? ⟨g, q * 13 + 8 + 1, none⟩ = some u9' from by rw [HW2.out]; exact Y9.out)
          have C10 := Lib.hid (show w2.cell? ⟨g, q * 13 + 8 + 2, none⟩ = some u10' from by rw [HW2.out]; exact Y10.out)
          have C11 := Lib.hid (show w2.cell? ⟨g, q * 13 + 8 + 3, none⟩ = some u11' from by rw [HW2.out]; exact Y11.out)
          have C12 := Lib.hid (show w2.cell? ⟨g, q * 13 + 8 + 4, none⟩ = some u12' from by rw [HW2.out]; exact Y12.out)
          have FZ2 := Lib.hid (show ∀ j, w2.frozen? ⟨g, j, none⟩ = false from fun j => by rw [HW2.out, World.frozen?_setCell]; exact FZ.out j)
          go_wp2_with (refine wpList_storeR (g := g) (off := q * 13 + 8) rfl _ _ rfl rfl rfl C8.out C9.out C10.out C11.out C12.out FZ2.out ?_)
          intro w3 HW3
          rw [HW2.out] at HW3
          have same3 : ∀ j, j ≠ g → w3.heap[j]? = w1.heap[j]? := fun j hj => by
            rw [HW3.out, Below.heap_setCell _ ⟨g, _, none⟩ _ j hj, Below.heap_setCell _ ⟨g, _, none⟩ _ j hj, Below.heap_setCell _ ⟨g, _, none⟩ _ j hj, Below.heap_setCell _ ⟨g, _, none⟩ _ j hj, Below.heap_setCell _ ⟨g, _, none⟩ _ j hj, Below.heap_setCell _ ⟨g, _, none⟩ _ j hj]
          have HO3 := Lib.hid (show Own tCall 36 w3 (fun b => w.heap.size < b) (.slice (some ⟨g, 0, none⟩) s.out.length c0) (s.out.set q ⟨y.th, y.op, y.frm, k, x.res⟩) from by
            rw [HW3.out]
            exact HO1.out.setCall HY.out k x.res (HR1.out.mono fun j hj _ => by
              have hj' : wr.heap.size + 1 ≤ j := by simpa using hj
              exact ⟨by omega, by omega⟩))
          have hgg : w.heap.size ≤ g := Nat.le_of_lt hgS
          have K3 := Lib.hid (show Below w.heap.size w w3 from by
            rw [HW3.out]
            exact (((((K1.out.setCell (p := ⟨g, _, none⟩) hgg _).setCell (p := ⟨g, _, none⟩) hgg _).setCell (p := ⟨g, _, none⟩) hgg _).setCell (p := ⟨g, _, none⟩) hgg _).setCell (p := ⟨g, _, none⟩) hgg _).setCell (p := ⟨g, _, none⟩) hgg _)
          have HM3 := Lib.hid (HM1.out.kept (same3 _ (by omega)))
          have c3 : w3.cell? ⟨wr.heap.size, 0, none⟩ = some (.int .i64 x.th) := (World.cell?_of_block (w := w1) (same3 _ (by omega))).trans (HCB.out.trans (cell_of_row _ _ 0 _ _ _ (heap_alloc_new wr (.cells #[.int .i64 x.th, .bool true, .int .i64 x.op.kind, .int .i64 x.op.a, .int .i64 x.op.b, .int .i64 x.op.k, .int .i64 x.op.v, .int .i64 x.res.err, .int .i64 x.res.id, .slice a1 x.res.ps.length d1, .slice a2 x.res.os.length d2, .slice a3 x.res.is.length d3] 43))))
          clear same3
          go_wp2_with (at_delete; refine wpList_deleteI rfl _ _ rfl HM3.out okx.out rfl rfl ?_)
          intro w4 hm4 hg4
          have K4 := Lib.hid (below_of_grown K3.out hg4 (fun k hk => Nat.le_of_eq (Option.some.inj hk)))
          have HO4 := Lib.hid (HO3.out.move (Same.of_grown hg4 (fun k hk e => by have := Option.some.inj e; omega)))
          have HM4 := Lib.hid (hm4.mono (Nat.le_succ k))
          have HLE := Lib.hid (step_len (show step k x s = some _ from HST.out.symm.trans HN.out))
          rw [show s.out.length = (s.out.set q ⟨y.th, y.op, y.frm, k, x.res⟩).length from by simp]
          clear hm4 hg4 c3
          go_wp2
          go_roundw
          case rel => exact ⟨k + 1, ⟨s.out.set q ⟨y.th, y.op, y.frm, k, x.res⟩, upd s.opn x.th none⟩, by omega, by first | (go_num; done) | (go_num; omega), HN, HF2, by simp; omega, by simpa using HO4, HM4, K4⟩
          case measure => simp [intOf]; omega
    · have hk2 : l.take k = l := List.take_of_length_le (by omega)
      rw [hk2] at hrun
      clear hk2
      go_wp2
      refine bodyPost_ret (v := .tuple #[.slice A0 s.out.length c0, .int .i64 0]) (by simp [results, Try.results11, go_sem]) rfl ⟨_, by rw [hrun.out]; rfl, by rw [hrun.out]; exact ho.out.row.mono fun k hk _ => Nat.le_of_lt hk, hb.out⟩
end Go.Proofs.Ytgpmkcipogljbaa
