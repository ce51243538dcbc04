/- line.Picks and the reference's. -/
import Derived.Test.YtaaekhmklkidmaaOpC
import Derived.Test.YtaaekhmklkidmaaLib6
import Derived.Test.YtaaekhmklkidmaaOpR
import Derived.Test.YtaaekhmklkidmaaWrite
import Derived.Laws.MakeOwn
namespace Go.Proofs.Ytaaekhmklkidmaa
open Go.RowKit
set_option linter.unusedSimpArgs false
set_option linter.unusedVariables false
def pick (t x : Int) : Int := if x.tmod t < 0 then x.tmod t + t else x.tmod t
def picksOf (l : List Int) (t : Int) : List Int := if t < 1 then [] else l.map (pick t)
theorem pick_neg {t x : Int} (h : x.tmod t < 0) : pick t x = x.tmod t + t := by simp [pick, h]
theorem pick_pos {t x : Int} (h : ¬ x.tmod t < 0) : pick t x = x.tmod t := by simp [pick, h]
theorem tmod_bounds {t x : Int} (h : 1 ≤ t) : -t < x.tmod t ∧ x.tmod t < t := ⟨by have := Int.lt_tmod_of_pos x (show 0 < t by omega); omega, Int.tmod_lt_of_pos x (by omega)⟩
theorem take1_of {α : Type} {l : List α} {i : Nat} {v : α} (h : l[i]? = some v) : (l.drop i).take 1 = [v] := by
  obtain ⟨hi, rfl⟩ := List.getElem?_eq_some_iff.1 h
  rw [List.drop_eq_getElem_cons hi]
  rfl
theorem of_take1 {α : Type} {l : List α} {i : Nat} {v : α} (h : (l.drop i).take 1 = [v]) : l[i]? = some v := by
  have : ((l.drop i).take 1)[0]? = some v := by rw [h]; rfl
  simpa using this
theorem Own.ofMade {w : World} {e : TypeId} {n : Nat} (hn : n ≤ maxLen) (S : Nat → Prop) (hS : S w.heap.size) : Own tInt e (w.alloc (.cells (madeCells #[.int .i64 0] n) e)) S (.slice (some ⟨w.heap.size, 0, none⟩) n n) (List.replicate n 0) := by
  refine ⟨fun k hk => by injection hk with hk; exact hk ▸ hS, List.replicate n (.int .i64 0), ?_, ?_⟩
  · refine ⟨by simp [tInt, Ty.flat], .inr ⟨w.heap.size, n, _, by simp, Nat.zero_le _, heap_alloc_new w _, by simp, hn, by rw [size_madeCells]; show n = n * 1; omega, ?_⟩⟩
    rw [toList_madeCells_one]
    exact List.take_of_length_le (by simp [tInt, Ty.flat])
  · intro j x hj
    have h2 := hj
    rw [List.getElem?_replicate] at h2
    have hj' : j < n ∧ (0 : Int) = x := by
      split at h2
      · injection h2 with h2; exact ⟨‹_›, h2⟩
      · cases h2
    obtain ⟨h1, rfl⟩ := hj'
    show List.take 1 (List.drop (j * 1) (List.replicate n (Value.int .i64 0))) = [.int .i64 0]
    rw [Nat.mul_one]
    exact take1_of (by rw [List.getElem?_replicate, if_pos h1])
theorem Own.setI {w : World} {e : TypeId} {S : Nat → Prop} {g n c : Nat} {xs : List Int} (h : Own tInt e w S (.slice (some ⟨g, 0, none⟩) n c) xs) (j : Nat) (u : Int) : Own tInt e (w.setCell ⟨g, j, none⟩ (.int .i64 u)) S (.slice (some ⟨g, 0, none⟩) n c) (xs.set j u) := by
  obtain ⟨hS, inner, ho, hk⟩ := h
  have hn : n = xs.length := by
    rcases ho.2 with ⟨h1, _⟩ | ⟨_, _, _, h1, _⟩
    · simp at h1
    · injection h1
  subst hn
  refine ⟨hS, inner.set j (.int .i64 u), by rw [List.length_set]; exact (ho.stored j _).1, fun i x hi => ?_⟩
  have hl : inner.length = xs.length := by have := ho.1; simpa [tInt, Ty.flat] using this
  show List.take 1 (List.drop (i * 1) (inner.set j (Value.int .i64 u))) = [.int .i64 x]
  rw [Nat.mul_one]
  refine take1_of ?_
  rw [List.getElem?_set] at hi ⊢
  split at hi
  · subst_vars
    split at hi
    · rw [if_pos rfl, if_pos (by omega)]; injection hi with hi; rw [hi]
    · cases hi
  · rw [if_neg ‹_›]
    have := hk i x hi
    have h1 : List.take 1 (List.drop (i * 1) inner) = [.int .i64 x] := this
    rw [Nat.mul_one] at h1
    exact of_take1 h1
theorem Own.frozenI {w : World} {e : TypeId} {S : Nat → Prop} {g n c : Nat} {xs : List Int} (h : Own tInt e w S (.slice (some ⟨g, 0, none⟩) n c) xs) (j : Nat) : w.frozen? ⟨g, j, none⟩ = false := by
  obtain ⟨hS, inner, ho, hk⟩ := h
  have hn : n = xs.length := by
    rcases ho.2 with ⟨h1, _⟩ | ⟨_, _, _, h1, _⟩
    · simp at h1
    · injection h1
  subst hn
  exact ho.frozenAt j
theorem Own.cellI {w : World} {e : TypeId} {S : Nat → Prop} {g n c : Nat} {xs : List Int} (h : Own tInt e w S (.slice (some ⟨g, 0, none⟩) n c) xs) {j : Nat} {x : Int} (hj : xs[j]? = some x) : w.cell? ⟨g, j, none⟩ = some (.int .i64 x) := by
  obtain ⟨b, off, hA, _, hc⟩ := h.row.atInt hj
  injection hA with hA
  injection hA with h1 h2
  subst h1 h2
  rwa [Nat.zero_add] at hc
def half (l : List Int) (t : Int) (k : Nat) : List Int := (l.take k).map (pick t) ++ List.replicate (l.length - k) 0
theorem half_len (l : List Int) (t : Int) (k : Nat) (h : k ≤ l.length) : (half l t k).length = l.length := by simp [half]; omega
theorem half_at (l : List Int) (t : Int) (k : Nat) (h : k < l.length) : (half l t k)[k]? = some 0 := by
  unfold half
  have hl : ((l.take k).map (pick t)).length = k := by simp; omega
  rw [List.getElem?_append_right (by omega), hl, Nat.sub_self, List.getElem?_replicate, if_pos (by omega)]
theorem half_set (l : List Int) (t : Int) (k : Nat) (x : Int) (h : l[k]? = some x) : (half l t k).set k (pick t x) = half l t (k + 1) := by
  have hk : k < l.length := by
    rcases Nat.lt_or_ge k l.length with h1 | h1
    · exact h1
    · rw [List.getElem?_eq_none h1] at h; cases h
  have hl : ((l.take k).map (pick t)).length = k := by simp; omega
  unfold half
  rw [List.set_append_right _ _ (by omega), hl, Nat.sub_self, show l.length - k = (l.length - (k + 1)) + 1 by omega, List.replicate_succ, List.set_cons_zero, List.take_add_one, h]
  simp
theorem half_set2 (l : List Int) (t : Int) (k : Nat) (x u : Int) (h : l[k]? = some x) : ((half l t k).set k u).set k (pick t x) = half l t (k + 1) := by rw [List.set_set, half_set l t k x h]
theorem half_zero (l : List Int) (t : Int) : half l t 0 = List.replicate l.length 0 := by simp [half]
theorem half_all (l : List Int) (t : Int) : half l t l.length = l.map (pick t) := by simp [half]
set_option maxHeartbeats 2000000 in
theorem picks_calls (w : World) (S : Nat → Prop) (v : Value) (l : List Int) (t : Int) (h : Row tInt w S v l) (hlen : l.length ≤ 1000000) (okl : ∀ x ∈ l, okI x) (okt : okI t) : Calls Try.prog 18 #[v, .int .i64 t] w (RetOwn tInt 3 w (picksOf l t)) := by
  obtain ⟨A, c, rfl⟩ := h.slice
  have H := Lib.hid h
  have HO := Lib.hid okl
  clear h okl
  obtain ⟨t1, t2⟩ := okt
  by_cases ht : t < 1
  · have e : picksOf l t = [] := by simp [picksOf, ht]
    have HE := Lib.hid e
    clear e
    go_enter Try.func18, Try.ntmps18
    go_wp2
    go_ret
    exact RetOwn.mk (by rw [HE.out]; exact Own.nil _ _ _ _) (Below.refl _ _)
  have e : picksOf l t = l.map (pick t) := by simp [picksOf, ht]
  have HE := Lib.hid e
  clear e
  have hmk : ∀ W : World, (Instr.makeSlice 24 (.int .i64 (l.length : Int)) (.int .i64 (l.length : Int))).run Try.prog W = .ok (.slice (some ⟨W.heap.size, 0, none⟩) l.length l.length) (W.alloc (.cells (madeCells #[.int .i64 0] l.length) 3)) := fun W => by
    obtain ⟨i, hi, hz⟩ := Option.map_eq_some_iff.1 elemInt.info
    injection hz with hz1 hz2
    injection hz2 with hz2 hz3
    have := run_make (P := Try.prog) W 24 3 i (.int .i64 0) elemInt.slice hi hz1 .i64 .i64 l.length l.length (by omega) (by omega) (by rw [hz3]; omega) (by omega)
    have e1 : l.length * tInt.sz = l.length := Nat.mul_one _
    have e2 : (Value.int .i64 0).cells = #[.int .i64 0] := rfl
    rw [hz2, Int.toNat_natCast, e1, e2] at this
    exact this
  go_enter Try.func18, Try.ntmps18
  go_wp2
  have hinv : Own tInt 3 (w.alloc (.cells (madeCells #[.int .i64 0] l.length) 3)) (fun k => w.heap.size ≤ k) (.slice (some ⟨w.heap.size, 0, none⟩) l.length l.length) (half l t 0) := by
    rw [half_zero]
    exact Own.ofMade (by unfold maxLen; omega) _ (Nat.le_refl _)
  have HI := Lib.hid hinv
  clear hinv hmk
  go_loopw [15] (fun i wr => ∃ k : Nat, k ≤ l.length ∧ i = .int .i64 (k : Int) ∧ Hid (Own tInt 3 wr (fun k => w.heap.size ≤ k) (.slice (some ⟨w.heap.size, 0, none⟩) l.length l.length) (half l t k)) ∧ Hid (Below w.heap.size w wr)) (fun i _ => l.length - (intOf i).toNat)
  case atStart => exact ⟨0, by omega, rfl, HI, (Below.refl _ _).alloc (Nat.le_refl _) _⟩
  case round =>
    obtain ⟨k, hk, rfl, ho, hb⟩ := hrel
    have hwr := hb.out.size
    by_cases hlt : k < l.length
    · obtain ⟨x, hx⟩ := getElem?_of_lt hlt
      obtain ⟨b, off, rfl, hbl, x0⟩ := (H.out.below hb.out).atInt hx
      have HX := Lib.hid hx
      have okx := HO.out x (List.mem_of_getElem? hx)
      obtain ⟨ok1, ok2⟩ := okx
      clear hx
      obtain ⟨m1, m2⟩ := tmod_bounds (t := t) (x := x) (by omega)
      have f0 := ho.out.frozenI k
      have c0 := ho.out.cellI (half_at l t k hlt)
      have e1 := half_set l t k x HX.out
      have e2 := half_set2 l t k x (x.tmod t) HX.out
      by_cases hn : x.tmod t < 0
      · rw [pick_neg hn] at e1 e2
        have E2 := Lib.hid e2
        clear e1 e2
        go_wp2
        go_roundw
        case rel => exact ⟨k + 1, by omega, by first | (go_num; done) | (go_num; omega), by rw [← E2.out]; exact Lib.hid ((ho.out.setI k _).setI k _), Lib.hid ((hb.out.setCell (p := ⟨w.heap.size, k, none⟩) (Nat.le_refl _) _).setCell (p := ⟨w.heap.size, k, none⟩) (Nat.le_refl _) _)⟩
        case measure => simp [intOf]; omega
      · rw [pick_pos hn] at e1
        have E1 := Lib.hid e1
        clear e1 e2
        go_wp2
        go_roundw
        case rel => exact ⟨k + 1, by omega, by first | (go_num; done) | (go_num; omega), by rw [← E1.out]; exact Lib.hid (ho.out.setI k _), Lib.hid (hb.out.setCell (p := ⟨w.heap.size, k, none⟩) (Nat.le_refl _) _)⟩
        case measure => simp [intOf]; omega
    · obtain rfl : k = l.length := by omega
      go_wp2
      go_ret
      exact RetOwn.mk (by rw [HE.out, ← half_all]; exact ho.out) hb.out
set_option maxHeartbeats 2000000 in
theorem refPicks_calls (w : World) (S : Nat → Prop) (v : Value) (l : List Int) (t : Int) (h : Row tInt w S v l) (hlen : l.length ≤ 1000000) (okl : ∀ x ∈ l, okI x) (okt : okI t) : Calls Try.prog 21 #[v, .int .i64 t] w (RetOwn tInt 3 w (picksOf l t)) := by
  obtain ⟨A, c, rfl⟩ := h.slice
  have H := Lib.hid h
  have HO := Lib.hid okl
  clear h okl
  obtain ⟨t1, t2⟩ := okt
  have z0 : picksOf ([] : List Int) t = [] := by unfold picksOf; split <;> rfl
  have Z0 := Lib.hid z0
  clear z0
  go_enter Try.func21, Try.ntmps21
  go_wp2
  go_loopw [5, 10] (fun o i wr => ∃ k : Nat, k ≤ l.length ∧ i = .int .i64 (k : Int) ∧ Hid (Own tInt 3 wr (fun k => w.heap.size ≤ k) o (picksOf (l.take k) t)) ∧ Hid (Below w.heap.size w wr)) (fun _ i _ => l.length - (intOf i).toNat)
  case atStart => exact ⟨0, by omega, rfl, by rw [List.take_zero, Z0.out]; exact Own.nil _ _ _ _, Below.refl _ _⟩
  case round =>
    obtain ⟨k, hk, rfl, ho, hb⟩ := hrel
    have hwr := hb.out.size
    by_cases hlt : k < l.length
    · obtain ⟨x, hx⟩ := getElem?_of_lt hlt
      obtain ⟨b, off, rfl, hbl, x0⟩ := (H.out.below hb.out).atInt hx
      have HX := Lib.hid hx
      have okx := HO.out x (List.mem_of_getElem? hx)
      obtain ⟨ok1, ok2⟩ := okx
      clear hx
      by_cases ht : t < 1
      · have e1 : picksOf (l.take (k + 1)) t = picksOf (l.take k) t := by simp [picksOf, ht]
        have E1 := Lib.hid e1
        clear e1
        go_wp2
        go_roundw
        case rel => exact ⟨k + 1, by omega, by first | (go_num; done) | (go_num; omega), by rw [E1.out]; exact ho, hb⟩
        case measure => simp [intOf]; omega
      obtain ⟨m1, m2⟩ := tmod_bounds (t := t) (x := x) (by omega)
      have e1 : picksOf (l.take (k + 1)) t = picksOf (l.take k) t ++ [pick t x] := by simp [picksOf, ht, List.take_add_one, HX.out]
      have hle : (picksOf (l.take k) t).length ≤ k := by simp [picksOf, ht]; omega
      by_cases hn : x.tmod t < 0
      · rw [pick_neg hn] at e1
        have E1 := Lib.hid e1
        clear e1
        go_wp2_with (at_builtin; refine wpList_own_append1 (ty := tInt) (w := w) (S := fun k => w.heap.size ≤ k) (Sy := fun _ => False) (v := u5) (xs := picksOf (l.take k) t) (x := x.tmod t + t) rfl _ _ 24 3 8 _ rfl elemInt rfl ?hown rfl (by simp) rfl ?hB (fun _ h => h) (fun _ h _ => h) ?hbytes ?hlen (fun _ h => h.elim) ?_)
        case hown => exact ho.out
        case hB => exact hb.out
        case hbytes => omega
        case hlen => unfold maxLen; omega
        intro v2 w2 ho2 hb2 _ _
        have HO2 := Lib.hid ho2
        have HB2 := Lib.hid hb2
        clear ho2 hb2
        go_wp2
        go_roundw
        case rel => exact ⟨k + 1, by omega, by first | (go_num; done) | (go_num; omega), by rw [E1.out]; exact HO2, HB2⟩
        case measure => simp [intOf]; omega
      · rw [pick_pos hn] at e1
        have E1 := Lib.hid e1
        clear e1
        go_wp2_with (at_builtin; refine wpList_own_append1 (ty := tInt) (w := w) (S := fun k => w.heap.size ≤ k) (Sy := fun _ => False) (v := u5) (xs := picksOf (l.take k) t) (x := x.tmod t) rfl _ _ 24 3 8 _ rfl elemInt rfl ?hown rfl (by simp) rfl ?hB (fun _ h => h) (fun _ h _ => h) ?hbytes ?hlen (fun _ h => h.elim) ?_)
        case hown => exact ho.out
        case hB => exact hb.out
        case hbytes => omega
        case hlen => unfold maxLen; omega
        intro v2 w2 ho2 hb2 _ _
        have HO2 := Lib.hid ho2
        have HB2 := Lib.hid hb2
        clear ho2 hb2
        go_wp2
        go_roundw
        case rel => exact ⟨k + 1, by omega, by first | (go_num; done) | (go_num; omega), by rw [E1.out]; exact HO2, HB2⟩
        case measure => simp [intOf]; omega
    · have hk2 : l.take k = l := List.take_of_length_le (by omega)
      have HK := Lib.hid hk2
      clear hk2
      go_wp2
      go_ret
      exact RetOwn.mk (by have := ho.out; rwa [HK.out] at this) hb.out
end Go.Proofs.Ytaaekhmklkidmaa
