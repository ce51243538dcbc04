/- slices.IndexFunc, at nodes and at edges, whatever the closure. -/
import Derived.Test.YtpehmmdbjakkpaaClos
namespace Go.Proofs.Ytpehmmdbjakkpaa
open Go.RowKit Go.Shelf
set_option linter.unusedSimpArgs false
set_option linter.unusedVariables false
def idxB {α : Type} (p : α → Bool) (xs : List α) : Int := match xs.findIdx? p with
  | some i => (i : Int)
  | none => -1
theorem idxB_at {α : Type} {p : α → Bool} {xs : List α} {k : Nat} {x : α} (hx : xs[k]? = some x) (hp : p x = true) (hno : ∀ (i : Nat) (y : α), i < k → xs[i]? = some y → p y = false) : idxB p xs = (k : Int) := by
  have hk : k < xs.length := (List.getElem?_eq_some_iff.1 hx).1
  have : xs.findIdx? p = some k := by
    rw [List.findIdx?_eq_some_iff_getElem]
    refine ⟨hk, ?_, fun j hj => ?_⟩
    · rw [List.getElem?_eq_getElem hk] at hx
      injection hx with hx
      rw [hx]; exact hp
    · have := hno j xs[j] hj (List.getElem?_eq_getElem (by omega))
      simp [this]
  unfold idxB
  rw [this]
theorem idxB_none {α : Type} {p : α → Bool} {xs : List α} (hno : ∀ (i : Nat) (y : α), xs[i]? = some y → p y = false) : idxB p xs = -1 := by
  have : xs.findIdx? p = none := by
    rw [List.findIdx?_eq_none_iff]
    intro x hx
    obtain ⟨i, hi⟩ := List.mem_iff_getElem?.1 hx
    exact hno i x hi
  unfold idxB
  rw [this]
theorem idxB_cases {α : Type} (p : α → Bool) (xs : List α) : (idxB p xs = -1 ∧ ∀ (i : Nat) (y : α), xs[i]? = some y → p y = false) ∨ (∃ (k : Nat) (x : α), idxB p xs = (k : Int) ∧ xs[k]? = some x ∧ p x = true ∧ ∀ (i : Nat) (y : α), i < k → xs[i]? = some y → p y = false) := by
  unfold idxB
  cases h : xs.findIdx? p with
  | none =>
    rw [List.findIdx?_eq_none_iff] at h
    exact .inl ⟨rfl, fun i y hy => h y (List.mem_of_getElem? hy)⟩
  | some k =>
    rw [List.findIdx?_eq_some_iff_getElem] at h
    obtain ⟨hk, h1, h2⟩ := h
    refine .inr ⟨k, xs[k], rfl, List.getElem?_eq_getElem hk, h1, fun i y hi hy => ?_⟩
    have := h2 i hi
    rw [List.getElem?_eq_getElem (by omega)] at hy
    injection hy with hy
    rw [← hy]
    simpa using this
set_option maxRecDepth 20000 in
set_option maxHeartbeats 4000000 in
theorem indexN_calls (w : World) (S T : Nat → Prop) (v : Value) (xs : List NV) (fid : Nat) (fr : Array Value) (p : NV → Bool) (eg : Enters Try.prog fid)
    (hf : ∀ (W : World) (x : NV), Kept w T W → Calls Try.prog fid (#[.agg #[.int .i64 x.id, .slice x.A x.n x.c]] ++ fr) W fun e W' => e = .returned (.bool (p x)) ∧ Below W.heap.size W W')
    (h : Row tNV w S v xs) (hlen : xs.length ≤ 1000000) : Calls Try.prog 118 #[v, .func (.func fid) #[] fr] w fun e w' => e = .returned (.int .i64 (idxB p xs)) ∧ Below w.heap.size w w' := by
  obtain ⟨A, c, rfl⟩ := h.slice
  have H := Lib.hid h
  have HF := Lib.hid hf
  have eg' : ∀ args w, (callFunc fid args).run Try.prog w = .ok (.enter fid args) w := eg
  clear h hf eg
  go_enter Try.func118, Try.ntmps118
  go_wp2
  go_loopw [8] (fun q wr => ∃ k : Nat, k ≤ xs.length ∧ q = .int .i64 (k : Int) ∧ Hid (∀ (i : Nat) (y : NV), i < k → xs[i]? = some y → p y = false) ∧ Hid (Below w.heap.size w wr)) (fun q _ => xs.length - (intOf q).toNat)
  case atStart => exact ⟨0, by omega, rfl, (fun i y h => by omega), Below.refl _ _⟩
  case round =>
    obtain ⟨wa, rfl⟩ : ∃ wa, wa = wr := ⟨wr, rfl⟩
    obtain ⟨k, hk, rfl, hno, hb⟩ := hrel
    have hwr := hb.out.size
    by_cases hlt : k < xs.length
    · obtain ⟨x, hx⟩ := getElem?_of_lt hlt
      obtain ⟨b, off, rfl, _, hbl, x0, x1⟩ := (H.out.below hb.out).atNV hx
      have HX := Lib.hid hx
      clear hx
      go_wp2_with fail
      refine (HF.out wa x ((Kept.refl w T).below hb.out)).mono ?_
      rintro e w1 ⟨rfl, hb1⟩
      have K1 := Lib.hid (hb.out.trans (hb1.mono hwr))
      clear hb1
      cases hp : p x with
      | true =>
        have HI := Lib.hid (idxB_at HX.out hp hno.out)
        clear hp
        go_wp2
        go_ret
        exact ⟨by rw [HI.out]; rfl, K1.out⟩
      | false =>
        have HN := Lib.hid (show ∀ (i : Nat) (y : NV), i < k + 1 → xs[i]? = some y → p y = false from fun i y hi hy => by
          rcases Nat.lt_or_ge i k with h3 | h3
          · exact hno.out i y h3 hy
          · obtain rfl : i = k := by omega
            rw [HX.out] at hy
            injection hy with hy
            subst hy
            exact hp)
        clear hp
        go_wp2
        go_roundw
        case rel => exact ⟨k + 1, by omega, by first | (go_num; done) | (go_num; omega), HN, K1⟩
        case measure => simp [intOf]; omega
    · obtain rfl : k = xs.length := by omega
      have HI := Lib.hid (idxB_none (fun i y hy => hno.out i y (List.getElem?_eq_some_iff.1 hy).1 hy))
      go_wp2
      go_ret
      exact ⟨by rw [HI.out]; rfl, hb.out⟩
set_option maxRecDepth 20000 in
set_option maxHeartbeats 4000000 in
theorem indexE_calls (w : World) (S T : Nat → Prop) (v : Value) (xs : List EdgeD) (fid : Nat) (fr : Array Value) (p : EdgeD → Bool) (eg : Enters Try.prog fid)
    (hf : ∀ (W : World) (x : EdgeD), Kept w T W → Calls Try.prog fid (#[.agg #[.int .i64 x.id, .int .i64 x.frm, .int .i64 x.to]] ++ fr) W fun e W' => e = .returned (.bool (p x)) ∧ Below W.heap.size W W')
    (h : Row tEdge w S v xs) (hlen : xs.length ≤ 1000000) : Calls Try.prog 134 #[v, .func (.func fid) #[] fr] w fun e w' => e = .returned (.int .i64 (idxB p xs)) ∧ Below w.heap.size w w' := by
  obtain ⟨A, c, rfl⟩ := h.slice
  have H := Lib.hid h
  have HF := Lib.hid hf
  have eg' : ∀ args w, (callFunc fid args).run Try.prog w = .ok (.enter fid args) w := eg
  clear h hf eg
  go_enter Try.func134, Try.ntmps134
  go_wp2
  go_loopw [8] (fun q wr => ∃ k : Nat, k ≤ xs.length ∧ q = .int .i64 (k : Int) ∧ Hid (∀ (i : Nat) (y : EdgeD), i < k → xs[i]? = some y → p y = false) ∧ Hid (Below w.heap.size w wr)) (fun q _ => xs.length - (intOf q).toNat)
  case atStart => exact ⟨0, by omega, rfl, (fun i y h => by omega), Below.refl _ _⟩
  case round =>
    obtain ⟨wa, rfl⟩ : ∃ wa, wa = wr := ⟨wr, rfl⟩
    obtain ⟨k, hk, rfl, hno, hb⟩ := hrel
    have hwr := hb.out.size
    by_cases hlt : k < xs.length
    · obtain ⟨x, hx⟩ := getElem?_of_lt hlt
      obtain ⟨b, off, rfl, _, hbl, x0, x1, x2⟩ := (H.out.below hb.out).atEdge hx
      have HX := Lib.hid hx
      clear hx
      go_wp2_with fail
      refine (HF.out wa x ((Kept.refl w T).below hb.out)).mono ?_
      rintro e w1 ⟨rfl, hb1⟩
      have K1 := Lib.hid (hb.out.trans (hb1.mono hwr))
      clear hb1
      cases hp : p x with
      | true =>
        have HI := Lib.hid (idxB_at HX.out hp hno.out)
        clear hp
        go_wp2
        go_ret
        exact ⟨by rw [HI.out]; rfl, K1.out⟩
      | false =>
        have HN := Lib.hid (show ∀ (i : Nat) (y : EdgeD), i < k + 1 → xs[i]? = some y → p y = false from fun i y hi hy => by
          rcases Nat.lt_or_ge i k with h3 | h3
          · exact hno.out i y h3 hy
          · obtain rfl : i = k := by omega
            rw [HX.out] at hy
            injection hy with hy
            subst hy
            exact hp)
        clear hp
        go_wp2
        go_roundw
        case rel => exact ⟨k + 1, by omega, by first | (go_num; done) | (go_num; omega), HN, K1⟩
        case measure => simp [intOf]; omega
    · obtain rfl : k = xs.length := by omega
      have HI := Lib.hid (idxB_none (fun i y hy => hno.out i y (List.getElem?_eq_some_iff.1 hy).1 hy))
      go_wp2
      go_ret
      exact ⟨by rw [HI.out]; rfl, hb.out⟩
/-- Where a node stands; -1: nowhere. -/
def atOf (xs : List NodeD) (n : Int) : Int := idxB (fun x => x.id == n) xs
theorem idxB_nv {w : World} {S : Nat → Prop} {nvs : List NV} {xs : List NodeD} (h : NVs w S nvs xs) (n : Int) : idxB (fun v : NV => v.id == n) nvs = atOf xs n := by
  rcases idxB_cases (fun x : NodeD => x.id == n) xs with ⟨e, hno⟩ | ⟨k, x, e, hx, hp, hno⟩
  · unfold atOf
    rw [e]
    refine idxB_none fun i v hv => ?_
    have hi : i < xs.length := by rw [← h.len]; exact (List.getElem?_eq_some_iff.1 hv).1
    have := hno i xs[i] (List.getElem?_eq_getElem hi)
    rw [(h.each i v xs[i] hv (List.getElem?_eq_getElem hi)).1]
    exact this
  · unfold atOf
    rw [e]
    obtain ⟨v, hv, hid, _⟩ := h.at hx
    refine idxB_at hv (by rw [hid]; exact hp) fun i u hi hu => ?_
    have hi2 : i < xs.length := by rw [← h.len]; exact (List.getElem?_eq_some_iff.1 hu).1
    have := hno i xs[i] hi (List.getElem?_eq_getElem hi2)
    rw [(h.each i u xs[i] hu (List.getElem?_eq_getElem hi2)).1]
    exact this
set_option maxRecDepth 20000 in
set_option maxHeartbeats 4000000 in
theorem at_calls (w : World) (S : Nat → Prop) (g : GraphD) (vn ve : Value) (n : Int) (h : Gr w S g vn ve) (hlen : g.nodes.length ≤ 1000000) : Calls Try.prog 75 #[.agg #[vn, ve, .int .i64 g.nn, .int .i64 g.ne], .int .i64 n] w fun e w' => e = .returned (.int .i64 (atOf g.nodes n)) ∧ Below w.heap.size w w' := by
  obtain ⟨⟨A1, c1, rfl⟩, ⟨A2, c2, rfl⟩⟩ := h.slices
  obtain ⟨⟨nvs, h1, h2⟩, h3⟩ := h
  have H := Lib.hid h1
  have HE := Lib.hid (idxB_nv h2 n)
  have HL := Lib.hid h2.len
  clear h1 h2 h3
  have hw : Below w.heap.size w ((w.alloc (.cells #[.slice A1 g.nodes.length c1, .slice A2 g.edges.length c2, .int .i64 g.nn, .int .i64 g.ne] 27)).alloc (.cells #[.int .i64 n] 3)) := ((Below.refl w.heap.size w).alloc (Nat.le_refl _) _).alloc (by simp) _
  have HW := Lib.hid hw
  have H1 := Lib.hid (H.out.below hw)
  clear hw
  go_enter Try.func75, Try.ntmps75
  go_wp2_with fail
  refine (indexN_calls _ S (fun k => k = w.heap.size + 1) _ nvs _ _ (fun v => v.id == n) atC_enters (fun W x hK => ?_) H1.out (by rw [HL.out]; exact hlen)).mono ?_
  · refine atC_calls W x n (w.heap.size + 1) (by have := hK.1; simp at this; omega) ?_
    rw [hK.cell _ _ rfl (by simp)]
    simp [go_sem]
  rintro e w1 ⟨rfl, hb1⟩
  have K1 := Lib.hid (HW.out.trans (hb1.mono (by simp; omega)))
  clear hb1
  go_wp2
  go_ret
  exact ⟨by rw [HE.out]; rfl, K1.out⟩
end Go.Proofs.Ytpehmmdbjakkpaa
