/- slices.Index, IndexFunc, Contains, ContainsFunc and Clone at numbers; IndexFunc and ContainsFunc at calls. Orders: a search and a path as plain data, and whether a call can stand next (lin.ready). (*lin.search).ready and whole. (*lin.search).next. The orders that begin with a path, the first one first; what holds of a path. -/
import Derived.Test.YtpehmmdbjakkpaaGreatHistM
import Derived.Test.YtpehmmdbjakkpaaGreatFitsA
set_option linter.unusedSimpArgs false
set_option linter.unusedVariables false
namespace Go.Proofs.YtpehmmdbjakkpaaGreat
open Go.RowKit Go.Shelf
theorem Row.atInt {w : World} {S : Nat → Prop} {A : Option Addr} {n c : Nat} {xs : List Int} (h : Row tInt w S (.slice A n c) xs) {j : Nat} {x : Int} (hj : xs[j]? = some x) :
  ∃ b off, A = some ⟨b, off, none⟩ ∧ S b ∧ b < w.heap.size ∧ w.cell? ⟨b, off + j, none⟩ = some (.int .i64 x) := by
 obtain ⟨b, off, cs, hA, hS, hl, hk, hr⟩ := h.at hj
 have hk' : cs = [.int .i64 x] := hk
 subst hk'
 have h1 := hr 0 _ rfl
 have hz : tInt.sz = 1 := rfl
 rw [hz, Nat.mul_one, Nat.add_zero] at h1
 exact ⟨b, off, hA, hS, hl, h1⟩
theorem idxB_any {α : Type} (p : α → Bool) (xs : List α) : decide (0 ≤ idxB p xs) = xs.any p := by
 rw [Bool.eq_iff_iff, decide_eq_true_iff, List.any_eq_true]
 rcases idxB_cases p xs with ⟨e, hno⟩ | ⟨k, x, e, hx, hp, _⟩
 ·
  rw [e]
  refine ⟨fun h => by omega, fun ⟨x, hx, hp⟩ => ?_⟩
  obtain ⟨i, hi⟩ := List.mem_iff_getElem?.1 hx
  rw [hno i x hi] at hp
  cases hp
 ·
  rw [e]
  exact ⟨fun _ => ⟨x, List.mem_of_getElem? hx, hp⟩, fun _ => by omega⟩
theorem elemInts : ElemOf Tryz.prog 25 3 tInt.sz 8 (.int .i64 0) := ⟨Tryz.underlying25, by kernel_rfl, rfl⟩
set_option maxHeartbeats 2000000 in
theorem cloneInts_calls (w : World) (S : Nat → Prop) (v : Value) (l : List Int) (h : Row tInt w S v l) (hlen : l.length ≤ 1000000) : Calls Tryz.prog 38 #[v] w (RetOwn tInt 3 w l) := by
 have hb := h.bound
 obtain ⟨A, c, rfl⟩ := h.slice
 obtain ⟨h1, h2, h3, h4⟩ := h.n_eq
 cases A with
 | none =>
  obtain rfl := h4 rfl
  have hl : l = [] := List.eq_nil_of_length_eq_zero (by omega)
  subst hl
  clear h hb
  have hq := fun W : World => run_eql_slice_nil (P := Tryz.prog) W 25 _ none 0 0 Tryz.underlying25
  go_enter Tryz.func38, Tryz.ntmps38
  go_wp2
  go_ret
  exact RetOwn.mk (Own.nil _ _ _ _) (Below.refl _ _)
 | some ad =>
  have H := Lib.hid hb
  clear h hb h1 h2 h3 h4
  have ho : Own tInt 3 (w.alloc (.cells #[] 3)) (fun k => True) (.slice (some ⟨w.heap.size, 0, none⟩) 0 0) [] := ⟨fun _ _ => trivial, [], ⟨rfl, .inr ⟨w.heap.size, 0, #[], rfl, Nat.zero_le _, heap_alloc_new w _, Nat.le_refl _, by unfold maxLen; omega, rfl, rfl⟩⟩, fun j x hj => by simp at hj⟩
  have HO := Lib.hid ho
  have hr := H.out.below (Below.heap1 w (.cells #[] 3))
  have HRR := Lib.hid hr
  clear ho hr
  have hq := fun W : World => run_eql_slice_nil (P := Tryz.prog) W 25 _ (some ad) l.length c Tryz.underlying25
  go_enter Tryz.func38, Tryz.ntmps38
  go_wp2_with (at_builtin; refine wpList_own_append (ty := tInt) (W := w.alloc (.cells #[] 3)) (S := fun k => True) (Sy := fun k => S k ∧ k < w.heap.size) (v := .slice (some ⟨w.heap.size, 0, none⟩) 0 0) (xs := []) (ys := l) rfl _ _ 25 3 8 _ rfl elemInts rfl HO.out (some ad) l.length c rfl HRR.out rfl ?b1 ?b2 trivial (fun k h _ => ⟨trivial, fun e => Nat.ne_of_lt h.2 (Option.some.inj e).symm⟩) ?_)
  case b1 => simp; omega
  case b2 => unfold maxLen; simp; omega
  intro v2 w2 ho2 hg2 hor2
  have hb2 : Below w.heap.size w w2 := below_of_grown (Below.heap1 w (.cells #[] 3)) hg2 (fun k hk => Nat.le_of_eq (Option.some.inj hk))
  have hlt2 := ho2.lt
  have ho3 : Own tInt 3 w2 (fun k => w.heap.size ≤ k) v2 l := by
   obtain ⟨_, inner, r1, r2⟩ := ho2
   refine ⟨fun k hk => ?_, inner, r1, fun j x hj => r2 j x hj⟩
   rcases hor2 with h | h
   ·
    exact Nat.le_of_eq (Option.some.inj (h.symm.trans hk))
   ·
    have e := Option.some.inj (h.symm.trans hk); omega
  have HO3 := Lib.hid ho3
  have HB2 := Lib.hid hb2
  clear ho2 hg2 hb2 hor2
  go_wp2
  go_ret
  exact RetOwn.mk HO3.out HB2.out
set_option maxRecDepth 20000 in
set_option maxHeartbeats 4000000 in
theorem indexIf_calls (w : World) (S T : Nat → Prop) (v : Value) (xs : List Int) (fid : Nat) (fr : Array Value) (p : Int → Bool) (eg : Enters Tryz.prog fid)
  (hf : ∀ (W : World) (x : Int), x ∈ xs → Kept w T W → Calls Tryz.prog fid (#[.int .i64 x] ++ fr) W fun e W' => e = .returned (.bool (p x)) ∧ Below W.heap.size W W')
  (h : Row tInt w S v xs) (hlen : xs.length ≤ 1000000) : Calls Tryz.prog 81 #[v, .func (.func fid) #[] fr] w fun e w' => e = .returned (.int .i64 (idxB p xs)) ∧ Below w.heap.size w w' := by
 obtain ⟨A, c, rfl⟩ := h.slice
 have H := Lib.hid h
 have HF := Lib.hid hf
 have eg' : ∀ args w, (callFunc fid args).run Tryz.prog w = .ok (.enter fid args) w := eg
 clear h hf eg
 go_enter Tryz.func81, Tryz.ntmps81
 go_wp2
 go_loopw [8] (fun q wr => ∃ k : Nat, k ≤ xs.length ∧ q = .int .i64 (k : Int) ∧ Hid (∀ (i : Nat) (y : Int), i < k → xs[i]? = some y → p y = false) ∧ Hid (Below w.heap.size w wr)) (fun q _ => xs.length - (intOf q).toNat)
 case atStart => exact ⟨0, by omega, rfl, (fun i y h => by omega), Below.refl _ _⟩
 case round =>
  obtain ⟨wa, rfl⟩ : ∃ wa, wa = wr := ⟨wr, rfl⟩
  obtain ⟨k, hk, rfl, hno, hb⟩ := hrel
  have hwr := hb.out.size
  by_cases hlt : k < xs.length
  ·
   obtain ⟨x, hx⟩ := getElem?_of_lt hlt
   obtain ⟨b, off, rfl, _, hbl, x0⟩ := (H.out.below hb.out).atInt hx
   have HX := Lib.hid hx
   clear hx
   go_wp2_with fail
   refine (HF.out wa x (List.mem_of_getElem? HX.out) ((Kept.refl w T).below hb.out)).mono ?_
   rintro e w1 ⟨rfl, hb1⟩
   have K1 := Lib.hid (hb.out.trans (hb1.mono hwr))
   clear hb1
   cases hp : p x with
   | true =>
    have HI := Lib.hid (idxB_at HX.out hp hno.out)
    clear hp
    go_wp2
    go_ret
    exact ⟨by rw [HI.out]; rfl, K1.out⟩
   | false =>
    have HN := Lib.hid (show ∀ (i : Nat) (y : Int), i < k + 1 → xs[i]? = some y → p y = false from fun i y hi hy => by
     rcases Nat.lt_or_ge i k with h3 | h3
     ·
      exact hno.out i y h3 hy
     ·
      obtain rfl : i = k := by omega
      rw [HX.out] at hy
      injection hy with hy
      subst hy
      exact hp)
    clear hp
    go_wp2
    go_roundw
    case rel => exact ⟨k + 1, by omega, by first | (go_num; done) | (go_num; omega), HN, K1⟩
    case measure => simp [intOf]; omega
  ·
   obtain rfl : k = xs.length := by omega
   have HI := Lib.hid (idxB_none (fun i y hy => hno.out i y (List.getElem?_eq_some_iff.1 hy).1 hy))
   go_wp2
   go_ret
   exact ⟨by rw [HI.out]; rfl, hb.out⟩
set_option maxRecDepth 20000 in
set_option maxHeartbeats 4000000 in
theorem indexCf_calls (w : World) (S T : Nat → Prop) (v : Value) (xs : List CallD) (fid : Nat) (fr : Array Value) (p : CallD → Bool) (eg : Enters Tryz.prog fid)
  (hf : ∀ (W : World) (x : CallD) (a1 : Option Addr) (n1 d1 : Nat) (a2 : Option Addr) (n2 d2 : Nat) (a3 : Option Addr) (n3 d3 : Nat), x ∈ xs → Kept w T W → Calls Tryz.prog fid (#[.agg #[.int .i64 x.th, .int .i64 x.op.k, .int .i64 x.op.a, .int .i64 x.op.b, .int .i64 x.op.p, .int .i64 x.op.v, .int .i64 x.frm, .int .i64 x.to, .int .i64 x.res.st, .int .i64 x.res.id, .slice a1 n1 d1, .slice a2 n2 d2, .slice a3 n3 d3]] ++ fr) W fun e W' => e = .returned (.bool (p x)) ∧ Below W.heap.size W W')
  (h : Row tCall w S v xs) (hlen : xs.length ≤ 1000000) : Calls Tryz.prog 83 #[v, .func (.func fid) #[] fr] w fun e w' => e = .returned (.int .i64 (idxB p xs)) ∧ Below w.heap.size w w' := by
 obtain ⟨A, c, rfl⟩ := h.slice
 have H := Lib.hid h
 have HF := Lib.hid hf
 have eg' : ∀ args w, (callFunc fid args).run Tryz.prog w = .ok (.enter fid args) w := eg
 clear h hf eg
 go_enter Tryz.func83, Tryz.ntmps83
 go_wp2
 go_loopw [8] (fun q wr => ∃ k : Nat, k ≤ xs.length ∧ q = .int .i64 (k : Int) ∧ Hid (∀ (i : Nat) (y : CallD), i < k → xs[i]? = some y → p y = false) ∧ Hid (Below w.heap.size w wr)) (fun q _ => xs.length - (intOf q).toNat)
 case atStart => exact ⟨0, by omega, rfl, (fun i y h => by omega), Below.refl _ _⟩
 case round =>
  obtain ⟨wa, rfl⟩ : ∃ wa, wa = wr := ⟨wr, rfl⟩
  obtain ⟨k, hk, rfl, hno, hb⟩ := hrel
  have hwr := hb.out.size
  by_cases hlt : k < xs.length
  ·
   obtain ⟨x, hx⟩ := getElem?_of_lt hlt
   obtain ⟨b, off, a1, d1, a2, d2, a3, d3, rfl, hbl, _, x0, x1, x2, x3, x4, x5, x6, x7, x8, x9, x10, x11, x12⟩ := (H.out.below hb.out).atCallF hx
   have HX := Lib.hid hx
   clear hx
   go_wp2_with fail
   refine (HF.out wa x a1 _ d1 a2 _ d2 a3 _ d3 (List.mem_of_getElem? HX.out) ((Kept.refl w T).below hb.out)).mono ?_
   rintro e w1 ⟨rfl, hb1⟩
   have K1 := Lib.hid (hb.out.trans (hb1.mono hwr))
   clear hb1
   cases hp : p x with
   | true =>
    have HI := Lib.hid (idxB_at HX.out hp hno.out)
    clear hp
    go_wp2
    go_ret
    exact ⟨by rw [HI.out]; rfl, K1.out⟩
   | false =>
    have HN := Lib.hid (show ∀ (i : Nat) (y : CallD), i < k + 1 → xs[i]? = some y → p y = false from fun i y hi hy => by
     rcases Nat.lt_or_ge i k with h3 | h3
     ·
      exact hno.out i y h3 hy
     ·
      obtain rfl : i = k := by omega
      rw [HX.out] at hy
      injection hy with hy
      subst hy
      exact hp)
    clear hp
    go_wp2
    go_roundw
    case rel => exact ⟨k + 1, by omega, by first | (go_num; done) | (go_num; omega), HN, K1⟩
    case measure => simp [intOf]; omega
  ·
   obtain rfl : k = xs.length := by omega
   have HI := Lib.hid (idxB_none (fun i y hy => hno.out i y (List.getElem?_eq_some_iff.1 hy).1 hy))
   go_wp2
   go_ret
   exact ⟨by rw [HI.out]; rfl, hb.out⟩
set_option maxRecDepth 20000 in
set_option maxHeartbeats 4000000 in
theorem indexI_calls (w : World) (S : Nat → Prop) (v : Value) (xs : List Int) (n : Int) (h : Row tInt w S v xs) (hlen : xs.length ≤ 1000000) : Calls Tryz.prog 82 #[v, .int .i64 n] w fun e w' => e = .returned (.int .i64 (idxB (fun y => n == y) xs)) ∧ Below w.heap.size w w' := by
 obtain ⟨A, c, rfl⟩ := h.slice
 have H := Lib.hid h
 clear h
 go_enter Tryz.func82, Tryz.ntmps82
 go_wp2
 go_loopw [8] (fun q wr => ∃ k : Nat, k ≤ xs.length ∧ q = .int .i64 (k : Int) ∧ Hid (∀ (i : Nat) (y : Int), i < k → xs[i]? = some y → (n == y) = false) ∧ Hid (Below w.heap.size w wr)) (fun q _ => xs.length - (intOf q).toNat)
 case atStart => exact ⟨0, by omega, rfl, (fun i y h => by omega), Below.refl _ _⟩
 case round =>
  obtain ⟨wa, rfl⟩ : ∃ wa, wa = wr := ⟨wr, rfl⟩
  obtain ⟨k, hk, rfl, hno, hb⟩ := hrel
  have hwr := hb.out.size
  by_cases hlt : k < xs.length
  ·
   obtain ⟨x, hx⟩ := getElem?_of_lt hlt
   obtain ⟨b, off, rfl, _, hbl, x0⟩ := (H.out.below hb.out).atInt hx
   have HX := Lib.hid hx
   clear hx
   cases hp : n == x with
   | true =>
    have HI := Lib.hid (idxB_at (p := fun y => n == y) HX.out hp hno.out)
    go_wp2
    go_ret
    exact ⟨by rw [HI.out]; rfl, hb.out⟩
   | false =>
    have HN := Lib.hid (show ∀ (i : Nat) (y : Int), i < k + 1 → xs[i]? = some y → (n == y) = false from fun i y hi hy => by
     rcases Nat.lt_or_ge i k with h3 | h3
     ·
      exact hno.out i y h3 hy
     ·
      obtain rfl : i = k := by omega
      rw [HX.out] at hy
      injection hy with hy
      subst hy
      exact hp)
    go_wp2
    go_roundw
    case rel => exact ⟨k + 1, by omega, by first | (go_num; done) | (go_num; omega), HN, hb⟩
    case measure => simp [intOf]; omega
  ·
   obtain rfl : k = xs.length := by omega
   have HI := Lib.hid (idxB_none (p := fun y => n == y) (fun i y hy => hno.out i y (List.getElem?_eq_some_iff.1 hy).1 hy))
   go_wp2
   go_ret
   exact ⟨by rw [HI.out]; rfl, hb.out⟩
set_option maxRecDepth 20000 in
theorem containsI_calls (w : World) (S : Nat → Prop) (v : Value) (xs : List Int) (n : Int) (h : Row tInt w S v xs) (hlen : xs.length ≤ 1000000) : Calls Tryz.prog 56 #[v, .int .i64 n] w fun e w' => e = .returned (.bool (xs.any (fun y => n == y))) ∧ Below w.heap.size w w' := by
 have HI := Lib.hid (indexI_calls w S v xs n h hlen)
 have HA := Lib.hid (idxB_any (fun y => n == y) xs)
 obtain ⟨A, c, rfl⟩ := h.slice
 clear h
 go_enter Tryz.func56, Tryz.ntmps56
 go_wp2_with fail
 refine HI.out.mono ?_
 rintro e w1 ⟨rfl, hb⟩
 have K1 := Lib.hid hb
 clear hb HI
 obtain ⟨b, hbe⟩ : ∃ b, b = xs.any (fun y => n == y) := ⟨_, rfl⟩
 have HB := Lib.hid hbe
 have hd := HA.out
 rw [← hbe] at hd
 clear HA hbe
 generalize idxB (fun y => n == y) xs = q at *
 go_wp2
 go_ret
 exact ⟨by rw [← HB.out]; rfl, K1.out⟩
set_option maxRecDepth 20000 in
theorem containsIf_calls (w : World) (S T : Nat → Prop) (v : Value) (xs : List Int) (fid : Nat) (fr : Array Value) (p : Int → Bool) (eg : Enters Tryz.prog fid)
  (hf : ∀ (W : World) (x : Int), x ∈ xs → Kept w T W → Calls Tryz.prog fid (#[.int .i64 x] ++ fr) W fun e W' => e = .returned (.bool (p x)) ∧ Below W.heap.size W W')
  (h : Row tInt w S v xs) (hlen : xs.length ≤ 1000000) : Calls Tryz.prog 54 #[v, .func (.func fid) #[] fr] w fun e w' => e = .returned (.bool (xs.any (p))) ∧ Below w.heap.size w w' := by
 have HI := Lib.hid (indexIf_calls w S T v xs fid fr p eg hf h hlen)
 have HA := Lib.hid (idxB_any (p) xs)
 obtain ⟨A, c, rfl⟩ := h.slice
 clear h hf eg
 go_enter Tryz.func54, Tryz.ntmps54
 go_wp2_with fail
 refine HI.out.mono ?_
 rintro e w1 ⟨rfl, hb⟩
 have K1 := Lib.hid hb
 clear hb HI
 obtain ⟨b, hbe⟩ : ∃ b, b = xs.any (p) := ⟨_, rfl⟩
 have HB := Lib.hid hbe
 have hd := HA.out
 rw [← hbe] at hd
 clear HA hbe
 generalize idxB (p) xs = q at *
 go_wp2
 go_ret
 exact ⟨by rw [← HB.out]; rfl, K1.out⟩
set_option maxRecDepth 20000 in
theorem containsCf_calls (w : World) (S T : Nat → Prop) (v : Value) (xs : List CallD) (fid : Nat) (fr : Array Value) (p : CallD → Bool) (eg : Enters Tryz.prog fid)
  (hf : ∀ (W : World) (x : CallD) (a1 : Option Addr) (n1 d1 : Nat) (a2 : Option Addr) (n2 d2 : Nat) (a3 : Option Addr) (n3 d3 : Nat), x ∈ xs → Kept w T W → Calls Tryz.prog fid (#[.agg #[.int .i64 x.th, .int .i64 x.op.k, .int .i64 x.op.a, .int .i64 x.op.b, .int .i64 x.op.p, .int .i64 x.op.v, .int .i64 x.frm, .int .i64 x.to, .int .i64 x.res.st, .int .i64 x.res.id, .slice a1 n1 d1, .slice a2 n2 d2, .slice a3 n3 d3]] ++ fr) W fun e W' => e = .returned (.bool (p x)) ∧ Below W.heap.size W W')
  (h : Row tCall w S v xs) (hlen : xs.length ≤ 1000000) : Calls Tryz.prog 57 #[v, .func (.func fid) #[] fr] w fun e w' => e = .returned (.bool (xs.any (p))) ∧ Below w.heap.size w w' := by
 have HI := Lib.hid (indexCf_calls w S T v xs fid fr p eg hf h hlen)
 have HA := Lib.hid (idxB_any (p) xs)
 obtain ⟨A, c, rfl⟩ := h.slice
 clear h hf eg
 go_enter Tryz.func57, Tryz.ntmps57
 go_wp2_with fail
 refine HI.out.mono ?_
 rintro e w1 ⟨rfl, hb⟩
 have K1 := Lib.hid hb
 clear hb HI
 obtain ⟨b, hbe⟩ : ∃ b, b = xs.any (p) := ⟨_, rfl⟩
 have HB := Lib.hid hbe
 have hd := HA.out
 rw [← hbe] at hd
 clear HA hbe
 generalize idxB (p) xs = q at *
 go_wp2
 go_ret
 exact ⟨by rw [← HB.out]; rfl, K1.out⟩
end Go.Proofs.YtpehmmdbjakkpaaGreat
namespace Go.Proofs.YtpehmmdbjakkpaaGreat
open Go.RowKit Go.Shelf
structure SD where
 c : CfgD
 calls : List CallD
 need : Int
structure PathD where
 order : List Int
 g : GraphD
 many : Int
def frmOf (sd : SD) (k : Int) : Int := match sd.calls[k.toNat]? with
 | some c => c.frm
 | none => 0
def toOf (sd : SD) (k : Int) : Int := match sd.calls[k.toNat]? with
 | some c => c.to
 | none => 0
theorem frmOf_at {sd : SD} {k : Nat} {c : CallD} (h : sd.calls[k]? = some c) : frmOf sd (k : Int) = c.frm := by
 unfold frmOf
 rw [Int.toNat_natCast, h]
theorem toOf_at {sd : SD} {k : Nat} {c : CallD} (h : sd.calls[k]? = some c) : toOf sd (k : Int) = c.to := by
 unfold toOf
 rw [Int.toNat_natCast, h]
def blocks (sd : SD) (order : List Int) (x c : CallD) : Bool := beforeB c x && !(order.any fun k => frmOf sd k == c.frm)
def readyB (sd : SD) (order : List Int) (n : Nat) : Bool := match sd.calls[n]? with
 | some x => !(order.any fun y => (n : Int) == y) && !(sd.calls.any (blocks sd order x))
 | none => false
def InR (sd : SD) (order : List Int) : Prop := ∀ k ∈ order, 0 ≤ k ∧ k < (sd.calls.length : Int)
structure SAt (w : World) (S : Nat → Prop) (b : Nat) (sd : SD) : Prop where
 lt : b < w.heap.size
 cf : Box5 w b (.int .i64 sd.c.nodes) (.int .i64 sd.c.edges) (.int .i64 sd.c.props) (.int .i64 sd.c.ids) (.int .i64 sd.c.eids)
 row : ∃ A cc, w.cell? ⟨b, 5, none⟩ = some (.slice A sd.calls.length cc) ∧ Row tCall w S (.slice A sd.calls.length cc) sd.calls
 need : w.cell? ⟨b, 6, none⟩ = some (.int .i64 sd.need)
theorem SAt.below {w w' : World} {S : Nat → Prop} {b : Nat} {sd : SD} (h : SAt w S b sd) (hb : Below w.heap.size w w') : SAt w' S b sd := by
 obtain ⟨A, cc, h1, h2⟩ := h.row
 have e := hb.block b h.lt
 exact ⟨Nat.lt_of_lt_of_le h.lt hb.size, h.cf.keep e, ⟨A, cc, (World.cell?_of_block e).trans h1, h2.below hb⟩, (World.cell?_of_block e).trans h.need⟩
structure B1 (w : World) (b : Nat) (v : Value) : Prop where
 lt : b < w.heap.size
 c : w.cell? ⟨b, 0, none⟩ = some v
theorem B1.below {w w' : World} {b : Nat} {v : Value} (h : B1 w b v) (hb : Below w.heap.size w w') : B1 w' b v := ⟨Nat.lt_of_lt_of_le h.lt hb.size, (World.cell?_of_block (hb.block b h.lt)).trans h.c⟩
set_option maxRecDepth 100000 in
set_option maxHeartbeats 4000000 in
theorem ready2_calls (w : World) (S : Nat → Prop) (sd : SD) (b3 b4 bS : Nat) (k : Int) (f : Int) (hS : SAt w S bS sd) (h3 : B1 w b3 (.pointer (some ⟨bS, 0, none⟩))) (l4 : b4 < w.heap.size) (h4 : w.cell? ⟨b4, 6, none⟩ = some (.int .i64 f)) (hk : 0 ≤ k ∧ k < (sd.calls.length : Int)) :
  Calls Tryz.prog 55 #[.int .i64 k, .pointer (some ⟨b3, 0, none⟩), .pointer (some ⟨b4, 0, none⟩)] w fun e w' => e = .returned (.bool (frmOf sd k == f)) ∧ Below w.heap.size w w' := by
 obtain ⟨n, rfl⟩ : ∃ n : Nat, k = (n : Int) := ⟨k.toNat, (Int.toNat_of_nonneg hk.1).symm⟩
 have hn : n < sd.calls.length := by omega
 obtain ⟨x, hx⟩ := getElem?_of_lt hn
 have HF := Lib.hid (frmOf_at hx)
 have l3 := h3.lt
 have lS := hS.lt
 have c3 := h3.c
 obtain ⟨A, cc, s5, hr⟩ := hS.row
 obtain ⟨b, off, a1, d1, a2, d2, a3, d3, rfl, hbl, _, x0, x1, x2, x3, x4, x5, x6, x7, x8, x9, x10, x11, x12⟩ := hr.atCallF hx
 clear hS h3 hr hx hk
 rw [HF.out]
 go_enter Tryz.func55, Tryz.ntmps55
 go_wp2_with fail
 refine wp_region_schedK (fun _ => True) [(0, true), (1, true), (2, true), (3, true), (4, true), (5, true), (6, true), (7, true), (8, true), (9, true), (10, true), (11, true)] (by kernel_rfl) (by kernel_rfl) (fun hS => ?_)
 have HK := Lib.hid hS
 clear hS
 have KD := Lib.hid (Below.refl w.heap.size w).drew
 revert HK KD
 generalize w.drew = Wd
 intro HK KD
 repeat (refine sched_take (v := ?_) (by simp only [opT, opS, opZ]; rfl) (Or.inl ⟨by rfl, fun W hW => ?_⟩) HK.out ?_; rotate_left; (have hc := fun b o hb => hW.cell b o trivial hb; clear hW; go_simp; with_reducible rfl); simp only [Act.put, putT, putZ, putS])
 refine sched_done ?_
 go_wp2
 go_ret
 exact ⟨rfl, KD.out⟩
theorem ready2_enters : Enters Tryz.prog 55 := enters_of Tryz.func55 (by kernel_rfl) rfl
theorem SAt.same {w w' : World} {S : Nat → Prop} {b : Nat} {sd : SD} (h : SAt w S b sd) (hs : w.heap.size ≤ w'.heap.size) (hk : ∀ j, j < w.heap.size → w'.heap[j]? = w.heap[j]?) : SAt w' S b sd := by
 obtain ⟨A, cc, h1, h2⟩ := h.row
 have e := hk b h.lt
 exact ⟨Nat.lt_of_lt_of_le h.lt hs, h.cf.keep e, ⟨A, cc, (World.cell?_of_block e).trans h1, h2.move fun j _ hl => hk j hl⟩, (World.cell?_of_block e).trans h.need⟩
theorem B1.same {w w' : World} {b : Nat} {v : Value} (h : B1 w b v) (hs : w.heap.size ≤ w'.heap.size) (hk : ∀ j, j < w.heap.size → w'.heap[j]? = w.heap[j]?) : B1 w' b v := ⟨Nat.lt_of_lt_of_le h.lt hs, (World.cell?_of_block (hk b h.lt)).trans h.c⟩
theorem kept_all {w W : World} (h : Kept w (fun _ => True) W) : w.heap.size ≤ W.heap.size ∧ ∀ j, j < w.heap.size → W.heap[j]? = w.heap[j]? := ⟨h.1, fun j hj => h.2 j trivial hj⟩
set_option maxRecDepth 100000 in
set_option maxHeartbeats 8000000 in
theorem ready1_calls (w : World) (S : Nat → Prop) (sd : SD) (b3 b5 bp bS n : Nat) (x : CallD) (order : List Int) (A : Option Addr) (cO : Nat) (c : CallD) (a1 : Option Addr) (n1 d1 : Nat) (a2 : Option Addr) (n2 d2 : Nat) (a3 : Option Addr) (n3 d3 : Nat) (hS : SAt w S bS sd) (h3 : B1 w b3 (.pointer (some ⟨bS, 0, none⟩))) (h5 : B1 w b5 (.int .i64 (n : Int))) (hp : B1 w bp (.slice A order.length cO)) (hro : Row tInt w S (.slice A order.length cO) order) (hx : sd.calls[n]? = some x) (hin : InR sd order) (hlen : order.length ≤ 1000) :
  Calls Tryz.prog 52 #[.agg #[.int .i64 c.th, .int .i64 c.op.k, .int .i64 c.op.a, .int .i64 c.op.b, .int .i64 c.op.p, .int .i64 c.op.v, .int .i64 c.frm, .int .i64 c.to, .int .i64 c.res.st, .int .i64 c.res.id, .slice a1 n1 d1, .slice a2 n2 d2, .slice a3 n3 d3], .pointer (some ⟨b3, 0, none⟩), .pointer (some ⟨b5, 0, none⟩), .pointer (some ⟨bp, 0, none⟩)] w fun e w' => e = .returned (.bool (blocks sd order x c)) ∧ Below w.heap.size w w' := by
 obtain ⟨W0, hW⟩ : ∃ W0, W0 = w.alloc (.cells #[.int .i64 c.th, .int .i64 c.op.k, .int .i64 c.op.a, .int .i64 c.op.b, .int .i64 c.op.p, .int .i64 c.op.v, .int .i64 c.frm, .int .i64 c.to, .int .i64 c.res.st, .int .i64 c.res.id, .slice a1 n1 d1, .slice a2 n2 d2, .slice a3 n3 d3] 70) := ⟨_, rfl⟩
 have hb0 : Below w.heap.size w W0 := by rw [hW]; exact (Below.refl _ w).alloc (Nat.le_refl _) _
 have s0 : w.heap.size < W0.heap.size := by rw [hW]; simp
 have e0 : W0.heap[w.heap.size]? = some (.cells #[.int .i64 c.th, .int .i64 c.op.k, .int .i64 c.op.a, .int .i64 c.op.b, .int .i64 c.op.p, .int .i64 c.op.v, .int .i64 c.frm, .int .i64 c.to, .int .i64 c.res.st, .int .i64 c.res.id, .slice a1 n1 d1, .slice a2 n2 d2, .slice a3 n3 d3] 70 (0, 0)) := by rw [hW]; exact heap_alloc_new w _
 have q : ∀ i v, (#[.int .i64 c.th, .int .i64 c.op.k, .int .i64 c.op.a, .int .i64 c.op.b, .int .i64 c.op.p, .int .i64 c.op.v, .int .i64 c.frm, .int .i64 c.to, .int .i64 c.res.st, .int .i64 c.res.id, .slice a1 n1 d1, .slice a2 n2 d2, .slice a3 n3 d3] : Array Value)[i]? = some v → W0.cell? ⟨w.heap.size, i, none⟩ = some v := fun i v h => by simp only [World.cell?, e0]; exact h
 have m0 := q 0 _ rfl
 have m1 := q 1 _ rfl
 have m2 := q 2 _ rfl
 have m3 := q 3 _ rfl
 have m4 := q 4 _ rfl
 have m5 := q 5 _ rfl
 have m6 := q 6 _ rfl
 have m7 := q 7 _ rfl
 have m8 := q 8 _ rfl
 have m9 := q 9 _ rfl
 have m10 := q 10 _ rfl
 have m11 := q 11 _ rfl
 have m12 := q 12 _ rfl
 have HS := Lib.hid (hS.below hb0)
 have H3 := Lib.hid (h3.below hb0)
 have H5 := Lib.hid (h5.below hb0)
 have HP := Lib.hid (hp.below hb0)
 have HR := Lib.hid (hro.below hb0)
 have HIN := Lib.hid hin
 have K0 := Lib.hid hb0
 obtain ⟨Ac, cc, s5, hr⟩ := HS.out.row
 obtain ⟨b, off, f1, g1, f2, g2, f3, g3, rfl, hbl, _, x0, x1, x2, x3, x4, x5, x6, x7, x8, x9, x10, x11, x12⟩ := hr.atCallF hx
 have l3 := H3.out.lt
 have l5 := H5.out.lt
 have lp := HP.out.lt
 have lS := HS.out.lt
 have c3 := H3.out.c
 have c5 := H5.out.c
 have cp := HP.out.c
 have hn : n < sd.calls.length := (List.getElem?_eq_some_iff.1 hx).1
 have HBL := Lib.hid (show blocks sd order x c = (beforeB c x && !(order.any fun k => frmOf sd k == c.frm)) from rfl)
 clear hS h3 h5 hp hro hin hr hx hb0 q e0
 rw [HBL.out]
 clear HBL
 go_enter Tryz.func52, Tryz.ntmps52
 go_wp2_with fail
 rw [← hW]
 clear hW
 refine wp_region_schedK (fun _ => True) [(0, true), (1, true), (2, true), (3, true), (4, true), (5, true), (6, true), (7, true), (8, false), (9, true), (10, true), (11, true), (12, true), (13, false), (14, true), (15, true), (16, true)] (by kernel_rfl) (by kernel_rfl) (fun hS => ?_)
 have HK := Lib.hid hS
 clear hS
 have KD := Lib.hid (Below.refl W0.heap.size W0).drew
 revert HK KD
 generalize W0.drew = Wd
 intro HK KD
 repeat (refine sched_take (v := ?_) (by simp only [opT, opS, opZ]; rfl) (Or.inl ⟨by rfl, fun W hW => ?_⟩) HK.out ?_; rotate_left; (have hc := fun b o hb => hW.cell b o trivial hb; clear hW; go_simp; with_reducible rfl); simp only [Act.put, putT, putZ, putS])
 refine sched_step (by simp only [opT, opS, opZ]; rfl) ?_
 go_wp2_with fail
 refine (before_calls Wd c x _ _ _ _ _ _).mono ?_
 rintro e w1 ⟨rfl, hb⟩
 have HK1 := Lib.hid (HK.out.below hb)
 have KD1 := Lib.hid (KD.out.trans (hb.mono KD.out.size))
 clear hb
 obtain ⟨bf, hbf⟩ : ∃ bf, bf = beforeB c x := ⟨_, rfl⟩
 rw [← hbf]
 have HBF := Lib.hid hbf
 clear hbf
 cases bf
 case false =>
  go_wp2_with fail
  refine sched_on HK1.out ?_
  repeat (first | (refine sched_take (v := ?_) (by simp only [opT, opS, opZ]; rfl) (Or.inl ⟨by rfl, fun W hW => ?_⟩) HK1.out ?_; rotate_left; (have hc := fun b o hb => hW.cell b o trivial hb; clear hW; go_simp; with_reducible rfl); simp only [Act.put, putT, putZ, putS]) | (refine sched_take (by simp only [opT, opS, opZ]; rfl) (Or.inr ⟨by rfl, rfl⟩) HK1.out ?_; simp only [Act.put, putT, putZ, putS]))
  refine sched_step (by simp only [opT, opS, opZ]; rfl) ?_
  go_wp2_with fail
  refine sched_on HK1.out ?_
  repeat (first | (refine sched_take (v := ?_) (by simp only [opT, opS, opZ]; rfl) (Or.inl ⟨by rfl, fun W hW => ?_⟩) HK1.out ?_; rotate_left; (have hc := fun b o hb => hW.cell b o trivial hb; clear hW; go_simp; with_reducible rfl); simp only [Act.put, putT, putZ, putS]) | (refine sched_take (by simp only [opT, opS, opZ]; rfl) (Or.inr ⟨by rfl, rfl⟩) HK1.out ?_; simp only [Act.put, putT, putZ, putS]))
  refine sched_done ?_
  have KE := Lib.hid (K0.out.trans (KD1.out.mono K0.out.size))
  go_wp2
  go_ret
  exact ⟨by rw [← HBF.out]; rfl, KE.out⟩
 go_wp2_with fail
 refine sched_on HK1.out ?_
 repeat (refine sched_take (v := ?_) (by simp only [opT, opS, opZ]; rfl) (Or.inl ⟨by rfl, fun W hW => ?_⟩) HK1.out ?_; rotate_left; (have hc := fun b o hb => hW.cell b o trivial hb; clear hW; go_simp; with_reducible rfl); simp only [Act.put, putT, putZ, putS])
 refine sched_step (by simp only [opT, opS, opZ]; rfl) ?_
 go_wp2_with fail
 have m6' := KD1.out.cell (p := ⟨w.heap.size, 6, none⟩) s0
 refine (containsIf_calls w1 S (fun _ => True) _ order _ _ (fun k => frmOf sd k == c.frm) ready2_enters (fun W k hk hkp => ?_) (HR.out.below KD1.out) (by omega)).mono ?_
 ·
  obtain ⟨z1, z2⟩ := kept_all hkp
  exact ready2_calls W S sd b3 w.heap.size bS k c.frm ((HS.out.below KD1.out).same z1 z2) ((H3.out.below KD1.out).same z1 z2) (Nat.lt_of_lt_of_le s0 (Nat.le_trans KD1.out.size z1)) ((World.cell?_of_block (z2 _ (Nat.lt_of_lt_of_le s0 KD1.out.size))).trans (m6'.trans m6)) (HIN.out k hk)
 rintro e w2 ⟨rfl, hb⟩
 obtain ⟨bo, hbo⟩ : ∃ bo, bo = order.any fun k => frmOf sd k == c.frm := ⟨_, rfl⟩
 rw [← hbo]
 have HBO := Lib.hid hbo
 clear hbo
 have HK2 := Lib.hid (HK1.out.below hb)
 have KD2 := Lib.hid (KD1.out.trans (hb.mono KD1.out.size))
 clear hb
 go_wp2_with fail
 refine sched_on HK2.out ?_
 repeat (refine sched_take (v := ?_) (by simp only [opT, opS, opZ]; rfl) (Or.inl ⟨by rfl, fun W hW => ?_⟩) HK2.out ?_; rotate_left; (have hc := fun b o hb => hW.cell b o trivial hb; clear hW; go_simp; with_reducible rfl); simp only [Act.put, putT, putZ, putS])
 refine sched_done ?_
 have KE := Lib.hid (K0.out.trans (KD2.out.mono K0.out.size))
 clear HK HK1 HK2
 go_wp2
 go_ret
 exact ⟨by rw [← HBF.out, ← HBO.out]; simp, KE.out⟩
theorem ready1_enters : Enters Tryz.prog 52 := enters_of Tryz.func52 (by kernel_rfl) rfl
end Go.Proofs.YtpehmmdbjakkpaaGreat
namespace Go.Proofs.YtpehmmdbjakkpaaGreat
open Go.RowKit Go.Shelf
def PathIn (w : World) (S : Nat → Prop) (p : PathD) (v : Value) : Prop := ∃ A c A1 n1 k1 A2 n2 k2, v = .agg #[.slice A p.order.length c, .slice A1 n1 k1, .slice A2 n2 k2, .int .i64 p.g.nn, .int .i64 p.g.ne, .int .i64 p.many] ∧ Row tInt w S (.slice A p.order.length c) p.order ∧ Gr w S p.g (.slice A1 n1 k1) (.slice A2 n2 k2)
theorem PathIn.below {w w' : World} {S : Nat → Prop} {p : PathD} {v : Value} (h : PathIn w S p v) (hb : Below w.heap.size w w') : PathIn w' S p v := by
 obtain ⟨A, c, A1, n1, k1, A2, n2, k2, e, h1, h2⟩ := h
 exact ⟨A, c, A1, n1, k1, A2, n2, k2, e, h1.below hb, h2.below hb⟩
theorem PathIn.mono {w : World} {S S' : Nat → Prop} {p : PathD} {v : Value} (h : PathIn w S p v) (hs : ∀ k, S k → k < w.heap.size → S' k) : PathIn w S' p v := by
 obtain ⟨A, c, A1, n1, k1, A2, n2, k2, e, h1, h2⟩ := h
 exact ⟨A, c, A1, n1, k1, A2, n2, k2, e, h1.mono hs, h2.mono hs⟩
theorem PathIn.move {w w' : World} {S : Nat → Prop} {p : PathD} {v : Value} (h : PathIn w S p v) (hs : Same S w w') : PathIn w' S p v := by
 obtain ⟨A, c, A1, n1, k1, A2, n2, k2, e, h1, h2⟩ := h
 exact ⟨A, c, A1, n1, k1, A2, n2, k2, e, h1.move hs, h2.move hs⟩
structure Box6 (W : World) (b : Nat) (v0 v1 v2 v3 v4 v5 : Value) : Prop where
 lt : b < W.heap.size
 c0 : W.cell? ⟨b, 0, none⟩ = some v0
 c1 : W.cell? ⟨b, 1, none⟩ = some v1
 c2 : W.cell? ⟨b, 2, none⟩ = some v2
 c3 : W.cell? ⟨b, 3, none⟩ = some v3
 c4 : W.cell? ⟨b, 4, none⟩ = some v4
 c5 : W.cell? ⟨b, 5, none⟩ = some v5
 fz : ∀ o, W.frozen? ⟨b, o, none⟩ = false
theorem Box6.same {W W' : World} {b : Nat} {v0 v1 v2 v3 v4 v5 : Value} (h : Box6 W b v0 v1 v2 v3 v4 v5) (hs : W.heap.size ≤ W'.heap.size) (hb : W'.heap[b]? = W.heap[b]?) : Box6 W' b v0 v1 v2 v3 v4 v5 :=
 ⟨Nat.lt_of_lt_of_le h.lt hs, (World.cell?_of_block hb).trans h.c0, (World.cell?_of_block hb).trans h.c1, (World.cell?_of_block hb).trans h.c2, (World.cell?_of_block hb).trans h.c3, (World.cell?_of_block hb).trans h.c4, (World.cell?_of_block hb).trans h.c5, fun o => (World.frozen?_of_block hb).trans (h.fz o)⟩
theorem Box6.below {W W' : World} {b : Nat} {v0 v1 v2 v3 v4 v5 : Value} (h : Box6 W b v0 v1 v2 v3 v4 v5) (hb : Below W.heap.size W W') : Box6 W' b v0 v1 v2 v3 v4 v5 := h.same hb.size (hb.block _ h.lt)
theorem Box6.of {W : World} {b : Nat} {v0 v1 v2 v3 v4 v5 : Value} {n : TypeId} (h : W.heap[b]? = some (.cells #[v0, v1, v2, v3, v4, v5] n (0, 0))) : Box6 W b v0 v1 v2 v3 v4 v5 :=
 ⟨(Array.getElem?_eq_some_iff.1 h).1, by simp [World.cell?, h], by simp [World.cell?, h], by simp [World.cell?, h], by simp [World.cell?, h], by simp [World.cell?, h], by simp [World.cell?, h], fun o => by simp [World.frozen?, h]⟩
set_option maxRecDepth 100000 in
set_option maxHeartbeats 8000000 in
theorem ready_calls (w : World) (S : Nat → Prop) (sd : SD) (bS n : Nat) (order : List Int) (A : Option Addr) (cO : Nat) (A1 : Option Addr) (n1 k1 : Nat) (A2 : Option Addr) (n2 k2 : Nat) (gn ge many : Int) (hS : SAt w S bS sd) (hro : Row tInt w S (.slice A order.length cO) order) (hn : n < sd.calls.length) (hin : InR sd order) (hlen : order.length ≤ 1000) (hcl : sd.calls.length ≤ 1000) :
  Calls Tryz.prog 35 #[.pointer (some ⟨bS, 0, none⟩), .agg #[.slice A order.length cO, .slice A1 n1 k1, .slice A2 n2 k2, .int .i64 gn, .int .i64 ge, .int .i64 many], .int .i64 (n : Int)] w fun e w' => e = .returned (.bool (readyB sd order n)) ∧ Below w.heap.size w w' := by
 obtain ⟨x, hx⟩ := getElem?_of_lt hn
 have HRB := Lib.hid (show readyB sd order n = (!(order.any fun y => (n : Int) == y) && !(sd.calls.any (blocks sd order x))) from by unfold readyB; rw [hx])
 obtain ⟨W0, hW⟩ : ∃ W0, W0 = ((w.alloc (.cells #[.pointer (some ⟨bS, 0, none⟩)] 54)).alloc (.cells #[.slice A order.length cO, .slice A1 n1 k1, .slice A2 n2 k2, .int .i64 gn, .int .i64 ge, .int .i64 many] 59)).alloc (.cells #[.int .i64 (n : Int)] 3) := ⟨_, rfl⟩
 have hb0 : Below w.heap.size w W0 := by rw [hW]; exact (by repeat (first | exact Below.refl _ _ | refine Below.alloc ?_ (by simp; try omega) _))
 have s0 : W0.heap.size = w.heap.size + 3 := by rw [hW]; simp
 have H3 := Lib.hid (show B1 W0 w.heap.size (.pointer (some ⟨bS, 0, none⟩)) from ⟨by omega, by rw [hW]; simp [go_sem]⟩)
 have H4 := Lib.hid (show Box6 W0 (w.heap.size + 1) _ _ _ _ _ _ from Box6.of (n := 59) (by
  rw [hW]
  have := heap_alloc_new (w.alloc (.cells #[.pointer (some ⟨bS, 0, none⟩)] 54)) (.cells #[.slice A order.length cO, .slice A1 n1 k1, .slice A2 n2 k2, .int .i64 gn, .int .i64 ge, .int .i64 many] 59)
  rw [World.size_alloc] at this
  exact (Below.heap_alloc _ _ _ (by simp)).trans this))
 have H5 := Lib.hid (show B1 W0 (w.heap.size + 1 + 1) (.int .i64 (n : Int)) from ⟨by omega, by rw [hW]; simp [go_sem]⟩)
 have HS := Lib.hid (hS.below hb0)
 have HR := Lib.hid (hro.below hb0)
 have HIN := Lib.hid hin
 have HX := Lib.hid hx
 have K0 := Lib.hid hb0
 have S0 := Lib.hid s0
 clear hS hro hin hx hb0 s0
 rw [HRB.out]
 go_enter Tryz.func35, Tryz.ntmps35
 go_wp2_with fail
 rw [← hW]
 clear hW
 refine (containsI_calls W0 S _ order n HR.out (by omega)).mono ?_
 rintro e w1 ⟨rfl, hb⟩
 obtain ⟨bo, hbo⟩ : ∃ bo, bo = order.any fun y => (n : Int) == y := ⟨_, rfl⟩
 rw [← hbo]
 have HBO := Lib.hid hbo
 have K1 := Lib.hid (K0.out.trans (hb.mono K0.out.size))
 have S1 := Lib.hid (HS.out.below hb)
 have T3 := Lib.hid (H3.out.below hb)
 have T4 := Lib.hid (H4.out.below hb)
 have T5 := Lib.hid (H5.out.below hb)
 have R1 := Lib.hid (HR.out.below hb)
 clear hb hbo HS H3 H4 H5 HR
 cases bo
 case true =>
  go_wp2
  go_ret
  exact ⟨by rw [← HBO.out]; rfl, K1.out⟩
 have l3 := T3.out.lt
 have c3 := T3.out.c
 have lS := S1.out.lt
 obtain ⟨Ac, cc, s5, hr⟩ := S1.out.row
 have HRC := Lib.hid hr
 clear hr
 go_wp2_with fail
 refine (containsCf_calls w1 S (fun _ => True) _ sd.calls _ _ (blocks sd order x) ready1_enters (fun W c a1 m1 d1 a2 m2 d2 a3 m3 d3 _ hkp => ?_) HRC.out (by omega)).mono ?_
 ·
  obtain ⟨z1, z2⟩ := kept_all hkp
  exact ready1_calls W S sd w.heap.size (w.heap.size + 1 + 1) (w.heap.size + 1) bS n x order A cO c a1 m1 d1 a2 m2 d2 a3 m3 d3 (S1.out.same z1 z2) (T3.out.same z1 z2) (T5.out.same z1 z2) ⟨Nat.lt_of_lt_of_le T4.out.lt z1, (World.cell?_of_block (z2 _ T4.out.lt)).trans T4.out.c0⟩ (R1.out.move fun j _ hl => z2 j hl) HX.out HIN.out hlen
 rintro e w2 ⟨rfl, hb⟩
 obtain ⟨bq, hbq⟩ : ∃ bq, bq = sd.calls.any (blocks sd order x) := ⟨_, rfl⟩
 rw [← hbq]
 have HBQ := Lib.hid hbq
 have K2 := Lib.hid (K1.out.trans (hb.mono K1.out.size))
 clear hb hbq s5 l3 c3 lS
 go_wp2
 go_ret
 exact ⟨by rw [← HBO.out, ← HBQ.out]; simp, K2.out⟩
def wholeB (sd : SD) (order : List Int) (many : Int) : Bool := many == sd.need && (match order.getLast? with
 | some k => decide (0 ≤ toOf sd k)
 | none => true)
set_option maxRecDepth 100000 in
set_option maxHeartbeats 8000000 in
theorem whole_calls (w : World) (S : Nat → Prop) (sd : SD) (bS : Nat) (order : List Int) (A : Option Addr) (cO : Nat) (A1 : Option Addr) (n1 k1 : Nat) (A2 : Option Addr) (n2 k2 : Nat) (gn ge many : Int) (hS : SAt w S bS sd) (hro : Row tInt w S (.slice A order.length cO) order) (hin : InR sd order) (hlen : order.length ≤ 1000) :
  Calls Tryz.prog 21 #[.pointer (some ⟨bS, 0, none⟩), .agg #[.slice A order.length cO, .slice A1 n1 k1, .slice A2 n2 k2, .int .i64 gn, .int .i64 ge, .int .i64 many]] w fun e w' => e = .returned (.bool (wholeB sd order many)) ∧ Below w.heap.size w w' := by
 obtain ⟨L, hL⟩ : ∃ L, L = order.length := ⟨_, rfl⟩
 rw [← hL] at hro hlen ⊢
 obtain ⟨W0, hW⟩ : ∃ W0, W0 = w.alloc (.cells #[.slice A L cO, .slice A1 n1 k1, .slice A2 n2 k2, .int .i64 gn, .int .i64 ge, .int .i64 many] 59) := ⟨_, rfl⟩
 have hb0 : Below w.heap.size w W0 := by rw [hW]; exact (Below.refl _ w).alloc (Nat.le_refl _) _
 have H4 := Lib.hid (show Box6 W0 w.heap.size _ _ _ _ _ _ from Box6.of (n := 59) (by rw [hW]; exact heap_alloc_new w _))
 have HS := Lib.hid (hS.below hb0)
 have HR := Lib.hid (hro.below hb0)
 have K0 := Lib.hid hb0
 have lp := H4.out.lt
 have lS := HS.out.lt
 have nS := HS.out.need
 obtain ⟨Ac, cc, s5, hr⟩ := HS.out.row
 have HRC := Lib.hid hr
 obtain ⟨p0, p1, p2, p3, p4, p5⟩ : _ ∧ _ ∧ _ ∧ _ ∧ _ ∧ _ := ⟨H4.out.c0, H4.out.c1, H4.out.c2, H4.out.c3, H4.out.c4, H4.out.c5⟩
 have HLL := Lib.hid hL
 clear hS hro hb0 hr hL
 by_cases he : many = sd.need
 case neg =>
  have HW := Lib.hid (show wholeB sd order many = false from by unfold wholeB; simp [he])
  have e1 : (many == sd.need) = false := by simpa using he
  clear he
  rw [HW.out]
  go_enter Tryz.func21, Tryz.ntmps21
  go_wp2_with fail
  rw [← hW]
  clear hW
  refine wp_region_schedK (fun _ => True) [(0, true), (1, true), (2, true), (3, true), (4, true), (5, true), (6, true), (7, true), (8, true), (9, true), (10, true), (11, true), (12, true), (13, true), (14, true), (15, true), (16, true), (17, true), (18, true), (19, true), (20, true), (21, true), (22, true), (23, true), (24, true), (25, true), (26, true)] (by kernel_rfl) (by kernel_rfl) (fun hS => ?_)
  have HK := Lib.hid hS
  clear hS
  have KD := Lib.hid (Below.refl W0.heap.size W0).drew
  revert HK KD
  generalize W0.drew = Wd
  intro HK KD
  repeat (first | (refine sched_take (v := ?_) (by simp only [opT, opS, opZ]; rfl) (Or.inl ⟨by rfl, fun W hW => ?_⟩) HK.out ?_; rotate_left; (have hc := fun b o hb => hW.cell b o trivial hb; clear hW; go_simp; with_reducible rfl); simp only [Act.put, putT, putZ, putS]) | (refine sched_take (by simp only [opT, opS, opZ]; rfl) (Or.inr ⟨by rfl, rfl⟩) HK.out ?_; simp only [Act.put, putT, putZ, putS]))
  refine sched_done ?_
  have KE := Lib.hid (K0.out.trans (KD.out.mono K0.out.size))
  clear HK
  go_wp2
  go_ret
  exact ⟨rfl, KE.out⟩
 have e1 : (many == sd.need) = true := by simpa using he
 cases L with
 | zero =>
  have hnil : order = [] := List.eq_nil_of_length_eq_zero HLL.out.symm
  have HW := Lib.hid (show wholeB sd order many = true from by unfold wholeB; simp [he, hnil])
  clear he hnil
  rw [HW.out]
  go_enter Tryz.func21, Tryz.ntmps21
  go_wp2_with fail
  rw [← hW]
  clear hW
  refine wp_region_schedK (fun _ => True) [(0, true), (1, true), (2, true), (3, true), (4, true), (5, true), (6, true), (7, true), (8, true), (9, true), (10, true), (11, true), (12, true), (13, true), (14, true), (15, true), (16, true), (17, true), (18, true), (19, true), (20, true), (21, true), (22, true), (23, true), (24, true), (25, true), (26, true)] (by kernel_rfl) (by kernel_rfl) (fun hS => ?_)
  have HK := Lib.hid hS
  clear hS
  have KD := Lib.hid (Below.refl W0.heap.size W0).drew
  revert HK KD
  generalize W0.drew = Wd
  intro HK KD
  repeat (first | (refine sched_take (v := ?_) (by simp only [opT, opS, opZ]; rfl) (Or.inl ⟨by rfl, fun W hW => ?_⟩) HK.out ?_; rotate_left; (have hc := fun b o hb => hW.cell b o trivial hb; clear hW; go_simp; with_reducible rfl); simp only [Act.put, putT, putZ, putS]) | (refine sched_take (by simp only [opT, opS, opZ]; rfl) (Or.inr ⟨by rfl, rfl⟩) HK.out ?_; simp only [Act.put, putT, putZ, putS]))
  refine sched_done ?_
  have KE := Lib.hid (K0.out.trans (KD.out.mono K0.out.size))
  clear HK
  go_wp2
  go_ret
  exact ⟨rfl, KE.out⟩
 | succ m =>
  obtain ⟨k, hk⟩ := getElem?_of_lt (show m < order.length by have := HLL.out; omega)
  have hkr := hin k (List.mem_of_getElem? hk)
  obtain ⟨kn, rfl⟩ : ∃ kn : Nat, k = (kn : Int) := ⟨k.toNat, (Int.toNat_of_nonneg hkr.1).symm⟩
  obtain ⟨x, hx⟩ := getElem?_of_lt (show kn < sd.calls.length by omega)
  have HW := Lib.hid (show wholeB sd order many = decide (0 ≤ x.to) from by
   unfold wholeB
   rw [List.getLast?_eq_getElem?, show order.length - 1 = m by have := HLL.out; omega, hk, he]
   simp [toOf_at hx])
  obtain ⟨bo, oo, rfl, _, hbo, y0⟩ := HR.out.atInt hk
  obtain ⟨b, off, f1, g1, f2, g2, f3, g3, rfl, hbl, _, x0, x1, x2, x3, x4, x5, x6, x7, x8, x9, x10, x11, x12⟩ := HRC.out.atCallF hx
  have hkn : kn < sd.calls.length := by omega
  have hmi : ((m : Int) < (m : Int) + 1) := by omega
  clear he hk hkr hx hin HLL
  rw [HW.out]
  go_enter Tryz.func21, Tryz.ntmps21
  go_wp2_with fail
  rw [← hW]
  clear hW
  refine wp_region_schedK (fun _ => True) [(0, true), (1, true), (2, true), (3, true), (4, true), (5, true), (6, true), (7, true), (8, true), (9, true), (10, true), (11, true), (12, true), (13, true), (14, true), (15, true), (16, true), (17, true), (18, true), (19, true), (20, true), (21, true), (22, true), (23, true), (24, true), (25, true), (26, true)] (by kernel_rfl) (by kernel_rfl) (fun hS => ?_)
  have HK := Lib.hid hS
  clear hS
  have KD := Lib.hid (Below.refl W0.heap.size W0).drew
  revert HK KD
  generalize W0.drew = Wd
  intro HK KD
  repeat (first | (refine sched_take (v := ?_) (by simp only [opT, opS, opZ]; rfl) (Or.inl ⟨by rfl, fun W hW => ?_⟩) HK.out ?_; rotate_left; (have hc := fun b o hb => hW.cell b o trivial hb; clear hW; go_simp; with_reducible rfl); simp only [Act.put, putT, putZ, putS]) | (refine sched_take (by simp only [opT, opS, opZ]; rfl) (Or.inr ⟨by rfl, rfl⟩) HK.out ?_; simp only [Act.put, putT, putZ, putS]))
  refine sched_done ?_
  have KE := Lib.hid (K0.out.trans (KD.out.mono K0.out.size))
  clear HK
  go_wp2
  go_ret
  exact ⟨rfl, KE.out⟩
end Go.Proofs.YtpehmmdbjakkpaaGreat
namespace Go.Proofs.YtpehmmdbjakkpaaGreat
open Go.RowKit Go.Shelf
def PathD.zero : PathD := ⟨[], GraphD.zero, 0⟩
def fitsF (c : CfgD) (g : GraphD) (o : OpD) (r : ResD) : GraphD × Bool := if (doOf c g o).2 = r then ((doOf c g o).1, true) else (g, decide (r = ResD.full ∧ ¬ takesOf c g o = 0))
theorem fitsF_is (c : CfgD) (g : GraphD) (o : OpD) (r : ResD) : FitsD c g o r (fitsF c g o r).1 (fitsF c g o r).2 := by
 unfold fitsF
 by_cases h : (doOf c g o).2 = r
 ·
  rw [if_pos h]; exact .inl ⟨h, rfl, rfl⟩
 ·
  rw [if_neg h]; exact .inr ⟨h, rfl, by simp⟩
def nextF (sd : SD) (p : PathD) (n : Int) : PathD × Bool :=
 if n < 0 then (PathD.zero, false) else match sd.calls[n.toNat]? with
 | none => (PathD.zero, false)
 | some x => if readyB sd p.order n.toNat = false then (PathD.zero, false) else
  if x.to < 0 then (⟨p.order ++ [n], (doOf sd.c p.g x.op).1, p.many⟩, true)
  else (⟨p.order ++ [n], (fitsF sd.c p.g x.op x.res).1, p.many + 1⟩, (fitsF sd.c p.g x.op x.res).2)
def NextPost (w : World) (r : PathD × Bool) (e : Ending) (w' : World) : Prop := ∃ v, e = .returned (.tuple #[v, .bool r.2]) ∧ PathIn w' (fun k => w.heap.size ≤ k) r.1 v ∧ Below w.heap.size w w'
theorem next_bad {w W : World} (h : Below w.heap.size w W) : NextPost w (PathD.zero, false) (.returned (.tuple #[.agg #[.slice none 0 0, .slice none 0 0, .slice none 0 0, .int .i64 0, .int .i64 0, .int .i64 0], .bool false])) W :=
 ⟨_, rfl, ⟨none, 0, none, 0, 0, none, 0, 0, rfl, Row.nil _ _ _, Gr.zero _ _ _ _⟩, h⟩
def set6 (W : World) (b : Nat) (u0 u1 u2 u3 u4 u5 : Value) : World := (((((W.setCell ⟨b, 0, none⟩ u0).setCell ⟨b, 1, none⟩ u1).setCell ⟨b, 2, none⟩ u2).setCell ⟨b, 3, none⟩ u3).setCell ⟨b, 4, none⟩ u4).setCell ⟨b, 5, none⟩ u5
theorem set6_heap (W : World) (b : Nat) (u0 u1 u2 u3 u4 u5 : Value) (k : Nat) (hk : k ≠ b) : (set6 W b u0 u1 u2 u3 u4 u5).heap[k]? = W.heap[k]? := by
 unfold set6
 rw [Below.heap_setCell _ ⟨b, 5, none⟩ _ k hk, Below.heap_setCell _ ⟨b, 4, none⟩ _ k hk, Below.heap_setCell _ ⟨b, 3, none⟩ _ k hk, Below.heap_setCell _ ⟨b, 2, none⟩ _ k hk, Below.heap_setCell _ ⟨b, 1, none⟩ _ k hk, Below.heap_setCell _ ⟨b, 0, none⟩ _ k hk]
theorem set6_size (W : World) (b : Nat) (u0 u1 u2 u3 u4 u5 : Value) : (set6 W b u0 u1 u2 u3 u4 u5).heap.size = W.heap.size := by simp [set6]
theorem set6_below {B : Nat} {w0 W : World} {b : Nat} (h : Below B w0 W) (hb : B ≤ b) (u0 u1 u2 u3 u4 u5 : Value) : Below B w0 (set6 W b u0 u1 u2 u3 u4 u5) := (((((h.setCell hb u0).setCell hb u1).setCell hb u2).setCell hb u3).setCell hb u4).setCell hb u5
structure NX (w : World) (p : PathD) (A : Option Addr) (cO : Nat) (v1 v2 v3 v4 v5 : Value) (X : Nat) (g : GraphD) (vn ve : Value) (M : Nat) (W : World) : Prop where
 K : Below w.heap.size w W
 b4 : Box6 W w.heap.size (.slice A p.order.length cO) v1 v2 v3 v4 v5
 b6 : Box6 W (w.heap.size + 1) (.slice none 0 0) (.slice none 0 0) (.slice none 0 0) (.int .i64 0) (.int .i64 0) (.int .i64 0)
 ro : Row tInt W (fun k => k < w.heap.size) (.slice A p.order.length cO) p.order
 lx : w.heap.size + 2 ≤ X
 lt : X < M
 lm : M ≤ W.heap.size
 bx : Box4 W X vn ve (.int .i64 g.nn) (.int .i64 g.ne)
 gr : Gr W (fun k => w.heap.size + 2 ≤ k ∧ k < M) g vn ve
theorem NX.below {w : World} {p : PathD} {A : Option Addr} {cO : Nat} {v1 v2 v3 v4 v5 : Value} {X : Nat} {g : GraphD} {vn ve : Value} {M : Nat} {W W' : World} (h : NX w p A cO v1 v2 v3 v4 v5 X g vn ve M W) (hb : Below W.heap.size W W') : NX w p A cO v1 v2 v3 v4 v5 X g vn ve M W' :=
 ⟨h.K.trans (hb.mono h.K.size), h.b4.below hb, h.b6.below hb, h.ro.below hb, h.lx, h.lt, Nat.le_trans h.lm hb.size, h.bx.keep (hb.block _ (Nat.lt_of_lt_of_le h.lt h.lm)), h.gr.below hb⟩
theorem NX.grown {w : World} {p : PathD} {A : Option Addr} {cO : Nat} {v1 v2 v3 v4 v5 : Value} {X : Nat} {g : GraphD} {vn ve : Value} {M : Nat} {W W' : World} {row : Option Nat} (h : NX w p A cO v1 v2 v3 v4 v5 X g vn ve M W) (hg : W.grownBy W' row) (hr : ∀ k, row = some k → M ≤ k) : NX w p A cO v1 v2 v3 v4 v5 X g vn ve M W' := by
 have l1 := h.lx
 have l2 := h.lt
 have l3 := h.lm
 have hb : Below w.heap.size w W' := below_of_grown h.K hg fun k hk => by have := hr k hk; omega
 have hs : ∀ j, j < M → W'.heap[j]? = W.heap[j]? := fun j hj => Same.of_grown (S := fun k => k < M) hg (fun k hk e => by have := hr k e.symm; (try simp only at hk); omega) j hj (by omega)
 have hz : W.heap.size ≤ W'.heap.size := by obtain ⟨_, _, _, hz, _⟩ := hg; exact hz
 exact ⟨hb, h.b4.same hz (hs _ (by omega)), h.b6.same hz (hs _ (by omega)), h.ro.move fun j hj _ => hs j (by (try simp only at hj); omega), l1, l2, by omega, h.bx.keep (hs _ (by omega)), h.gr.move fun j hj _ => hs j (by (try simp only at hj); omega)⟩
theorem NX.set {w : World} {p : PathD} {A : Option Addr} {cO : Nat} {v1 v2 v3 v4 v5 : Value} {X : Nat} {g g' : GraphD} {vn ve un ue : Value} {M : Nat} {W : World} (h : NX w p A cO v1 v2 v3 v4 v5 X g vn ve M W) (hg : Gr W (fun k => X < k) g' un ue) : NX w p A cO v1 v2 v3 v4 v5 X g' un ue W.heap.size (set4 W X un ue (.int .i64 g'.nn) (.int .i64 g'.ne)) := by
 have l1 := h.lx
 have l2 := h.lt
 have l3 := h.lm
 have hs : ∀ j, j ≠ X → (set4 W X un ue (.int .i64 g'.nn) (.int .i64 g'.ne)).heap[j]? = W.heap[j]? := fun j hj => set4_heap _ _ _ _ _ _ _ hj
 have hz : (set4 W X un ue (.int .i64 g'.nn) (.int .i64 g'.ne)).heap.size = W.heap.size := set4_size _ _ _ _ _ _
 exact ⟨set4_below h.K (by omega) _ _ _ _, h.b4.same (by omega) (hs _ (by omega)), h.b6.same (by omega) (hs _ (by omega)), h.ro.move fun j hj _ => hs j (by (try simp only at hj); omega), l1, by omega, by omega, h.bx.set _ _ _ _, (hg.move fun j hj _ => hs j (by (try simp only at hj); omega)).mono fun k hk h2 => by (try simp only at hk h2 ⊢); omega⟩
theorem NX.done {w : World} {p : PathD} {A : Option Addr} {cO : Nat} {v1 v2 v3 v4 v5 : Value} {X : Nat} {g : GraphD} {A3 : Option Addr} {L3 c3 : Nat} {A4 : Option Addr} {L4 c4 : Nat} {M : Nat} {W : World} {B5 : Option Addr} {c5 : Nat} {k m : Int} (h : NX w p A cO v1 v2 v3 v4 v5 X g (.slice A3 L3 c3) (.slice A4 L4 c4) M W) (ho : Own tInt 3 W (fun j => w.heap.size + 2 ≤ j) (.slice B5 (p.order.length + 1) c5) (p.order ++ [k])) (ok : Bool) :
  NextPost w (⟨p.order ++ [k], g, m⟩, ok) (.returned (.tuple #[.agg #[.slice B5 (p.order.length + 1) c5, .slice A3 L3 c3, .slice A4 L4 c4, .int .i64 g.nn, .int .i64 g.ne, .int .i64 m], .bool ok])) (set6 W (w.heap.size + 1) (.slice B5 (p.order.length + 1) c5) (.slice A3 L3 c3) (.slice A4 L4 c4) (.int .i64 g.nn) (.int .i64 g.ne) (.int .i64 m)) := by
 have hl : p.order.length + 1 = (p.order ++ [k]).length := by simp
 rw [hl] at ho ⊢
 refine ⟨_, rfl, ⟨B5, c5, A3, L3, c3, A4, L4, c4, rfl, ?_, ?_⟩, set6_below h.K (by omega) _ _ _ _ _ _⟩
 ·
  exact (ho.row.move fun j hj _ => set6_heap _ _ _ _ _ _ _ _ _ (by (try simp only at hj); omega)).mono fun j hj _ => by (try simp only at hj ⊢); omega
 ·
  exact (h.gr.move fun j hj _ => set6_heap _ _ _ _ _ _ _ _ _ (by (try simp only at hj); omega)).mono fun j hj _ => by (try simp only at hj ⊢); omega
set_option maxRecDepth 100000 in
set_option maxHeartbeats 16000000 in
theorem next_calls (w : World) (S : Nat → Prop) (sd : SD) (bS : Nat) (p : PathD) (v : Value) (n : Int) (hS : SAt w S bS sd) (hp : PathIn w S p v) (hin : InR sd p.order) (hlen : p.order.length ≤ 1000) (hcl : sd.calls.length ≤ 1000) (hR : Rdy sd.c p.g) (hmany : 0 ≤ p.many ∧ p.many ≤ 1000) :
  Calls Tryz.prog 20 #[.pointer (some ⟨bS, 0, none⟩), v, .int .i64 n] w (NextPost w (nextF sd p n)) := by
 obtain ⟨A, cO, A1, n1, k1, A2, n2, k2, rfl, hro, hg⟩ := hp
 obtain ⟨hm0, hm1⟩ := hmany
 obtain ⟨W0, hW⟩ : ∃ W0, W0 = (w.alloc (.cells #[.slice A p.order.length cO, .slice A1 n1 k1, .slice A2 n2 k2, .int .i64 p.g.nn, .int .i64 p.g.ne, .int .i64 p.many] 59)).alloc (.cells #[.slice none 0 0, .slice none 0 0, .slice none 0 0, .int .i64 0, .int .i64 0, .int .i64 0] 59) := ⟨_, rfl⟩
 have hb0 : Below w.heap.size w W0 := by rw [hW]; exact (by repeat (first | exact Below.refl _ _ | refine Below.alloc ?_ (by simp; try omega) _))
 have s0 : w.heap.size + 1 < W0.heap.size := by rw [hW]; simp
 have H4 := Lib.hid (show Box6 W0 w.heap.size _ _ _ _ _ _ from Box6.of (n := 59) (by rw [hW]; exact (Below.heap_alloc _ _ _ (by simp)).trans (heap_alloc_new w _)))
 have H6 := Lib.hid (show Box6 W0 (w.heap.size + 1) _ _ _ _ _ _ from Box6.of (n := 59) (by
  rw [hW]
  have := heap_alloc_new (w.alloc (.cells #[.slice A p.order.length cO, .slice A1 n1 k1, .slice A2 n2 k2, .int .i64 p.g.nn, .int .i64 p.g.ne, .int .i64 p.many] 59)) (.cells #[.slice none 0 0, .slice none 0 0, .slice none 0 0, .int .i64 0, .int .i64 0, .int .i64 0] 59)
  rw [World.size_alloc] at this
  exact this))
 have HSw := Lib.hid hS
 have HS := Lib.hid (hS.below hb0)
 have HRo := Lib.hid ((hro.mono (S' := fun k => k < w.heap.size) fun k _ hl => hl).below hb0)
 have HRW := Lib.hid (hro.below hb0)
 have HG := Lib.hid (hg.below hb0)
 have HIN := Lib.hid hin
 have HR := Lib.hid hR
 have K0 := Lib.hid hb0
 clear hS hro hg hin hR hb0
 go_enter Tryz.func20, Tryz.ntmps20
 by_cases hn0 : n < 0
 case pos =>
  have HF := Lib.hid (show nextF sd p n = (PathD.zero, false) from by unfold nextF; rw [if_pos hn0])
  have KE := Lib.hid (hW ▸ K0.out)
  go_wp2
  refine bodyPost_ret (v := .tuple #[.agg #[.slice none 0 0, .slice none 0 0, .slice none 0 0, .int .i64 0, .int .i64 0, .int .i64 0], .bool false]) (by simp [results, Tryz.results20, go_sem]; try rfl) rfl ?_
  rw [HF.out]
  exact (next_bad (by first | exact KE.out | (have := KE.out; repeat (first | with_reducible exact this | with_reducible refine Below.setCell ?_ (by simp <;> omega) _))))
 obtain ⟨k, rfl⟩ : ∃ k : Nat, n = (k : Int) := ⟨n.toNat, (Int.toNat_of_nonneg (by omega)).symm⟩
 obtain ⟨Ac, cc, s5, hr⟩ := HSw.out.row
 have lS := HSw.out.lt
 clear hr
 by_cases hk : k < sd.calls.length
 case neg =>
  have HF := Lib.hid (show nextF sd p (k : Int) = (PathD.zero, false) from by unfold nextF; rw [if_neg hn0, Int.toNat_natCast, List.getElem?_eq_none (by omega)])
  have KE := Lib.hid (hW ▸ K0.out)
  have hd : (sd.calls.length : Int) ≤ (k : Int) := by omega
  clear hk
  go_wp2
  refine bodyPost_ret (v := .tuple #[.agg #[.slice none 0 0, .slice none 0 0, .slice none 0 0, .int .i64 0, .int .i64 0, .int .i64 0], .bool false]) (by simp [results, Tryz.results20, go_sem]; try rfl) rfl ?_
  rw [HF.out]
  exact (next_bad (by first | exact KE.out | (have := KE.out; repeat (first | with_reducible exact this | with_reducible refine Below.setCell ?_ (by simp <;> omega) _))))
 obtain ⟨x, hx⟩ := getElem?_of_lt hk
 have HF := Lib.hid (show nextF sd p (k : Int) = if readyB sd p.order k = false then (PathD.zero, false) else if x.to < 0 then (⟨p.order ++ [(k : Int)], (doOf sd.c p.g x.op).1, p.many⟩, true) else (⟨p.order ++ [(k : Int)], (fitsF sd.c p.g x.op x.res).1, p.many + 1⟩, (fitsF sd.c p.g x.op x.res).2) from by unfold nextF; rw [if_neg hn0, Int.toNat_natCast, hx])
 have hd : ¬ (sd.calls.length : Int) ≤ (k : Int) := by omega
 go_wp2_with fail
 rw [← hW]
 clear hW hd hn0 s5 lS HSw
 refine (ready_calls W0 S sd bS k p.order A cO A1 n1 k1 A2 n2 k2 _ _ _ HS.out HRW.out hk HIN.out hlen hcl).mono ?_
 rintro e w1 ⟨rfl, hb⟩
 have K1 := Lib.hid (K0.out.trans (hb.mono K0.out.size))
 have S1 := Lib.hid (HS.out.below hb)
 have T4 := Lib.hid (H4.out.below hb)
 have T6 := Lib.hid (H6.out.below hb)
 have R1 := Lib.hid (HRo.out.below hb)
 have G1 := Lib.hid (HG.out.below hb)
 clear hb HS H4 H6 HRo HG K0
 cases hrb : readyB sd p.order k
 case false =>
  replace HF := Lib.hid (HF.out.trans (if_pos hrb))
  obtain ⟨z0, z1, z2, z3, z4, z5, zf⟩ : _ ∧ _ ∧ _ ∧ _ ∧ _ ∧ _ ∧ _ := ⟨T6.out.c0, T6.out.c1, T6.out.c2, T6.out.c3, T6.out.c4, T6.out.c5, T6.out.fz⟩
  have l6 := T6.out.lt
  go_wp2
  refine bodyPost_ret (v := .tuple #[.agg #[.slice none 0 0, .slice none 0 0, .slice none 0 0, .int .i64 0, .int .i64 0, .int .i64 0], .bool false]) (by simp [results, Tryz.results20, go_sem, z0, z1, z2, z3, z4, z5]; try rfl) rfl ?_
  rw [HF.out]
  exact (next_bad (by have := K1.out; repeat (first | with_reducible exact this | with_reducible refine Below.setCell ?_ (by simp <;> omega) _)))
 replace HF := Lib.hid (HF.out.trans (if_neg (by rw [hrb]; simp)))
 clear hrb
 obtain ⟨Ac, cc, s5, hr⟩ := S1.out.row
 obtain ⟨b, off, f1, g1, f2, g2, f3, g3, rfl, hbl, hsl, x0, x1, x2, x3, x4, x5, x6, x7, x8, x9, x10, x11, x12⟩ := hr.atCallF hx
 have HSL := Lib.hid hsl
 have lS := S1.out.lt
 obtain ⟨p0, p1, p2, p3, p4, p5⟩ : _ ∧ _ ∧ _ ∧ _ ∧ _ ∧ _ := ⟨T4.out.c0, T4.out.c1, T4.out.c2, T4.out.c3, T4.out.c4, T4.out.c5⟩
 have lp := T4.out.lt
 have hmi : ((k : Int) < (sd.calls.length : Int)) := by omega
 clear hr hsl
 go_wp2_with fail
 refine wp_region_schedK (fun _ => True) [(0, true), (1, true), (2, true), (3, true), (4, true), (5, true), (6, true), (7, true), (8, true), (9, false), (10, false), (11, true), (12, true)] (by kernel_rfl) (by kernel_rfl) (fun hS => ?_)
 have HK := Lib.hid hS
 clear hS
 have KD := Lib.hid (Below.refl w1.heap.size w1).drew
 revert HK KD
 generalize w1.drew = Wd
 intro HK KD
 repeat (refine sched_take (v := ?_) (by simp only [opT, opS, opZ]; rfl) (Or.inl ⟨by rfl, fun W hW => ?_⟩) HK.out ?_; rotate_left; (have hc := fun b o hb => hW.cell b o trivial hb; clear hW; go_simp; with_reducible rfl); simp only [Act.put, putT, putZ, putS])
 refine sched_step (by simp only [opT, opS, opZ]; rfl) ?_
 go_wp2_with fail
 refine sched_on (by repeat (first | (with_reducible exact HK.out) | (with_reducible exact Kept.refl _ _) | (with_reducible refine Kept.drew ?_) | (with_reducible refine Kept.drewN ?_ _) | (with_reducible refine Kept.alloc ?_ _) | (with_reducible refine Kept.setCell ?_ (.inl (by simp; try omega)) _))) ?_
 refine sched_step (by simp only [opT, opS, opZ]; rfl) ?_
 go_wp2_with fail
 refine sched_on (by repeat (first | (with_reducible exact HK.out) | (with_reducible exact Kept.refl _ _) | (with_reducible refine Kept.drew ?_) | (with_reducible refine Kept.drewN ?_ _) | (with_reducible refine Kept.alloc ?_ _) | (with_reducible refine Kept.setCell ?_ (.inl (by simp; try omega)) _))) ?_
 repeat (refine sched_take (v := ?_) (by simp only [opT, opS, opZ]; rfl) (Or.inl ⟨by rfl, fun W hW => ?_⟩) (by repeat (first | (with_reducible exact HK.out) | (with_reducible refine Kept.alloc ?_ _))) ?_; rotate_left; (have hc := fun b o hb => hW.cell b o trivial hb; clear hW; go_simp; with_reducible rfl); simp only [Act.put, putT, putZ, putS])
 refine sched_done ?_
 obtain ⟨U, hU⟩ : ∃ U, U = (Wd.alloc (.cells #[.int .i64 x.th, .int .i64 x.op.k, .int .i64 x.op.a, .int .i64 x.op.b, .int .i64 x.op.p, .int .i64 x.op.v, .int .i64 x.frm, .int .i64 x.to, .int .i64 x.res.st, .int .i64 x.res.id, .slice f1 x.res.ps.length g1, .slice f2 x.res.os.length g2, .slice f3 x.res.is.length g3] 70)).alloc (.cells #[.slice none 0 0, .slice none 0 0, .int .i64 0, .int .i64 0] 31) := ⟨_, rfl⟩
 have hbu : Below Wd.heap.size Wd U := by rw [hU]; exact (by repeat (first | exact Below.refl _ _ | refine Below.alloc ?_ (by simp; try omega) _))
 have sU : Wd.heap.size + 1 < U.heap.size := by rw [hU]; simp
 have e0 : U.heap[Wd.heap.size]? = some (.cells #[.int .i64 x.th, .int .i64 x.op.k, .int .i64 x.op.a, .int .i64 x.op.b, .int .i64 x.op.p, .int .i64 x.op.v, .int .i64 x.frm, .int .i64 x.to, .int .i64 x.res.st, .int .i64 x.res.id, .slice f1 x.res.ps.length g1, .slice f2 x.res.os.length g2, .slice f3 x.res.is.length g3] 70 (0, 0)) := by rw [hU]; exact (Below.heap_alloc _ _ _ (by simp)).trans (heap_alloc_new Wd _)
 have BX := Lib.hid (show Box4 U (Wd.heap.size + 1) (.slice none 0 0) (.slice none 0 0) (.int .i64 0) (.int .i64 0) from Box4.of (n := 31) (by
  rw [hU]
  have := heap_alloc_new (Wd.alloc (.cells #[.int .i64 x.th, .int .i64 x.op.k, .int .i64 x.op.a, .int .i64 x.op.b, .int .i64 x.op.p, .int .i64 x.op.v, .int .i64 x.frm, .int .i64 x.to, .int .i64 x.res.st, .int .i64 x.res.id, .slice f1 x.res.ps.length g1, .slice f2 x.res.os.length g2, .slice f3 x.res.is.length g3] 70)) (.cells #[.slice none 0 0, .slice none 0 0, .int .i64 0, .int .i64 0] 31)
  rw [World.size_alloc] at this
  exact this))
 have q : ∀ i v, (#[.int .i64 x.th, .int .i64 x.op.k, .int .i64 x.op.a, .int .i64 x.op.b, .int .i64 x.op.p, .int .i64 x.op.v, .int .i64 x.frm, .int .i64 x.to, .int .i64 x.res.st, .int .i64 x.res.id, .slice f1 x.res.ps.length g1, .slice f2 x.res.os.length g2, .slice f3 x.res.is.length g3] : Array Value)[i]? = some v → U.cell? ⟨Wd.heap.size, i, none⟩ = some v := fun i v h => by simp only [World.cell?, e0]; exact h
 have m0 := q 0 _ rfl
 have m1 := q 1 _ rfl
 have m2 := q 2 _ rfl
 have m3 := q 3 _ rfl
 have m4 := q 4 _ rfl
 have m5 := q 5 _ rfl
 have m6 := q 6 _ rfl
 have m7 := q 7 _ rfl
 have m8 := q 8 _ rfl
 have m9 := q 9 _ rfl
 have m10 := q 10 _ rfl
 have m11 := q 11 _ rfl
 have m12 := q 12 _ rfl
 have KU := Lib.hid (KD.out.trans (hbu.mono KD.out.size))
 have sd1 := KD.out.size
 have SU := Lib.hid (S1.out.below KU.out)
 have TU4 := Lib.hid (T4.out.below KU.out)
 have TU6 := Lib.hid (T6.out.below KU.out)
 have RU := Lib.hid (R1.out.below KU.out)
 have GU := Lib.hid (G1.out.below KU.out)
 have HSU := Lib.hid (HSL.out.below KU.out)
 have KK := Lib.hid (K1.out.trans (KU.out.mono K1.out.size))
 have l4 := T4.out.lt
 have l6 := T6.out.lt
 have lS1 := S1.out.lt
 have e1 : ¬ bS = Wd.heap.size + 1 := by omega
 have e2 : ¬ w.heap.size = Wd.heap.size + 1 := by omega
 have e3 : ¬ Wd.heap.size = Wd.heap.size + 1 := by omega
 have l1 := KK.out.size
 have b2 : w.heap.size + 2 ≤ Wd.heap.size + 1 := by omega
 have sU0 : Wd.heap.size < U.heap.size := by omega
 have HKU := Lib.hid (show Kept w1 (fun _ => True) U from ⟨KU.out.size, fun j _ hj => KU.out.block j hj⟩)
 clear q e0 hbu K1 S1 T4 T6 R1 G1 HSL KU HK KD s5 x0 x1 x2 x3 x4 x5 x6 x7 x8 x9 x10 x11 x12 p0 p1 p2 p3 p4 p5 lp lS
 obtain ⟨p0, p1, p2, p3, p4, p5⟩ : _ ∧ _ ∧ _ ∧ _ ∧ _ ∧ _ := ⟨TU4.out.c0, TU4.out.c1, TU4.out.c2, TU4.out.c3, TU4.out.c4, TU4.out.c5⟩
 have lp := TU4.out.lt
 have lS := SU.out.lt
 obtain ⟨d0, d1, d2, d3, d4, df⟩ := SU.out.cf
 have TX := Lib.hid (show NX w p A cO _ _ _ _ _ (Wd.heap.size + 1) GraphD.zero _ _ U.heap.size U from ⟨KK.out, TU4.out, TU6.out, RU.out, by omega, by omega, Nat.le_refl _, BX.out, Gr.zero _ _ _ _⟩)
 by_cases ht : x.to < 0
 case pos =>
  replace HF := Lib.hid (HF.out.trans (if_pos ht))
  go_wp2_with fail
  rw [← hU]
  clear hU
  rename_i Kr ar
  have CUT0 : ∀ (u0 u1 u3 u5 u7 u8 u12 u13 u14 u15 u16 u17 u18 u19 u20 u21 u22 u23 u24 u25 u26 u27 u28 u29 u30 u31 u32 u33 u34 u35 u36 u37 u38 u39 u40 u41 u42 u43 u44 u45 u46 u47 u48 u49 u50 u51 u52 u53 u54 u55 u56 u57 u58 u59 u60 u61 u62 u63 u64 u65 u66 u67 u68 u69 u70 u71 u72 u73 u74 u75 u76 u77 u78 u79 u80 : Value) (ok : Bool) (m' : Int) (g' : GraphD) (A3 : Option Addr) (L3 c3 : Nat) (A4 : Option Addr) (L4 c4 M : Nat) (V : World), NX w p A cO (.slice A1 n1 k1) (.slice A2 n2 k2) (.int .i64 p.g.nn) (.int .i64 p.g.ne) (.int .i64 p.many) (Wd.heap.size + 1) g' (.slice A3 L3 c3) (.slice A4 L4 c4) M V → nextF sd p (k : Int) = (⟨p.order ++ [(k : Int)], g', m'⟩, ok) → Kr ({ tmps := #[u0, u1, .int .i64 (k : Int), u3, .pointer (some ⟨w.heap.size, 0, none⟩), u5, .pointer (some ⟨w.heap.size + 1, 0, none⟩), u7, u8, .bool ok, .int .i64 m', .pointer (some ⟨Wd.heap.size + 1, 0, none⟩), u12, u13, u14, u15, u16, u17, u18, u19, u20, u21, u22, u23, u24, u25, u26, u27, u28, u29, u30, u31, u32, u33, u34, u35, u36, u37, u38, u39, u40, u41, u42, u43, u44, u45, u46, u47, u48, u49, u50, u51, u52, u53, u54, u55, u56, u57, u58, u59, u60, u61, u62, u63, u64, u65, u66, u67, u68, u69, u70, u71, u72, u73, u74, u75, u76, u77, u78, u79, u80], defers := [] } : Act) V := by
   intro u0 u1 u3 u5 u7 u8 u12 u13 u14 u15 u16 u17 u18 u19 u20 u21 u22 u23 u24 u25 u26 u27 u28 u29 u30 u31 u32 u33 u34 u35 u36 u37 u38 u39 u40 u41 u42 u43 u44 u45 u46 u47 u48 u49 u50 u51 u52 u53 u54 u55 u56 u57 u58 u59 u60 u61 u62 u63 u64 u65 u66 u67 u68 u69 u70 u71 u72 u73 u74 u75 u76 u77 u78 u79 u80 ok m' g' A3 L3 c3 A4 L4 c4 M V hN hfx
   have N := Lib.hid hN
   have HX := Lib.hid hfx
   clear hN hfx
   have lx := N.out.lx
   have lt := N.out.lt
   clear m0 m1 m2 m3 m4 m5 m6 m7 m8 m9 m10 m11 m12 p0 p1 p2 p3 p4 p5 d0 d1 d2 d3 d4 df BX SU TU4 TU6 RU GU HSU KK HR HF
   obtain ⟨y0, y1, y2, y3, yf⟩ := N.out.bx
   have z0 := N.out.b4.c0
   have z4 := N.out.b4.lt
   have z6 := N.out.b6.lt
   have f1 : ¬ w.heap.size = w.heap.size + 1 := by omega
   have f2 : ¬ Wd.heap.size = w.heap.size := by omega
   refine ar _ _ ?_
   go_wp2_with fail
   refine wp_region_tr (fun j => j ≠ w.heap.size + 1) (.take 0 (.take 1 (.take 3 (.take 6 (.take 7 (.take 9 (.two 2 (.step 4 (.step 5 (.take 8 (.step 10 (.take 11 .nil))))) 4 (.step 2 (.step 5 (.take 8 (.step 10 (.take 11 .nil)))))))))))) (by kernel_rfl) (by kernel_rfl) (fun hS => ?_)
   have HK := Lib.hid hS
   clear hS
   have KD := Lib.hid (Below.refl V.heap.size V).drew
   revert HK KD
   generalize V.drew = Vd
   intro HK KD
   have lm := N.out.lm
   have lv : Wd.heap.size + 1 < V.heap.size := by omega
   repeat (refine tr_take (v := ?_) (by simp only [opT, opS, opZ]; rfl) (Or.inl ⟨by rfl, fun W hW => ?_⟩) HK.out ?_; rotate_left; (have hc := fun b o hn hb => hW.cell b o hn hb; clear hW; go_simp; with_reducible rfl); simp only [Act.put, putT, putZ, putS])
   have N1 := Lib.hid (N.out.below KD.out)
   have sz := KD.out.size
   clear N KD z0 z4 z6 y0 y1 y2 y3 yf
   refine tr_two (by simp only [opT, opS, opZ]; rfl) ?_ (by simp only [opT, opS, opZ]; rfl) (Hid.out ?_)
   ·
    skip
    go_wp2_with fail
    refine (cloneInts_calls Vd _ _ p.order N1.out.ro (by omega)).mono ?_
    rintro e V1 ⟨v1, rfl, hown, hb⟩
    have Nx := Lib.hid (N1.out.below hb)
    have HKx := Lib.hid (HK.out.below hb)
    have hlt := hown.lt
    obtain ⟨B1, d1, rfl⟩ := hown.slice
    have HO0 := Lib.hid hown
    have zb := hb.size
    clear hb hown N1 HK
    go_wp2_with fail
    refine tr_on HKx.out ?_
    refine tr_step (by simp only [opT, opS, opZ]; rfl) ?_
    obtain ⟨Vy, hV⟩ : ∃ V, V = V1.alloc (.cells #[.int .i64 (k : Int)] 3) := ⟨_, rfl⟩
    have hb : Below V1.heap.size V1 Vy := by rw [hV]; exact (Below.refl _ V1).alloc (Nat.le_refl _) _
    have sy : Vy.heap.size = V1.heap.size + 1 := by rw [hV]; simp
    have HB := Lib.hid (show Row tInt Vy (fun j => j = V1.heap.size) (.slice (some ⟨V1.heap.size, 0, none⟩) 1 1) [(k : Int)] from by rw [hV]; exact Row.box tInt V1 (cs := [.int .i64 (k : Int)]) 3 _ rfl rfl)
    go_wp2_with fail
    rw [← hV]
    have Ny := Lib.hid (Nx.out.below hb)
    have HKy := Lib.hid (HKx.out.below hb)
    have HO1 := Lib.hid (HO0.out.below hb)
    clear hb hV Nx HKx
    refine tr_on HKy.out ?_
    refine tr_step (by simp only [opT, opS, opZ]; rfl) ?_
    refine (wpList_own_append (ty := tInt) (W := Vy) (S := fun j => w.heap.size + 2 ≤ j) (Sy := fun j => j = V1.heap.size) (v := .slice B1 p.order.length d1) (xs := p.order) (ys := [(k : Int)]) rfl _ _ 25 3 8 _ rfl elemInts rfl (HO1.out.mono fun j hj _ => by (try simp only at hj ⊢); omega) (some ⟨V1.heap.size, 0, none⟩) 1 1 rfl HB.out rfl ?bb ?bl (by (try simp only); omega) (fun j hj _ => by (try simp only at hj); subst hj; exact ⟨by (try simp only); omega, fun e => by have := hlt _ e; omega⟩) ?_)
    case bb => simp; omega
    case bl => unfold maxLen; simp; omega
    intro v2 V5 hown hg hor
    have hrow : ∀ j, (Value.slice B1 p.order.length d1).ownBlock = some j → Vd.heap.size ≤ j := fun j hj => by have := HO1.out.1 j hj; (try simp only at this); omega
    have hk5 : Kept V (fun j => j ≠ w.heap.size + 1) V5 := by
     have hz : Vy.heap.size ≤ V5.heap.size := by obtain ⟨_, _, _, hz, _⟩ := hg; exact hz
     exact ⟨Nat.le_trans HKy.out.1 hz, fun j hj hl => (Same.of_grown (S := fun i => i < V.heap.size) hg (fun i hi e => by have := hrow i e.symm; (try simp only at hi); omega) j hl (Nat.lt_of_lt_of_le hl HKy.out.1)).trans (HKy.out.2 j hj hl)⟩
    obtain ⟨B5, c5, rfl⟩ := hown.slice
    have hle : (p.order ++ [(k : Int)]).length = p.order.length + 1 := by simp
    rw [hle] at hown ⊢
    have HO := Lib.hid hown
    have HKz := Lib.hid hk5
    have Nz := Lib.hid (Ny.out.grown hg fun j hj => by have := hrow j hj; omega)
    clear hown hg hor hk5 hrow Ny HKy hle HO1
    refine tr_on HKz.out ?_
    repeat (refine tr_take (v := ?_) (by simp only [opT, opS, opZ]; rfl) (Or.inl ⟨by rfl, fun W hW => ?_⟩) HKz.out ?_; rotate_left; (clear hW; go_simp; with_reducible rfl); simp only [Act.put, putT, putZ, putS])
    refine tr_step (by simp only [opT, opS, opZ]; rfl) ?_
    obtain ⟨q0, q1, q2, q3, q4, q5, qf⟩ : _ ∧ _ ∧ _ ∧ _ ∧ _ ∧ _ ∧ _ := ⟨Nz.out.b6.c0, Nz.out.b6.c1, Nz.out.b6.c2, Nz.out.b6.c3, Nz.out.b6.c4, Nz.out.b6.c5, Nz.out.b6.fz⟩
    have ql := Nz.out.b6.lt
    go_wp2_with fail
    have HK6 := Lib.hid (show Kept V (fun j => j ≠ w.heap.size + 1) (set6 V5 (w.heap.size + 1) (.slice B5 (p.order.length + 1) c5) (.slice A3 L3 c3) (.slice A4 L4 c4) (.int .i64 g'.nn) (.int .i64 g'.ne) (.int .i64 m')) from by unfold set6; exact (by repeat (first | (with_reducible exact HKz.out) | (with_reducible refine Kept.setCell ?_ (.inr (fun h => absurd rfl h)) _))))
    refine tr_on HK6.out ?_
    repeat (refine tr_take (v := ?_) (by simp only [opT, opS, opZ]; rfl) (Or.inl ⟨by rfl, fun W hW => ?_⟩) HK6.out ?_; rotate_left; (clear hW; go_simp; with_reducible rfl); simp only [Act.put, putT, putZ, putS])
    refine tr_done ?_
    go_wp2
    refine bodyPost_ret (v := .tuple #[.agg #[.slice B5 (p.order.length + 1) c5, .slice A3 L3 c3, .slice A4 L4 c4, .int .i64 g'.nn, .int .i64 g'.ne, .int .i64 m'], .bool ok]) (by simp [results, Tryz.results20, go_sem, q0, q1, q2, q3, q4, q5]; try rfl) rfl ?_
    rw [HX.out]
    exact Nz.out.done HO.out ok
   ·
    refine Lib.hid ?_
    obtain ⟨V1, hV⟩ : ∃ V, V = Vd.alloc (.cells #[.int .i64 (k : Int)] 3) := ⟨_, rfl⟩
    have hb : Below Vd.heap.size Vd V1 := by rw [hV]; exact (Below.refl _ Vd).alloc (Nat.le_refl _) _
    have sy : V1.heap.size = Vd.heap.size + 1 := by rw [hV]; simp
    have HB := Lib.hid (show Row tInt V1 (fun j => j = Vd.heap.size) (.slice (some ⟨Vd.heap.size, 0, none⟩) 1 1) [(k : Int)] from by rw [hV]; exact Row.box tInt Vd (cs := [.int .i64 (k : Int)]) 3 _ rfl rfl)
    go_wp2_with fail
    rw [← hV]
    have Nx := Lib.hid (N1.out.below hb)
    have HKx := Lib.hid (HK.out.below hb)
    clear hb hV N1 HK
    refine tr_on HKx.out ?_
    refine tr_step (by simp only [opT, opS, opZ]; rfl) ?_
    go_wp2_with fail
    refine (cloneInts_calls V1 _ _ p.order Nx.out.ro (by omega)).mono ?_
    rintro e Vy ⟨v1, rfl, hown, hb⟩
    have Ny := Lib.hid (Nx.out.below hb)
    have HKy := Lib.hid (HKx.out.below hb)
    have hlt := hown.lt
    obtain ⟨B1, d1, rfl⟩ := hown.slice
    have HO1 := Lib.hid hown
    have zb := hb.size
    replace HB := Lib.hid (HB.out.below hb)
    clear hb hown Nx HKx
    go_wp2_with fail
    refine tr_on HKy.out ?_
    refine tr_step (by simp only [opT, opS, opZ]; rfl) ?_
    refine (wpList_own_append (ty := tInt) (W := Vy) (S := fun j => w.heap.size + 2 ≤ j) (Sy := fun j => j = Vd.heap.size) (v := .slice B1 p.order.length d1) (xs := p.order) (ys := [(k : Int)]) rfl _ _ 25 3 8 _ rfl elemInts rfl (HO1.out.mono fun j hj _ => by (try simp only at hj ⊢); omega) (some ⟨Vd.heap.size, 0, none⟩) 1 1 rfl HB.out rfl ?bb ?bl (by (try simp only); omega) (fun j hj _ => by (try simp only at hj); subst hj; exact ⟨by (try simp only); omega, fun e => by have := HO1.out.1 _ e; (try simp only at this); omega⟩) ?_)
    case bb => simp; omega
    case bl => unfold maxLen; simp; omega
    intro v2 V5 hown hg hor
    have hrow : ∀ j, (Value.slice B1 p.order.length d1).ownBlock = some j → Vd.heap.size ≤ j := fun j hj => by have := HO1.out.1 j hj; (try simp only at this); omega
    have hk5 : Kept V (fun j => j ≠ w.heap.size + 1) V5 := by
     have hz : Vy.heap.size ≤ V5.heap.size := by obtain ⟨_, _, _, hz, _⟩ := hg; exact hz
     exact ⟨Nat.le_trans HKy.out.1 hz, fun j hj hl => (Same.of_grown (S := fun i => i < V.heap.size) hg (fun i hi e => by have := hrow i e.symm; (try simp only at hi); omega) j hl (Nat.lt_of_lt_of_le hl HKy.out.1)).trans (HKy.out.2 j hj hl)⟩
    obtain ⟨B5, c5, rfl⟩ := hown.slice
    have hle : (p.order ++ [(k : Int)]).length = p.order.length + 1 := by simp
    rw [hle] at hown ⊢
    have HO := Lib.hid hown
    have HKz := Lib.hid hk5
    have Nz := Lib.hid (Ny.out.grown hg fun j hj => by have := hrow j hj; omega)
    clear hown hg hor hk5 hrow Ny HKy hle HO1
    refine tr_on HKz.out ?_
    repeat (refine tr_take (v := ?_) (by simp only [opT, opS, opZ]; rfl) (Or.inl ⟨by rfl, fun W hW => ?_⟩) HKz.out ?_; rotate_left; (clear hW; go_simp; with_reducible rfl); simp only [Act.put, putT, putZ, putS])
    refine tr_step (by simp only [opT, opS, opZ]; rfl) ?_
    obtain ⟨q0, q1, q2, q3, q4, q5, qf⟩ : _ ∧ _ ∧ _ ∧ _ ∧ _ ∧ _ ∧ _ := ⟨Nz.out.b6.c0, Nz.out.b6.c1, Nz.out.b6.c2, Nz.out.b6.c3, Nz.out.b6.c4, Nz.out.b6.c5, Nz.out.b6.fz⟩
    have ql := Nz.out.b6.lt
    go_wp2_with fail
    have HK6 := Lib.hid (show Kept V (fun j => j ≠ w.heap.size + 1) (set6 V5 (w.heap.size + 1) (.slice B5 (p.order.length + 1) c5) (.slice A3 L3 c3) (.slice A4 L4 c4) (.int .i64 g'.nn) (.int .i64 g'.ne) (.int .i64 m')) from by unfold set6; exact (by repeat (first | (with_reducible exact HKz.out) | (with_reducible refine Kept.setCell ?_ (.inr (fun h => absurd rfl h)) _))))
    refine tr_on HK6.out ?_
    repeat (refine tr_take (v := ?_) (by simp only [opT, opS, opZ]; rfl) (Or.inl ⟨by rfl, fun W hW => ?_⟩) HK6.out ?_; rotate_left; (clear hW; go_simp; with_reducible rfl); simp only [Act.put, putT, putZ, putS])
    refine tr_done ?_
    go_wp2
    refine bodyPost_ret (v := .tuple #[.agg #[.slice B5 (p.order.length + 1) c5, .slice A3 L3 c3, .slice A4 L4 c4, .int .i64 g'.nn, .int .i64 g'.ne, .int .i64 m'], .bool ok]) (by simp [results, Tryz.results20, go_sem, q0, q1, q2, q3, q4, q5]; try rfl) rfl ?_
    rw [HX.out]
    exact Nz.out.done HO.out ok
  have CUT := Lib.hid CUT0
  clear ar CUT0
  refine wp_region_schedK (fun j => j ≠ Wd.heap.size + 1) [(0, true), (1, true), (2, true), (3, true), (4, true), (5, true), (6, true), (7, true), (8, false), (9, true), (10, true), (11, true), (12, false)] (by kernel_rfl) (by kernel_rfl) (fun hS => ?_)
  have HK := Lib.hid hS
  clear hS
  have KD := Lib.hid (Below.refl U.heap.size U).drew
  revert HK KD
  generalize U.drew = Ud
  intro HK KD
  repeat (refine sched_take (v := ?_) (by simp only [opT, opS, opZ]; rfl) (Or.inl ⟨by rfl, fun W hW => ?_⟩) HK.out ?_; rotate_left; (have hc := fun b o hn hb => hW.cell b o hn hb; clear hW; go_simp; with_reducible rfl); simp only [Act.put, putT, putZ, putS])
  clear m0 m1 m2 m3 m4 m5 m6 m7 m8 m9 m10 m11 m12 p0 p1 p2 p3 p4 p5 d0 d1 d2 d3 d4 df
  refine sched_step (by simp only [opT, opS, opZ]; rfl) ?_
  go_wp2_with fail
  refine (do_calls Ud _ sd.c p.g _ _ x.op (GU.out.below KD.out) HR.out).mono ?_
  rintro e w3 hp
  obtain ⟨A3, L3, c3, A4, L4, c4, i1, j1, i2, j2, i3, j3, rfl, hz, hxx, hb⟩ := do_slices hp
  obtain ⟨gz, hgz⟩ : ∃ gz, gz = (doOf sd.c p.g x.op).1 := ⟨_, rfl⟩
  rw [← hgz] at hz ⊢
  have HGZ := Lib.hid hgz
  clear hp hxx hgz
  have HK3 := Lib.hid (HK.out.below hb)
  have T3 := Lib.hid ((TX.out.below KD.out).below hb)
  have G3 := Lib.hid (hz.mono (S' := fun j => Wd.heap.size + 1 < j) fun j hj _ => by have := KD.out.size; (try simp only at hj ⊢); omega)
  clear hb hz TX HK KD
  go_wp2_with fail
  refine sched_on HK3.out ?_
  repeat (refine sched_take (v := ?_) (by simp only [opT, opS, opZ]; rfl) (Or.inl ⟨by rfl, fun W hW => ?_⟩) HK3.out ?_; rotate_left; (clear hW; go_simp; with_reducible rfl); simp only [Act.put, putT, putZ, putS])
  refine sched_step (by simp only [opT, opS, opZ]; rfl) ?_
  obtain ⟨q0, q1, q2, q3, qf⟩ := T3.out.bx
  have ql := Nat.lt_of_lt_of_le T3.out.lt T3.out.lm
  go_wp2_with fail
  have T4 := Lib.hid (T3.out.set G3.out)
  unfold set4 at T4
  have HK4 := Lib.hid (show Kept U (fun j => j ≠ Wd.heap.size + 1) (set4 w3 (Wd.heap.size + 1) (.slice A3 L3 c3) (.slice A4 L4 c4) (.int .i64 gz.nn) (.int .i64 gz.ne)) from by unfold set4; exact (by repeat (first | (with_reducible exact HK3.out) | (with_reducible refine Kept.setCell ?_ (.inr (fun h => absurd rfl h)) _))))
  unfold set4 at HK4
  clear q0 q1 q2 q3 qf
  refine sched_on HK4.out ?_
  repeat (first | (refine sched_take (v := ?_) (by simp only [opT, opS, opZ]; rfl) (Or.inl ⟨by rfl, fun W hW => ?_⟩) HK4.out ?_; rotate_left; (clear hW; go_simp; with_reducible rfl); simp only [Act.put, putT, putZ, putS]) | (refine sched_take (by simp only [opT, opS, opZ]; rfl) (Or.inr ⟨by rfl, rfl⟩) HK4.out ?_; simp only [Act.put, putT, putZ, putS]))
  refine sched_done ?_
  go_wp2_with fail
  exact CUT.out _ _ _ _ _ _ _ _ _ _ _ _ _ _ _ _ _ _ _ _ _ _ _ _ _ _ _ _ _ _ _ _ _ _ _ _ _ _ _ _ _ _ _ _ _ _ _ _ _ _ _ _ _ _ _ _ _ _ _ _ _ _ _ _ _ _ _ _ _ _ _ _ _ _ _ _ _ gz _ _ _ _ _ _ _ _ T4.out (by rw [HF.out, HGZ.out])
 case neg =>
  replace HF := Lib.hid (HF.out.trans (if_neg ht))
  go_wp2_with fail
  rw [← hU]
  clear hU
  rename_i Kr ar Kl al
  have CUT0 : ∀ (u0 u1 u3 u5 u7 u8 u12 u13 u14 u15 u16 u17 u18 u19 u20 u21 u22 u23 u24 u25 u26 u27 u28 u29 u30 u31 u32 u33 u34 u35 u36 u37 u38 u39 u40 u41 u42 u43 u44 u45 u46 u47 u48 u49 u50 u51 u52 u53 u54 u55 u56 u57 u58 u59 u60 u61 u62 u63 u64 u65 u66 u67 u68 u69 u70 u71 u72 u73 u74 u75 u76 u77 u78 u79 u80 : Value) (ok : Bool) (m' : Int) (g' : GraphD) (A3 : Option Addr) (L3 c3 : Nat) (A4 : Option Addr) (L4 c4 M : Nat) (V : World), NX w p A cO (.slice A1 n1 k1) (.slice A2 n2 k2) (.int .i64 p.g.nn) (.int .i64 p.g.ne) (.int .i64 p.many) (Wd.heap.size + 1) g' (.slice A3 L3 c3) (.slice A4 L4 c4) M V → nextF sd p (k : Int) = (⟨p.order ++ [(k : Int)], g', m'⟩, ok) → Kr ({ tmps := #[u0, u1, .int .i64 (k : Int), u3, .pointer (some ⟨w.heap.size, 0, none⟩), u5, .pointer (some ⟨w.heap.size + 1, 0, none⟩), u7, u8, .bool ok, .int .i64 m', .pointer (some ⟨Wd.heap.size + 1, 0, none⟩), u12, u13, u14, u15, u16, u17, u18, u19, u20, u21, u22, u23, u24, u25, u26, u27, u28, u29, u30, u31, u32, u33, u34, u35, u36, u37, u38, u39, u40, u41, u42, u43, u44, u45, u46, u47, u48, u49, u50, u51, u52, u53, u54, u55, u56, u57, u58, u59, u60, u61, u62, u63, u64, u65, u66, u67, u68, u69, u70, u71, u72, u73, u74, u75, u76, u77, u78, u79, u80], defers := [] } : Act) V := by
   intro u0 u1 u3 u5 u7 u8 u12 u13 u14 u15 u16 u17 u18 u19 u20 u21 u22 u23 u24 u25 u26 u27 u28 u29 u30 u31 u32 u33 u34 u35 u36 u37 u38 u39 u40 u41 u42 u43 u44 u45 u46 u47 u48 u49 u50 u51 u52 u53 u54 u55 u56 u57 u58 u59 u60 u61 u62 u63 u64 u65 u66 u67 u68 u69 u70 u71 u72 u73 u74 u75 u76 u77 u78 u79 u80 ok m' g' A3 L3 c3 A4 L4 c4 M V hN hfx
   have N := Lib.hid hN
   have HX := Lib.hid hfx
   clear hN hfx
   have lx := N.out.lx
   have lt := N.out.lt
   clear m0 m1 m2 m3 m4 m5 m6 m7 m8 m9 m10 m11 m12 p0 p1 p2 p3 p4 p5 d0 d1 d2 d3 d4 df BX SU TU4 TU6 RU GU HSU KK HR HF
   obtain ⟨y0, y1, y2, y3, yf⟩ := N.out.bx
   have z0 := N.out.b4.c0
   have z4 := N.out.b4.lt
   have z6 := N.out.b6.lt
   have f1 : ¬ w.heap.size = w.heap.size + 1 := by omega
   have f2 : ¬ Wd.heap.size = w.heap.size := by omega
   refine ar _ _ ?_
   go_wp2_with fail
   refine wp_region_tr (fun j => j ≠ w.heap.size + 1) (.take 0 (.take 1 (.take 3 (.take 6 (.take 7 (.take 9 (.two 2 (.step 4 (.step 5 (.take 8 (.step 10 (.take 11 .nil))))) 4 (.step 2 (.step 5 (.take 8 (.step 10 (.take 11 .nil)))))))))))) (by kernel_rfl) (by kernel_rfl) (fun hS => ?_)
   have HK := Lib.hid hS
   clear hS
   have KD := Lib.hid (Below.refl V.heap.size V).drew
   revert HK KD
   generalize V.drew = Vd
   intro HK KD
   have lm := N.out.lm
   have lv : Wd.heap.size + 1 < V.heap.size := by omega
   repeat (refine tr_take (v := ?_) (by simp only [opT, opS, opZ]; rfl) (Or.inl ⟨by rfl, fun W hW => ?_⟩) HK.out ?_; rotate_left; (have hc := fun b o hn hb => hW.cell b o hn hb; clear hW; go_simp; with_reducible rfl); simp only [Act.put, putT, putZ, putS])
   have N1 := Lib.hid (N.out.below KD.out)
   have sz := KD.out.size
   clear N KD z0 z4 z6 y0 y1 y2 y3 yf
   refine tr_two (by simp only [opT, opS, opZ]; rfl) ?_ (by simp only [opT, opS, opZ]; rfl) (Hid.out ?_)
   ·
    skip
    go_wp2_with fail
    refine (cloneInts_calls Vd _ _ p.order N1.out.ro (by omega)).mono ?_
    rintro e V1 ⟨v1, rfl, hown, hb⟩
    have Nx := Lib.hid (N1.out.below hb)
    have HKx := Lib.hid (HK.out.below hb)
    have hlt := hown.lt
    obtain ⟨B1, d1, rfl⟩ := hown.slice
    have HO0 := Lib.hid hown
    have zb := hb.size
    clear hb hown N1 HK
    go_wp2_with fail
    refine tr_on HKx.out ?_
    refine tr_step (by simp only [opT, opS, opZ]; rfl) ?_
    obtain ⟨Vy, hV⟩ : ∃ V, V = V1.alloc (.cells #[.int .i64 (k : Int)] 3) := ⟨_, rfl⟩
    have hb : Below V1.heap.size V1 Vy := by rw [hV]; exact (Below.refl _ V1).alloc (Nat.le_refl _) _
    have sy : Vy.heap.size = V1.heap.size + 1 := by rw [hV]; simp
    have HB := Lib.hid (show Row tInt Vy (fun j => j = V1.heap.size) (.slice (some ⟨V1.heap.size, 0, none⟩) 1 1) [(k : Int)] from by rw [hV]; exact Row.box tInt V1 (cs := [.int .i64 (k : Int)]) 3 _ rfl rfl)
    go_wp2_with fail
    rw [← hV]
    have Ny := Lib.hid (Nx.out.below hb)
    have HKy := Lib.hid (HKx.out.below hb)
    have HO1 := Lib.hid (HO0.out.below hb)
    clear hb hV Nx HKx
    refine tr_on HKy.out ?_
    refine tr_step (by simp only [opT, opS, opZ]; rfl) ?_
    refine (wpList_own_append (ty := tInt) (W := Vy) (S := fun j => w.heap.size + 2 ≤ j) (Sy := fun j => j = V1.heap.size) (v := .slice B1 p.order.length d1) (xs := p.order) (ys := [(k : Int)]) rfl _ _ 25 3 8 _ rfl elemInts rfl (HO1.out.mono fun j hj _ => by (try simp only at hj ⊢); omega) (some ⟨V1.heap.size, 0, none⟩) 1 1 rfl HB.out rfl ?bb ?bl (by (try simp only); omega) (fun j hj _ => by (try simp only at hj); subst hj; exact ⟨by (try simp only); omega, fun e => by have := hlt _ e; omega⟩) ?_)
    case bb => simp; omega
    case bl => unfold maxLen; simp; omega
    intro v2 V5 hown hg hor
    have hrow : ∀ j, (Value.slice B1 p.order.length d1).ownBlock = some j → Vd.heap.size ≤ j := fun j hj => by have := HO1.out.1 j hj; (try simp only at this); omega
    have hk5 : Kept V (fun j => j ≠ w.heap.size + 1) V5 := by
     have hz : Vy.heap.size ≤ V5.heap.size := by obtain ⟨_, _, _, hz, _⟩ := hg; exact hz
     exact ⟨Nat.le_trans HKy.out.1 hz, fun j hj hl => (Same.of_grown (S := fun i => i < V.heap.size) hg (fun i hi e => by have := hrow i e.symm; (try simp only at hi); omega) j hl (Nat.lt_of_lt_of_le hl HKy.out.1)).trans (HKy.out.2 j hj hl)⟩
    obtain ⟨B5, c5, rfl⟩ := hown.slice
    have hle : (p.order ++ [(k : Int)]).length = p.order.length + 1 := by simp
    rw [hle] at hown ⊢
    have HO := Lib.hid hown
    have HKz := Lib.hid hk5
    have Nz := Lib.hid (Ny.out.grown hg fun j hj => by have := hrow j hj; omega)
    clear hown hg hor hk5 hrow Ny HKy hle HO1
    refine tr_on HKz.out ?_
    repeat (refine tr_take (v := ?_) (by simp only [opT, opS, opZ]; rfl) (Or.inl ⟨by rfl, fun W hW => ?_⟩) HKz.out ?_; rotate_left; (clear hW; go_simp; with_reducible rfl); simp only [Act.put, putT, putZ, putS])
    refine tr_step (by simp only [opT, opS, opZ]; rfl) ?_
    obtain ⟨q0, q1, q2, q3, q4, q5, qf⟩ : _ ∧ _ ∧ _ ∧ _ ∧ _ ∧ _ ∧ _ := ⟨Nz.out.b6.c0, Nz.out.b6.c1, Nz.out.b6.c2, Nz.out.b6.c3, Nz.out.b6.c4, Nz.out.b6.c5, Nz.out.b6.fz⟩
    have ql := Nz.out.b6.lt
    go_wp2_with fail
    have HK6 := Lib.hid (show Kept V (fun j => j ≠ w.heap.size + 1) (set6 V5 (w.heap.size + 1) (.slice B5 (p.order.length + 1) c5) (.slice A3 L3 c3) (.slice A4 L4 c4) (.int .i64 g'.nn) (.int .i64 g'.ne) (.int .i64 m')) from by unfold set6; exact (by repeat (first | (with_reducible exact HKz.out) | (with_reducible refine Kept.setCell ?_ (.inr (fun h => absurd rfl h)) _))))
    refine tr_on HK6.out ?_
    repeat (refine tr_take (v := ?_) (by simp only [opT, opS, opZ]; rfl) (Or.inl ⟨by rfl, fun W hW => ?_⟩) HK6.out ?_; rotate_left; (clear hW; go_simp; with_reducible rfl); simp only [Act.put, putT, putZ, putS])
    refine tr_done ?_
    go_wp2
    refine bodyPost_ret (v := .tuple #[.agg #[.slice B5 (p.order.length + 1) c5, .slice A3 L3 c3, .slice A4 L4 c4, .int .i64 g'.nn, .int .i64 g'.ne, .int .i64 m'], .bool ok]) (by simp [results, Tryz.results20, go_sem, q0, q1, q2, q3, q4, q5]; try rfl) rfl ?_
    rw [HX.out]
    exact Nz.out.done HO.out ok
   ·
    refine Lib.hid ?_
    obtain ⟨V1, hV⟩ : ∃ V, V = Vd.alloc (.cells #[.int .i64 (k : Int)] 3) := ⟨_, rfl⟩
    have hb : Below Vd.heap.size Vd V1 := by rw [hV]; exact (Below.refl _ Vd).alloc (Nat.le_refl _) _
    have sy : V1.heap.size = Vd.heap.size + 1 := by rw [hV]; simp
    have HB := Lib.hid (show Row tInt V1 (fun j => j = Vd.heap.size) (.slice (some ⟨Vd.heap.size, 0, none⟩) 1 1) [(k : Int)] from by rw [hV]; exact Row.box tInt Vd (cs := [.int .i64 (k : Int)]) 3 _ rfl rfl)
    go_wp2_with fail
    rw [← hV]
    have Nx := Lib.hid (N1.out.below hb)
    have HKx := Lib.hid (HK.out.below hb)
    clear hb hV N1 HK
    refine tr_on HKx.out ?_
    refine tr_step (by simp only [opT, opS, opZ]; rfl) ?_
    go_wp2_with fail
    refine (cloneInts_calls V1 _ _ p.order Nx.out.ro (by omega)).mono ?_
    rintro e Vy ⟨v1, rfl, hown, hb⟩
    have Ny := Lib.hid (Nx.out.below hb)
    have HKy := Lib.hid (HKx.out.below hb)
    have hlt := hown.lt
    obtain ⟨B1, d1, rfl⟩ := hown.slice
    have HO1 := Lib.hid hown
    have zb := hb.size
    replace HB := Lib.hid (HB.out.below hb)
    clear hb hown Nx HKx
    go_wp2_with fail
    refine tr_on HKy.out ?_
    refine tr_step (by simp only [opT, opS, opZ]; rfl) ?_
    refine (wpList_own_append (ty := tInt) (W := Vy) (S := fun j => w.heap.size + 2 ≤ j) (Sy := fun j => j = Vd.heap.size) (v := .slice B1 p.order.length d1) (xs := p.order) (ys := [(k : Int)]) rfl _ _ 25 3 8 _ rfl elemInts rfl (HO1.out.mono fun j hj _ => by (try simp only at hj ⊢); omega) (some ⟨Vd.heap.size, 0, none⟩) 1 1 rfl HB.out rfl ?bb ?bl (by (try simp only); omega) (fun j hj _ => by (try simp only at hj); subst hj; exact ⟨by (try simp only); omega, fun e => by have := HO1.out.1 _ e; (try simp only at this); omega⟩) ?_)
    case bb => simp; omega
    case bl => unfold maxLen; simp; omega
    intro v2 V5 hown hg hor
    have hrow : ∀ j, (Value.slice B1 p.order.length d1).ownBlock = some j → Vd.heap.size ≤ j := fun j hj => by have := HO1.out.1 j hj; (try simp only at this); omega
    have hk5 : Kept V (fun j => j ≠ w.heap.size + 1) V5 := by
     have hz : Vy.heap.size ≤ V5.heap.size := by obtain ⟨_, _, _, hz, _⟩ := hg; exact hz
     exact ⟨Nat.le_trans HKy.out.1 hz, fun j hj hl => (Same.of_grown (S := fun i => i < V.heap.size) hg (fun i hi e => by have := hrow i e.symm; (try simp only at hi); omega) j hl (Nat.lt_of_lt_of_le hl HKy.out.1)).trans (HKy.out.2 j hj hl)⟩
    obtain ⟨B5, c5, rfl⟩ := hown.slice
    have hle : (p.order ++ [(k : Int)]).length = p.order.length + 1 := by simp
    rw [hle] at hown ⊢
    have HO := Lib.hid hown
    have HKz := Lib.hid hk5
    have Nz := Lib.hid (Ny.out.grown hg fun j hj => by have := hrow j hj; omega)
    clear hown hg hor hk5 hrow Ny HKy hle HO1
    refine tr_on HKz.out ?_
    repeat (refine tr_take (v := ?_) (by simp only [opT, opS, opZ]; rfl) (Or.inl ⟨by rfl, fun W hW => ?_⟩) HKz.out ?_; rotate_left; (clear hW; go_simp; with_reducible rfl); simp only [Act.put, putT, putZ, putS])
    refine tr_step (by simp only [opT, opS, opZ]; rfl) ?_
    obtain ⟨q0, q1, q2, q3, q4, q5, qf⟩ : _ ∧ _ ∧ _ ∧ _ ∧ _ ∧ _ ∧ _ := ⟨Nz.out.b6.c0, Nz.out.b6.c1, Nz.out.b6.c2, Nz.out.b6.c3, Nz.out.b6.c4, Nz.out.b6.c5, Nz.out.b6.fz⟩
    have ql := Nz.out.b6.lt
    go_wp2_with fail
    have HK6 := Lib.hid (show Kept V (fun j => j ≠ w.heap.size + 1) (set6 V5 (w.heap.size + 1) (.slice B5 (p.order.length + 1) c5) (.slice A3 L3 c3) (.slice A4 L4 c4) (.int .i64 g'.nn) (.int .i64 g'.ne) (.int .i64 m')) from by unfold set6; exact (by repeat (first | (with_reducible exact HKz.out) | (with_reducible refine Kept.setCell ?_ (.inr (fun h => absurd rfl h)) _))))
    refine tr_on HK6.out ?_
    repeat (refine tr_take (v := ?_) (by simp only [opT, opS, opZ]; rfl) (Or.inl ⟨by rfl, fun W hW => ?_⟩) HK6.out ?_; rotate_left; (clear hW; go_simp; with_reducible rfl); simp only [Act.put, putT, putZ, putS])
    refine tr_done ?_
    go_wp2
    refine bodyPost_ret (v := .tuple #[.agg #[.slice B5 (p.order.length + 1) c5, .slice A3 L3 c3, .slice A4 L4 c4, .int .i64 g'.nn, .int .i64 g'.ne, .int .i64 m'], .bool ok]) (by simp [results, Tryz.results20, go_sem, q0, q1, q2, q3, q4, q5]; try rfl) rfl ?_
    rw [HX.out]
    exact Nz.out.done HO.out ok
  have CUT := Lib.hid CUT0
  clear ar CUT0
  refine wp_region_schedK (fun j => j ≠ Wd.heap.size + 1) [(0, true), (1, true), (2, true), (3, true), (4, true), (5, true), (6, true), (7, true), (8, true), (9, true), (10, false), (11, true), (12, true), (13, true), (14, false), (15, true)] (by kernel_rfl) (by kernel_rfl) (fun hS => ?_)
  have HK := Lib.hid hS
  clear hS
  have KD := Lib.hid (Below.refl U.heap.size U).drew
  revert HK KD
  generalize U.drew = Ud
  intro HK KD
  repeat (refine sched_take (v := ?_) (by simp only [opT, opS, opZ]; rfl) (Or.inl ⟨by rfl, fun W hW => ?_⟩) HK.out ?_; rotate_left; (have hc := fun b o hn hb => hW.cell b o hn hb; clear hW; go_simp; with_reducible rfl); simp only [Act.put, putT, putZ, putS])
  clear m0 m1 m2 m3 m4 m5 m6 m7 m8 m9 m10 m11 m12 p0 p1 p2 p3 p4 p5 d0 d1 d2 d3 d4 df
  refine sched_step (by simp only [opT, opS, opZ]; rfl) ?_
  go_wp2_with fail
  refine (fits_calls Ud _ _ sd.c p.g _ _ x.op x.res _ (GU.out.below KD.out) HR.out ⟨_, _, _, rfl, (HSU.out.below KD.out).1, (HSU.out.below KD.out).2.1, (HSU.out.below KD.out).2.2⟩).mono ?_
  rintro e w3 ⟨zn, ze, gz, bz, rfl, hz, hfd, hb⟩
  obtain ⟨⟨A3, L3, c3, rfl⟩, A4, L4, c4, rfl⟩ := hz.sl3
  have HFD := Lib.hid (FitsD.eq hfd (fitsF_is sd.c p.g x.op x.res))
  clear hfd
  have HK3 := Lib.hid (HK.out.below hb)
  have T3 := Lib.hid ((TX.out.below KD.out).below hb)
  have G3 := Lib.hid (hz.mono (S' := fun j => Wd.heap.size + 1 < j) fun j hj _ => by have := KD.out.size; (try simp only at hj ⊢); omega)
  clear hb hz TX HK KD
  go_wp2_with fail
  refine sched_on HK3.out ?_
  repeat (refine sched_take (v := ?_) (by simp only [opT, opS, opZ]; rfl) (Or.inl ⟨by rfl, fun W hW => ?_⟩) HK3.out ?_; rotate_left; (clear hW; go_simp; with_reducible rfl); simp only [Act.put, putT, putZ, putS])
  refine sched_step (by simp only [opT, opS, opZ]; rfl) ?_
  obtain ⟨q0, q1, q2, q3, qf⟩ := T3.out.bx
  have ql := Nat.lt_of_lt_of_le T3.out.lt T3.out.lm
  go_wp2_with fail
  have T4 := Lib.hid (T3.out.set G3.out)
  unfold set4 at T4
  have HK4 := Lib.hid (show Kept U (fun j => j ≠ Wd.heap.size + 1) (set4 w3 (Wd.heap.size + 1) (.slice A3 L3 c3) (.slice A4 L4 c4) (.int .i64 gz.nn) (.int .i64 gz.ne)) from by unfold set4; exact (by repeat (first | (with_reducible exact HK3.out) | (with_reducible refine Kept.setCell ?_ (.inr (fun h => absurd rfl h)) _))))
  unfold set4 at HK4
  clear q0 q1 q2 q3 qf
  refine sched_on HK4.out ?_
  repeat (first | (refine sched_take (v := ?_) (by simp only [opT, opS, opZ]; rfl) (Or.inl ⟨by rfl, fun W hW => ?_⟩) HK4.out ?_; rotate_left; (clear hW; go_simp; with_reducible rfl); simp only [Act.put, putT, putZ, putS]) | (refine sched_take (by simp only [opT, opS, opZ]; rfl) (Or.inr ⟨by rfl, rfl⟩) HK4.out ?_; simp only [Act.put, putT, putZ, putS]))
  refine sched_done ?_
  go_wp2_with fail
  exact CUT.out _ _ _ _ _ _ _ _ _ _ _ _ _ _ _ _ _ _ _ _ _ _ _ _ _ _ _ _ _ _ _ _ _ _ _ _ _ _ _ _ _ _ _ _ _ _ _ _ _ _ _ _ _ _ _ _ _ _ _ _ _ _ _ _ _ _ _ _ _ _ _ _ _ _ _ _ _ gz _ _ _ _ _ _ _ _ T4.out (by rw [HF.out, HFD.out.1, HFD.out.2])
end Go.Proofs.YtpehmmdbjakkpaaGreat
namespace Go.Proofs.YtpehmmdbjakkpaaGreat
open Go.RowKit Go.Shelf
theorem nodup_le : ∀ (N : Nat) (l : List Int), l.Nodup → (∀ k ∈ l, 0 ≤ k ∧ k < (N : Int)) → l.length ≤ N := by
 intro N
 induction N with
 | zero =>
  intro l _ h
  cases l with
  | nil => simp
  | cons a r => have := h a (List.mem_cons_self ..); omega
 | succ N ih =>
  intro l hn h
  by_cases hm : (N : Int) ∈ l
  ·
   have h1 := ih (l.erase (N : Int)) (hn.erase _) (fun k hk => by
    obtain ⟨h2, h3⟩ := (hn.mem_erase_iff).1 hk
    have := h k h3
    omega)
   have h2 := List.length_erase_of_mem hm
   omega
  ·
   have := ih l hn (fun k hk => by
    have := h k hk
    have : k ≠ (N : Int) := fun e => hm (e ▸ hk)
    omega)
   omega
structure GoodP (sd : SD) (p : PathD) : Prop where
 inr : InR sd p.order
 nd : p.order.Nodup
 inv : Inv sd.c p.g p.order.length
 m0 : 0 ≤ p.many
 m1 : p.many ≤ p.order.length
theorem GoodP.len {sd : SD} {p : PathD} (h : GoodP sd p) : p.order.length ≤ sd.calls.length := nodup_le _ _ h.nd h.inr
theorem Inv.more {c : CfgD} {g : GraphD} {k : Nat} (h : Inv c g k) : Inv c g (k + 1) :=
 ⟨h.wf, Nat.le_succ_of_le h.ln, Nat.le_succ_of_le h.le, Nat.le_succ_of_le h.lp, h.nn, h.ne⟩
theorem next_some {sd : SD} {p : PathD} {n : Nat} (h : (nextF sd p (n : Int)).2 = true) : ∃ x, sd.calls[n]? = some x ∧ readyB sd p.order n = true ∧
  (x.to < 0 ∧ nextF sd p (n : Int) = (⟨p.order ++ [(n : Int)], (doOf sd.c p.g x.op).1, p.many⟩, true) ∨ 0 ≤ x.to ∧ nextF sd p (n : Int) = (⟨p.order ++ [(n : Int)], (fitsF sd.c p.g x.op x.res).1, p.many + 1⟩, (fitsF sd.c p.g x.op x.res).2)) := by
 unfold nextF at h ⊢
 rw [if_neg (by omega), Int.toNat_natCast] at h ⊢
 cases hx : sd.calls[n]? with
 | none => rw [hx] at h; cases h
 | some x =>
  rw [hx] at h
  simp only at h ⊢
  cases hr : readyB sd p.order n with
  | false => rw [hr, if_pos rfl] at h; cases h
  | true =>
   rw [if_neg (by simp)]
   refine ⟨x, rfl, rfl, ?_⟩
   by_cases ht : x.to < 0
   ·
    rw [if_pos ht]; exact .inl ⟨ht, rfl⟩
   ·
    rw [if_neg ht]; exact .inr ⟨by omega, rfl⟩
theorem ready_new {sd : SD} {order : List Int} {n : Nat} (h : readyB sd order n = true) : (n : Int) ∉ order := by
 unfold readyB at h
 cases hx : sd.calls[n]? with
 | none => rw [hx] at h; cases h
 | some x =>
  rw [hx] at h
  simp only [Bool.and_eq_true, Bool.not_eq_true'] at h
  intro hm
  have := List.any_eq_false.1 h.1 _ hm
  simp at this
theorem fits_inv {c : CfgD} {g : GraphD} {k : Nat} (h : Inv c g k) (hk : k ≤ 100) (o : OpD) (r : ResD) : Inv c (fitsF c g o r).1 (k + 1) := by
 unfold fitsF
 split
 ·
  exact h.next hk o
 ·
  exact h.more
theorem next_good {sd : SD} {p : PathD} {n : Nat} (hg : GoodP sd p) (hl : sd.calls.length ≤ 10) (h : (nextF sd p (n : Int)).2 = true) : GoodP sd (nextF sd p (n : Int)).1 ∧ (nextF sd p (n : Int)).1.order = p.order ++ [(n : Int)] := by
 obtain ⟨x, hx, hr, hc⟩ := next_some h
 have hn := ready_new hr
 have hlt : n < sd.calls.length := (List.getElem?_eq_some_iff.1 hx).1
 have hlen := hg.len
 have h0 := hg.m0
 have h1 := hg.m1
 have hnd : (p.order ++ [(n : Int)]).Nodup := by
  rw [List.nodup_append]
  exact ⟨hg.nd, by simp, fun a ha b hb => by rw [List.mem_singleton] at hb; subst hb; rintro rfl; exact hn ha⟩
 have hinr : InR sd (p.order ++ [(n : Int)]) := fun k hk => by
  rcases List.mem_append.1 hk with hk | hk
  ·
   exact hg.inr k hk
  ·
   rw [List.mem_singleton] at hk; omega
 have hle : (p.order ++ [(n : Int)]).length = p.order.length + 1 := by simp
 rcases hc with ⟨_, e⟩ | ⟨_, e⟩ <;> rw [e]
 ·
  exact ⟨⟨hinr, hnd, by simp only [hle]; exact hg.inv.next (by omega) _, h0, by simp only [hle]; omega⟩, rfl⟩
 ·
  exact ⟨⟨hinr, hnd, by simp only [hle]; exact fits_inv hg.inv (by omega) _ _, by simp only; omega, by simp only [hle]; omega⟩, rfl⟩
def kidsF (rec : PathD → List PathD) (sd : SD) (p : PathD) (n : Nat) : List PathD := if (nextF sd p (n : Int)).2 = true then rec (nextF sd p (n : Int)).1 else []
def pathsF (sd : SD) : Nat → PathD → List PathD
 | 0, p => if wholeB sd p.order p.many = true then [p] else []
 | f + 1, p => if wholeB sd p.order p.many = true then [p] else if p.many = sd.need then [] else (List.range sd.calls.length).flatMap (kidsF (pathsF sd f) sd p)
def kid (sd : SD) : Nat → PathD → Nat → List PathD
 | 0, _, _ => []
 | f + 1, p, n => kidsF (pathsF sd f) sd p n
theorem pathsF_eq (sd : SD) (f : Nat) (p : PathD) : pathsF sd f p = if wholeB sd p.order p.many = true then [p] else if p.many = sd.need then [] else (List.range sd.calls.length).flatMap (kid sd f p) := by
 cases f with
 | zero =>
  unfold pathsF
  split
  ·
   rfl
  ·
   split
   ·
    rfl
   ·
    unfold kid; simp
 | succ f => rfl
theorem kid_no {sd : SD} {f : Nat} {p : PathD} {n : Nat} (h : (nextF sd p (n : Int)).2 = false) : kid sd f p n = [] := by
 cases f with
 | zero => rfl
 | succ f => show kidsF _ _ _ _ = _; unfold kidsF; rw [h]; simp
theorem kid_yes {sd : SD} {f : Nat} {p : PathD} {n : Nat} (h : (nextF sd p (n : Int)).2 = true) : kid sd (f + 1) p n = pathsF sd f (nextF sd p (n : Int)).1 := by
 show kidsF _ _ _ _ = _; unfold kidsF; rw [h]; simp
theorem kids_succ (sd : SD) (f : Nat) (p : PathD) (i : Nat) : (List.range (i + 1)).flatMap (kid sd f p) = (List.range i).flatMap (kid sd f p) ++ kid sd f p i := by
 rw [List.range_succ, List.flatMap_append]
 simp
theorem kids_split (sd : SD) (f : Nat) (p : PathD) {i : Nat} (h : i < sd.calls.length) : ∃ later, (List.range sd.calls.length).flatMap (kid sd f p) = (List.range i).flatMap (kid sd f p) ++ kid sd f p i ++ later := by
 have e : List.range sd.calls.length = List.range (i + 1) ++ (List.range (sd.calls.length - (i + 1))).map (fun x => i + 1 + x) := by
  rw [← List.range_add]
  congr 1
  omega
 exact ⟨((List.range (sd.calls.length - (i + 1))).map (fun x => i + 1 + x)).flatMap (kid sd f p), by rw [e, List.flatMap_append, kids_succ]⟩
theorem GoodP.rdy {sd : SD} {p : PathD} (h : GoodP sd p) (hc : sd.c.ok) (hl : sd.calls.length ≤ 10) : Rdy sd.c p.g := (h.inv.start (by have := h.len; omega)).rdy hc
theorem whole_need {sd : SD} {order : List Int} {many : Int} (h : wholeB sd order many = true) : many = sd.need := by
 unfold wholeB at h
 simp only [Bool.and_eq_true, beq_iff_eq] at h
 exact h.1
end Go.Proofs.YtpehmmdbjakkpaaGreat


