/- tendrilref12.Pending. tendrilref12.Before, tendrilref11.Same. Each event is one call's. The document's check of a history, and its calls, are the fold's. The document's next and nth. The document's check of a history. The document's calls of a history. -/
import Derived.Test.YtpehmmdbjakkpaaGreatHistM
import Derived.Test.YtpehmmdbjakkpaaGreatLibM
set_option linter.unusedSimpArgs false
set_option linter.unusedVariables false
namespace Go.Proofs.YtpehmmdbjakkpaaGreat
open Go.RowKit
set_option maxRecDepth 100000 in
set_option maxHeartbeats 2000000 in
theorem refPending_calls (w : World) (S : Nat → Prop) (v : Value) (l : List CallD) (h : Row tCall w S v l) : Calls Tryz.prog 44 #[v] w fun e w' => e = .returned (.int .i64 (pendOf l)) ∧ Below w.heap.size w w' := by
 obtain ⟨A, c, rfl⟩ := h.slice
 have hm := h.len
 unfold maxLen at hm
 have H := Lib.hid h
 clear h
 go_enter Tryz.func44, Tryz.ntmps44
 go_wp2
 go_loopw [3, 8] (fun o i wr => ∃ k : Nat, k ≤ l.length ∧ i = .int .i64 (k : Int) ∧ o = .int .i64 (pendOf (l.take k)) ∧ Hid (Below w.heap.size w wr)) (fun _ i _ => l.length - (intOf i).toNat)
 case atStart => exact ⟨0, Nat.zero_le _, rfl, rfl, Below.refl _ _⟩
 case round =>
  obtain ⟨k, hk, rfl, rfl, hb⟩ := hrel
  have hwr := hb.out.size
  by_cases hlt : k < l.length
  ·
   obtain ⟨x, hx⟩ := getElem?_of_lt hlt
   obtain ⟨b, off, a1, d1, a2, d2, a3, d3, rfl, hbl, _, x0, x1, x2, x3, x4, x5, x6, x7, x8, x9, x10, x11, x12⟩ := (H.out.below hb.out).atCallF hx
   have HS := Lib.hid (pendOf_succ hx)
   have hp1 := pendOf_nonneg (l.take k)
   have hp2 := pendOf_le l k
   clear hx
   by_cases hn : x.to < 0
   ·
    have HE := Lib.hid (show pendOf (l.take (k + 1)) = pendOf (l.take k) + 1 by rw [HS.out, if_pos hn])
    generalize pendOf (l.take k) = m at *
    go_wp2
    go_roundw
    case rel => exact ⟨k + 1, by omega, by first | (go_num; done) | (go_num; omega), by rw [HE.out], hb.out.alloc hwr _⟩
    case measure => simp [intOf]; omega
   ·
    have HE := Lib.hid (show pendOf (l.take (k + 1)) = pendOf (l.take k) by rw [HS.out, if_neg hn]; omega)
    generalize pendOf (l.take k) = m at *
    go_wp2
    go_roundw
    case rel => exact ⟨k + 1, by omega, by first | (go_num; done) | (go_num; omega), by rw [HE.out], hb.out.alloc hwr _⟩
    case measure => simp [intOf]; omega
  ·
   have hk2 : l.take k = l := List.take_of_length_le (by omega)
   rw [hk2]
   clear hk2
   go_wp2
   go_ret
   exact ⟨rfl, hb.out⟩
end Go.Proofs.YtpehmmdbjakkpaaGreat
namespace Go.Proofs.YtpehmmdbjakkpaaGreat
open Go.RowKit
set_option maxHeartbeats 4000000 in
theorem refSame11_calls (w : World) (S : Nat → Prop) (r s : ResD) (p o i p' o' i' : Value) (h : Sl w S r p o i) (h' : Sl w S s p' o' i') : Calls Tryz.prog 75 #[.agg #[.int .i64 r.st, .int .i64 r.id, p, o, i], .agg #[.int .i64 s.st, .int .i64 s.id, p', o', i']] w fun e w' => e = .returned (.bool (decide (r = s))) ∧ Below w.heap.size w w' := by
 have hw : Below w.heap.size w ((w.alloc (.cells #[.int .i64 r.st, .int .i64 r.id, p, o, i] 50)).alloc (.cells #[.int .i64 s.st, .int .i64 s.id, p', o', i'] 50)) := ((Below.refl w.heap.size w).alloc (Nat.le_refl _) _).alloc (by simp) _
 have H := Lib.hid (h.below hw)
 have H' := Lib.hid (h'.below hw)
 have HW := Lib.hid hw
 obtain ⟨A1, c1, rfl⟩ := h.1.slice
 obtain ⟨A2, c2, rfl⟩ := h.2.1.slice
 obtain ⟨A3, c3, rfl⟩ := h.2.2.slice
 obtain ⟨B1, d1, rfl⟩ := h'.1.slice
 obtain ⟨B2, d2, rfl⟩ := h'.2.1.slice
 obtain ⟨B3, d3, rfl⟩ := h'.2.2.slice
 clear h h' hw
 by_cases e1 : r.st = s.st
 case neg =>
  have hd := Lib.hid (hres_ne (r := r) (s := s) (by rintro ⟨x, _⟩; exact e1 x))
  replace e1 : (r.st == s.st) = false := beq_eq_false_iff_ne.mpr e1
  go_enter Tryz.func75, Tryz.ntmps75
  go_wp2
  go_ret
  exact ⟨by rw [hd.out]; rfl, HW.out⟩
 by_cases e2 : r.id = s.id
 case neg =>
  have hd := Lib.hid (hres_ne (r := r) (s := s) (by rintro ⟨_, x, _⟩; exact e2 x))
  replace e2 : (r.id == s.id) = false := beq_eq_false_iff_ne.mpr e2
  replace e1 : (r.st == s.st) = true := beq_iff_eq.mpr e1
  go_enter Tryz.func75, Tryz.ntmps75
  go_wp2
  go_ret
  exact ⟨by rw [hd.out]; rfl, HW.out⟩
 have E1 := Lib.hid e1
 have E2 := Lib.hid e2
 replace e2 : (r.id == s.id) = true := beq_iff_eq.mpr e2
 replace e1 : (r.st == s.st) = true := beq_iff_eq.mpr e1
 go_enter Tryz.func75, Tryz.ntmps75
 go_wp2_with fail
 refine (samePairs_calls _ S _ _ _ _ H.out.1 H'.out.1).mono ?_
 rintro e w1 ⟨rfl, hb1⟩
 obtain ⟨hc1, hf1⟩ := bcell hb1
 have hsz1 := hb1.size
 have HA := Lib.hid (H.out.below hb1)
 have HA' := Lib.hid (H'.out.below hb1)
 have K1 := Lib.hid (HW.out.trans (hb1.mono (by simp; omega)))
 clear hb1
 simp only [World.size_alloc] at hsz1 hc1 hf1
 have g1 : w.heap.size < w1.heap.size := by omega
 have g2 : w.heap.size + 1 < w1.heap.size := by omega
 by_cases e3 : r.ps = s.ps
 case neg =>
  have hd := Lib.hid (hres_ne (r := r) (s := s) (by rintro ⟨_, _, x, _⟩; exact e3 x))
  rw [decide_eq_false e3]
  clear e3
  go_wp2
  go_ret
  exact ⟨by rw [hd.out]; rfl, K1.out⟩
 have E3 := Lib.hid e3
 rw [decide_eq_true e3]
 clear e3
 go_wp2_with fail
 refine (sameEnds_calls _ S _ _ _ _ HA.out.2.1 HA'.out.2.1).mono ?_
 rintro e w2 ⟨rfl, hb2⟩
 obtain ⟨hc2, hf2⟩ := bcell hb2
 have hsz2 := hb2.size
 have HB := Lib.hid (HA.out.below hb2)
 have HB' := Lib.hid (HA'.out.below hb2)
 have K2 := Lib.hid (K1.out.trans (hb2.mono (by omega)))
 clear hb2
 by_cases e4 : r.os = s.os
 case neg =>
  have hd := Lib.hid (hres_ne (r := r) (s := s) (by rintro ⟨_, _, _, x, _⟩; exact e4 x))
  rw [decide_eq_false e4]
  clear e4
  go_wp2
  go_ret
  exact ⟨by rw [hd.out]; rfl, K2.out⟩
 have E4 := Lib.hid e4
 rw [decide_eq_true e4]
 clear e4
 go_wp2_with fail
 refine (sameEnds_calls _ S _ _ _ _ HB.out.2.2 HB'.out.2.2).mono ?_
 rintro e w3 ⟨rfl, hb3⟩
 have K3 := Lib.hid (K2.out.trans (hb3.mono (by omega)))
 clear hb3
 by_cases e5 : r.is = s.is
 case neg =>
  have hd := Lib.hid (hres_ne (r := r) (s := s) (by rintro ⟨_, _, _, _, x⟩; exact e5 x))
  rw [decide_eq_false e5]
  clear e5
  go_wp2
  go_ret
  exact ⟨by rw [hd.out]; rfl, K3.out⟩
 have hd := Lib.hid (hres_eq (r := r) (s := s) ⟨E1.out, E2.out, E3.out, E4.out, e5⟩)
 rw [decide_eq_true e5]
 clear e5
 go_wp2
 go_ret
 exact ⟨by rw [hd.out]; rfl, K3.out⟩
set_option maxRecDepth 100000 in
set_option maxHeartbeats 2000000 in
theorem refBefore_calls (w : World) (a b : CallD) (p1 p2 p3 q1 q2 q3 : Value) : Calls Tryz.prog 41 #[.agg #[.int .i64 a.th, .int .i64 a.op.k, .int .i64 a.op.a, .int .i64 a.op.b, .int .i64 a.op.p, .int .i64 a.op.v, .int .i64 a.frm, .int .i64 a.to, .int .i64 a.res.st, .int .i64 a.res.id, p1, p2, p3], .agg #[.int .i64 b.th, .int .i64 b.op.k, .int .i64 b.op.a, .int .i64 b.op.b, .int .i64 b.op.p, .int .i64 b.op.v, .int .i64 b.frm, .int .i64 b.to, .int .i64 b.res.st, .int .i64 b.res.id, q1, q2, q3]] w fun e w' => e = .returned (.bool (beforeB a b)) ∧ Below w.heap.size w w' := by
 have hw : ∀ o1 o2, Below w.heap.size w ((w.alloc o1).alloc o2) := fun o1 o2 => ((Below.refl w.heap.size w).alloc (Nat.le_refl _) _).alloc (by simp) _
 have HW := Lib.hid hw
 clear hw
 by_cases h : 0 ≤ a.to
 ·
  have e : beforeB a b = decide (a.to < b.frm) := by simp [beforeB, h]
  rw [e]
  clear e
  go_enter Tryz.func41, Tryz.ntmps41
  go_wp2
  all_goals (go_ret; exact ⟨by first | rfl | simp_all, HW.out _ _⟩)
 ·
  have e : beforeB a b = false := by simp [beforeB, h]
  rw [e]
  clear e
  go_enter Tryz.func41, Tryz.ntmps41
  go_wp2
  all_goals (go_ret; exact ⟨by first | rfl | simp_all, HW.out _ _⟩)
end Go.Proofs.YtpehmmdbjakkpaaGreat
namespace Go.Proofs.YtpehmmdbjakkpaaGreat
open Go.RowKit
theorem step_cases {k : Nat} {x : EvD} {s s' : St} (h : step k x s = some s') : 0 ≤ x.th ∧ x.th < 64 ∧ ((x.done = false ∧ s.opn x.th = none ∧ x.res = ResD.nil ∧ s' = ⟨s.out ++ [⟨x.th, x.op, k, -1, ResD.nil⟩], upd s.opn x.th (some s.out.length)⟩) ∨ (x.done = true ∧ ∃ p c, s.opn x.th = some p ∧ s.out[p]? = some c ∧ c.op = x.op ∧ s' = ⟨s.out.set p ⟨c.th, c.op, c.frm, k, x.res⟩, upd s.opn x.th none⟩)) := by
 unfold step at h
 split at h
 ·
  cases h
 ·
  rename_i hg
  have h1 : ¬ x.th < 0 := fun e => hg (.inl e)
  have h2 : ¬ 64 ≤ x.th := fun e => hg (.inr (.inl e))
  refine ⟨by omega, by omega, ?_⟩
  split at h
  ·
   rename_i hd
   split at h
   ·
    rename_i hr
    injection h with h
    refine .inl ⟨hd, ?_, hr, h.symm⟩
    cases ho : s.opn x.th with
    | none => rfl
    | some q => exact absurd (.inr (.inr (by rw [ho, hd]; simp))) hg
   ·
    cases h
  ·
   rename_i hd
   split at h
   ·
    cases h
   ·
    rename_i p hp
    split at h
    ·
     cases h
    ·
     rename_i c hc
     split at h
     ·
      rename_i ho
      injection h with h
      exact .inr ⟨by simpa using hd, p, c, hp, hc, ho, h.symm⟩
     ·
      cases h
def hit (e : Nat) (c : CallD) : Nat := (if c.frm = (e : Int) then 1 else 0) + (if c.to = (e : Int) then 1 else 0)
def cnt (l : List CallD) (e : Nat) : Nat := (l.map (hit e)).sum
theorem cnt_snoc (l : List CallD) (c : CallD) (e : Nat) : cnt (l ++ [c]) e = cnt l e + hit e c := by simp [cnt]
theorem cnt_set (e : Nat) (y : CallD) : ∀ (l : List CallD) (p : Nat) (c : CallD), l[p]? = some c → cnt (l.set p y) e + hit e c = cnt l e + hit e y := by
 intro l
 induction l with
 | nil => intro p c h; simp at h
 | cons z l ih =>
  intro p c h
  cases p with
  | zero =>
   simp at h
   subst h
   simp [cnt]
   omega
  | succ p =>
   have h : l[p]? = some c := by simpa using h
   have := ih p c h
   simp [cnt] at this ⊢
   omega
def pn (l : List CallD) : Nat := (l.map fun c => if c.to < 0 then 1 else 0).sum
theorem pn_set (y : CallD) : ∀ (l : List CallD) (p : Nat) (c : CallD), l[p]? = some c → pn (l.set p y) + (if c.to < 0 then 1 else 0) = pn l + (if y.to < 0 then 1 else 0) := by
 intro l
 induction l with
 | nil => intro p c h; simp at h
 | cons z l ih =>
  intro p c h
  cases p with
  | zero =>
   simp at h
   subst h
   simp [pn]
   omega
  | succ p =>
   have h : l[p]? = some c := by simpa using h
   have := ih p c h
   simp [pn] at this ⊢
   omega
structure Ev (l : List EvD) (k : Nat) (s : St) : Prop where
 inv : s.Inv k
 blank : s.blank
 frm : ∀ (i : Nat) (c : CallD), s.out[i]? = some c → ∃ x, l[c.frm.toNat]? = some x ∧ x.done = false ∧ x.op = c.op ∧ x.th = c.th
 to : ∀ (i : Nat) (c : CallD), s.out[i]? = some c → 0 ≤ c.to → ∃ y, l[c.to.toNat]? = some y ∧ y.done = true ∧ y.th = c.th ∧ y.res = c.res
 met : ∀ e : Nat, cnt s.out e = if e < k then 1 else 0
 len : k + pn s.out = 2 * s.out.length
end Go.Proofs.YtpehmmdbjakkpaaGreat
namespace Go.Proofs.YtpehmmdbjakkpaaGreat
open Go.RowKit
theorem Ev.step {l : List EvD} {k : Nat} {x : EvD} {s s' : St} (hx : l[k]? = some x) (h : Ev l k s) (hs : step k x s = some s') : Ev l (k + 1) s' := by
 have hi := step_inv hs h.inv
 have hb := step_blank hs h.blank
 obtain ⟨_, _, ⟨hd, ho, hr, rfl⟩ | ⟨hd, p, c, hp, hc, ho, rfl⟩⟩ := step_cases hs
 ·
  refine ⟨hi, hb, ?_, ?_, ?_, ?_⟩
  ·
   intro i c hc
   rcases at_append hc with hc | ⟨_, rfl⟩
   ·
    exact h.frm i c hc
   ·
    exact ⟨x, by simpa using hx, hd, rfl, rfl⟩
  ·
   intro i c hc hto
   rcases at_append hc with hc | ⟨_, rfl⟩
   ·
    exact h.to i c hc hto
   ·
    simp at hto
  ·
   intro e
   show cnt (s.out ++ _) e = _
   rw [cnt_snoc, h.met e]
   simp only [hit]
   rw [if_neg (show ¬ ((-1 : Int) = (e : Int)) by omega)]
   by_cases h1 : e < k
   ·
    rw [if_pos h1, if_neg (by omega), if_pos (by omega)]
   ·
    rw [if_neg h1]
    by_cases h2 : e = k
    ·
     rw [if_pos (by omega), if_pos (by omega)]
    ·
     rw [if_neg (by omega), if_neg (by omega)]
  ·
   have := h.len
   simp [pn] at this ⊢
   omega
 ·
  obtain ⟨c', hc', hth, hto⟩ := h.inv.open_ x.th p hp
  rw [hc] at hc'
  injection hc' with hc'
  subst hc'
  have hto1 := (h.blank p c hc hto).1
  refine ⟨hi, hb, ?_, ?_, ?_, ?_⟩
  ·
   intro i d hd1
   rcases at_set hd1 with ⟨_, hd1⟩ | ⟨_, rfl⟩
   ·
    exact h.frm i d hd1
   ·
    exact h.frm p c hc
  ·
   intro i d hd1 hdt
   rcases at_set hd1 with ⟨_, hd1⟩ | ⟨_, rfl⟩
   ·
    exact h.to i d hd1 hdt
   ·
    exact ⟨x, by simpa using hx, hd, hth.symm, rfl⟩
  ·
   intro e
   show cnt (s.out.set _ _) e = _
   have h1 := cnt_set e ⟨c.th, c.op, c.frm, k, x.res⟩ s.out p c hc
   have h2 := h.met e
   simp only [hit] at h1
   rw [h2, hto1, if_neg (show ¬ ((-1 : Int) = (e : Int)) by omega)] at h1
   by_cases h3 : e < k
   ·
    rw [if_pos h3, if_neg (show ¬ ((k : Int) = (e : Int)) by omega)] at h1
    rw [if_pos (by omega)]
    omega
   ·
    rw [if_neg h3] at h1
    by_cases h4 : e = k
    ·
     rw [if_pos (show ((k : Int) = (e : Int)) by omega)] at h1
     rw [if_pos (by omega)]
     omega
    ·
     rw [if_neg (show ¬ ((k : Int) = (e : Int)) by omega)] at h1
     rw [if_neg (by omega)]
     omega
  ·
   have h1 := pn_set ⟨c.th, c.op, c.frm, k, x.res⟩ s.out p c hc
   rw [if_pos hto, if_neg (by simp only; omega)] at h1
   have := h.len
   simp only [List.length_set]
   omega
def cntT (l : List EvD) (q : Int) : Nat := (l.filter fun y => decide (y.th = q)).length
theorem cntT_succ {l : List EvD} {k : Nat} {x : EvD} (h : l[k]? = some x) (q : Int) : cntT (l.take (k + 1)) q = cntT (l.take k) q + (if x.th = q then 1 else 0) := by
 unfold cntT
 rw [List.take_add_one, h, Option.toList_some, List.filter_append, List.length_append]
 by_cases hq : x.th = q
 ·
  simp [hq]
 ·
  simp [hq]
def IsNext (l : List EvD) (q : Int) (i : Nat) (r : Int) : Prop := (r = -1 ∧ ∀ (m : Nat) (y : EvD), i < m → l[m]? = some y → y.th ≠ q) ∨ (∃ (k : Nat) (y : EvD), r = (k : Int) ∧ i < k ∧ l[k]? = some y ∧ y.th = q ∧ ∀ (m : Nat) (z : EvD), i < m → m < k → l[m]? = some z → z.th ≠ q)
theorem IsNext.uniq {l : List EvD} {q : Int} {i : Nat} {r r' : Int} (h : IsNext l q i r) (h' : IsNext l q i r') : r = r' := by
 rcases h with ⟨rfl, h1⟩ | ⟨k, y, rfl, h1, h2, h3, h4⟩
 ·
  rcases h' with ⟨rfl, _⟩ | ⟨k', y', rfl, h1', h2', h3', h4'⟩
  ·
   rfl
  ·
   exact absurd h3' (h1 k' y' h1' h2')
 ·
  rcases h' with ⟨rfl, h1'⟩ | ⟨k', y', rfl, h1', h2', h3', h4'⟩
  ·
   exact absurd h3 (h1' k y h1 h2)
  ·
   rcases Nat.lt_trichotomy k k' with hk | rfl | hk
   ·
    exact absurd h3 (h4' k y h1 hk h2)
   ·
    rfl
   ·
    exact absurd h3' (h4 k' y' h1' hk h2')
def RefAt (l : List EvD) (i : Nat) (x : EvD) : Prop := 0 ≤ x.th ∧ x.th ≤ 63 ∧ x.done = decide (cntT (l.take i) x.th % 2 = 1) ∧ (x.done = false → x.res = ResD.nil) ∧ (x.done = false → ∀ (k : Nat) (y : EvD), IsNext l x.th i (k : Int) → l[k]? = some y → y.op = x.op)
def RefOK (l : List EvD) : Prop := ∀ (i : Nat) (x : EvD), l[i]? = some x → RefAt l i x
def notDone (l : List EvD) (i : Nat) : Bool := match l[i]? with
 | some x => !x.done
 | none => false
def frmsOf (l : List EvD) (k : Nat) : List Int := ((List.range k).filter (notDone l)).map (fun i : Nat => (i : Int))
theorem frmsOf_succ {l : List EvD} {k : Nat} {x : EvD} (h : l[k]? = some x) : frmsOf l (k + 1) = frmsOf l k ++ (if x.done = false then [(k : Int)] else []) := by
 unfold frmsOf
 rw [List.range_succ, List.filter_append, List.map_append]
 have : notDone l k = !x.done := by unfold notDone; rw [h]
 cases hd : x.done <;> simp [List.filter, this, hd]
structure RI (l : List EvD) (k : Nat) (s : St) : Prop where
 ev : Ev l k s
 par : ∀ q, (s.opn q).isSome = decide (cntT (l.take k) q % 2 = 1)
 nx : ∀ (i : Nat) (c : CallD), s.out[i]? = some c → ∀ (m : Nat) (y : EvD), c.frm.toNat < m → (0 ≤ c.to → m < c.to.toNat) → m < k → l[m]? = some y → y.th ≠ c.th
 frms : s.out.map (fun c => c.frm) = frmsOf l k
 opok : ∀ (i : Nat) (c : CallD), s.out[i]? = some c → 0 ≤ c.to → ∃ y, l[c.to.toNat]? = some y ∧ y.op = c.op
 chk : ∀ (i : Nat) (x : EvD), i < k → l[i]? = some x → 0 ≤ x.th ∧ x.th ≤ 63 ∧ x.done = decide (cntT (l.take i) x.th % 2 = 1) ∧ (x.done = false → x.res = ResD.nil)
theorem map_set_same {α β : Type} (f : α → β) (y : α) : ∀ (xs : List α) (p : Nat) (c : α), xs[p]? = some c → f y = f c → (xs.set p y).map f = xs.map f := by
 intro xs
 induction xs with
 | nil => intro p c h; simp at h
 | cons z xs ih =>
  intro p c h hf
  cases p with
  | zero => simp at h; subst h; simp [hf]
  | succ p =>
   have h : xs[p]? = some c := by simpa using h
   have := ih p c h hf
   simp [this]
theorem RI.zero (l : List EvD) : RI l 0 St.zero := ⟨⟨Inv.zero, fun i c h => by simp [St.zero] at h, fun i c h => by simp [St.zero] at h, fun i c h => by simp [St.zero] at h, fun e => by simp [St.zero, cnt], by simp [St.zero, pn]⟩, fun q => by simp [St.zero, cntT], fun i c h => by simp [St.zero] at h, rfl, fun i c h => by simp [St.zero] at h, fun i x h => by omega⟩
theorem RI.step {l : List EvD} {k : Nat} {x : EvD} {s s' : St} (hx : l[k]? = some x) (h : RI l k s) (hs : step k x s = some s') (hev : Ev l (k + 1) s') : RI l (k + 1) s' := by
 obtain ⟨t1, t2, hc⟩ := step_cases hs
 have hchk : x.done = decide (cntT (l.take k) x.th % 2 = 1) ∧ (x.done = false → x.res = ResD.nil) := by
  rcases hc with ⟨hd, ho, hr, _⟩ | ⟨hd, p, c, hp, _⟩
  ·
   have := h.par x.th
   rw [ho] at this
   exact ⟨by rw [hd]; exact this, fun _ => hr⟩
  ·
   have := h.par x.th
   rw [hp] at this
   exact ⟨by rw [hd]; exact this, fun e => by rw [hd] at e; cases e⟩
 have CH : ∀ (i : Nat) (z : EvD), i < k + 1 → l[i]? = some z → 0 ≤ z.th ∧ z.th ≤ 63 ∧ z.done = decide (cntT (l.take i) z.th % 2 = 1) ∧ (z.done = false → z.res = ResD.nil) := by
  intro i z hi hz
  rcases Nat.lt_or_ge i k with h1 | h1
  ·
   exact h.chk i z h1 hz
  ·
   obtain rfl : i = k := by omega
   rw [hx] at hz
   injection hz with hz
   subst hz
   exact ⟨t1, by omega, hchk⟩
 rcases hc with ⟨hd, ho, hr, rfl⟩ | ⟨hd, p, c, hp, hc, hop, rfl⟩
 ·
  refine ⟨hev, ?_, ?_, ?_, ?_, CH⟩
  ·
   intro q
   rw [cntT_succ hx]
   have h1 := h.par q
   by_cases hq : x.th = q
   ·
    subst hq
    rw [ho] at h1
    have h2 : ¬ (cntT (l.take k) x.th % 2 = 1) := fun e => by rw [decide_eq_true e] at h1; cases h1
    rw [if_pos rfl]
    simp only [upd]
    rw [decide_eq_true (by omega)]
    simp
   ·
    rw [if_neg hq]
    simp only [upd]
    rw [if_neg (fun e => hq e.symm)]
    exact h1
  ·
   intro i c hc m y hm hmt hmk hy
   rcases at_append hc with hc2 | ⟨_, rfl⟩
   ·
    rcases Nat.lt_or_ge m k with h1 | h1
    ·
     exact h.nx i c hc2 m y hm hmt h1 hy
    ·
     obtain rfl : m = k := by omega
     rw [hx] at hy
     injection hy with hy
     subst hy
     intro e
     have he := h.ev.inv.each i c hc2
     by_cases hto : 0 ≤ c.to
     ·
      have := hmt hto
      omega
     ·
      have := h.ev.inv.opened i c hc2 (by omega)
      rw [← e, ho] at this
      cases this
   ·
    have : k < m := by simpa using hm
    omega
  ·
   rw [frmsOf_succ hx, if_pos hd, List.map_append, h.frms]
   rfl
  ·
   intro i c hc hto
   rcases at_append hc with hc | ⟨_, rfl⟩
   ·
    exact h.opok i c hc hto
   ·
    simp at hto
 ·
  obtain ⟨c', hc', hth, hto⟩ := h.ev.inv.open_ x.th p hp
  rw [hc] at hc'
  injection hc' with hc'
  subst hc'
  refine ⟨hev, ?_, ?_, ?_, ?_, CH⟩
  ·
   intro q
   rw [cntT_succ hx]
   have h1 := h.par q
   by_cases hq : x.th = q
   ·
    subst hq
    rw [hp] at h1
    have h2 : cntT (l.take k) x.th % 2 = 1 := of_decide_eq_true h1.symm
    rw [if_pos rfl]
    simp only [upd]
    rw [decide_eq_false (by omega)]
    simp
   ·
    rw [if_neg hq]
    simp only [upd]
    rw [if_neg (fun e => hq e.symm)]
    exact h1
  ·
   intro i d hd1 m y hm hmt hmk hy
   rcases at_set hd1 with ⟨hip, hd2⟩ | ⟨_, rfl⟩
   ·
    rcases Nat.lt_or_ge m k with h1 | h1
    ·
     exact h.nx i d hd2 m y hm hmt h1 hy
    ·
     obtain rfl : m = k := by omega
     rw [hx] at hy
     injection hy with hy
     subst hy
     intro e
     have he := h.ev.inv.each i d hd2
     by_cases hto2 : 0 ≤ d.to
     ·
      have := hmt hto2
      omega
     ·
      have := h.ev.inv.opened i d hd2 (by omega)
      rw [← e, hp] at this
      injection this with this
      omega
   ·
    have h1 := hmt (by simp only; omega)
    simp only [Int.toNat_natCast] at h1
    exact h.nx p c hc m y hm (fun e => by omega) h1 hy
  ·
   rw [frmsOf_succ hx, if_neg (by rw [hd]; simp), List.append_nil, ← h.frms]
   exact map_set_same _ _ _ p c hc rfl
  ·
   intro i d hd1 hdt
   rcases at_set hd1 with ⟨_, hd1⟩ | ⟨_, rfl⟩
   ·
    exact h.opok i d hd1 hdt
   ·
    exact ⟨x, by simpa using hx, hop.symm⟩
theorem runL_pre {l : List EvD} {P : Nat → St → Prop} (h0 : P 0 St.zero) (hs : ∀ (k : Nat) (x : EvD) (s s' : St), l[k]? = some x → P k s → step k x s = some s' → P (k + 1) s') : ∀ (k : Nat) (s : St), k ≤ l.length → runL (l.take k) = some s → P k s := by
 intro k
 induction k with
 | zero => intro s _ hr; rw [List.take_zero] at hr; injection hr with hr; subst hr; exact h0
 | succ k ih =>
  intro s hk hr
  obtain ⟨x, hx⟩ : ∃ x, l[k]? = some x := ⟨l[k], List.getElem?_eq_getElem (by omega)⟩
  rw [runL_succ hx] at hr
  cases h1 : runL (l.take k) with
  | none => rw [h1] at hr; cases hr
  | some s0 =>
   rw [h1] at hr
   exact hs k x s0 s hx (ih s0 (by omega) h1) hr
theorem runL_ri {l : List EvD} (k : Nat) (s : St) (hk : k ≤ l.length) (h : runL (l.take k) = some s) : RI l k s :=
 runL_pre (P := fun k s => RI l k s) (RI.zero l) (fun k x s s' hx h hs => h.step hx hs (Ev.step hx h.ev hs)) k s hk h
theorem ri_of {l : List EvD} {t : St} (h : runL l = some t) : RI l l.length t := runL_ri l.length t (Nat.le_refl _) (by rw [List.take_length]; exact h)
theorem mem_frms {l : List EvD} {i : Nat} {x : EvD} (hi : l[i]? = some x) (hd : x.done = false) : (i : Int) ∈ frmsOf l l.length := by
 have hl : i < l.length := (List.getElem?_eq_some_iff.1 hi).1
 unfold frmsOf
 refine List.mem_map.2 ⟨i, List.mem_filter.2 ⟨List.mem_range.2 hl, ?_⟩, rfl⟩
 unfold notDone
 rw [hi]
 simp [hd]
theorem RI.next {l : List EvD} {t : St} (h : RI l l.length t) {i : Nat} {c : CallD} (hc : t.out[i]? = some c) : IsNext l c.th c.frm.toNat c.to := by
 have he := h.ev.inv.each i c hc
 by_cases hto : 0 ≤ c.to
 ·
  obtain ⟨y, hy, _, hyt, _⟩ := h.ev.to i c hc hto
  exact .inr ⟨c.to.toNat, y, by omega, by have := he.2.2.2 hto; omega, hy, hyt, fun m z h1 h2 hz => h.nx i c hc m z h1 (fun _ => h2) (List.getElem?_eq_some_iff.1 hz).1 hz⟩
 ·
  exact .inl ⟨(h.ev.blank i c hc (by omega)).1, fun m y h1 hy => h.nx i c hc m y h1 (fun e => absurd e hto) (List.getElem?_eq_some_iff.1 hy).1 hy⟩
theorem ok_of_run {l : List EvD} {t : St} (h : runL l = some t) : RefOK l := by
 have H := ri_of h
 intro i x hx
 have hl : i < l.length := (List.getElem?_eq_some_iff.1 hx).1
 obtain ⟨h1, h2, h3, h4⟩ := H.chk i x hl hx
 refine ⟨h1, h2, h3, h4, fun hd k y hn hy => ?_⟩
 have hm := mem_frms hx hd
 rw [← H.frms] at hm
 obtain ⟨c, hcm, hcf⟩ := List.mem_map.1 hm
 obtain ⟨j, hc⟩ := List.mem_iff_getElem?.1 hcm
 obtain ⟨x', hx', _, hxo, hxt⟩ := H.ev.frm j c hc
 have e1 : c.frm.toNat = i := by omega
 rw [e1, hx] at hx'
 injection hx' with hx'
 subst hx'
 have hn2 := H.next hc
 rw [e1, ← hxt] at hn2
 have e2 := hn.uniq hn2
 obtain ⟨y', hy', hyo⟩ := H.opok j c hc (by omega)
 rw [← e2, Int.toNat_natCast, hy] at hy'
 injection hy' with hy'
 subst hy'
 rw [hyo, hxo]
theorem run_of_ok {l : List EvD} (h : RefOK l) : ∃ t, runL l = some t := by
 have H : ∀ k, k ≤ l.length → ∃ s, runL (l.take k) = some s := by
  intro k
  induction k with
  | zero => intro _; exact ⟨St.zero, by rw [List.take_zero]; rfl⟩
  | succ k ih =>
   intro hk
   obtain ⟨s, hs⟩ := ih (by omega)
   have R := runL_ri k s (by omega) hs
   obtain ⟨x, hx⟩ : ∃ x, l[k]? = some x := ⟨l[k], List.getElem?_eq_getElem (by omega)⟩
   obtain ⟨h1, h2, h3, h4, h5⟩ := h k x hx
   rw [runL_succ hx, hs]
   show ∃ s', step k x s = some s'
   have hp := R.par x.th
   rw [← h3] at hp
   have hg : ¬ (x.th < 0 ∨ 64 ≤ x.th ∨ (s.opn x.th).isSome ≠ x.done) := by
    rintro (e | e | e)
    ·
     omega
    ·
     omega
    ·
     exact e hp
   cases hd : x.done with
   | false => exact ⟨_, step_new hg hd (h4 hd)⟩
   | true =>
    rw [hd] at hp
    obtain ⟨p, hp⟩ := Option.isSome_iff_exists.1 hp
    obtain ⟨c, hc, hct, hto⟩ := R.ev.inv.open_ x.th p hp
    obtain ⟨x0, hx0, hd0, ho0, ht0⟩ := R.ev.frm p c hc
    have he := R.ev.inv.each p c hc
    have hn : IsNext l x0.th c.frm.toNat (k : Int) := .inr ⟨k, x, rfl, by omega, hx, by rw [ht0, hct], fun m z h1 h2 hz => by rw [ht0]; exact R.nx p c hc m z h1 (fun e => by omega) h2 hz⟩
    have := (h _ x0 hx0).2.2.2.2 hd0 k x hn hx
    exact ⟨_, step_done hg hd hp hc (by rw [this, ho0])⟩
 obtain ⟨s, hs⟩ := H l.length (Nat.le_refl _)
 rw [List.take_length] at hs
 exact ⟨s, hs⟩
def RCall (l : List EvD) (c : CallD) : Prop := 0 ≤ c.frm ∧ ∃ x, l[c.frm.toNat]? = some x ∧ c.th = x.th ∧ c.op = x.op ∧ IsNext l x.th c.frm.toNat c.to ∧ (c.to < 0 → c.res = ResD.nil) ∧ (0 ≤ c.to → ∃ y, l[c.to.toNat]? = some y ∧ c.res = y.res)
theorem RCall.uniq {l : List EvD} {c d : CallD} (h : RCall l c) (h' : RCall l d) (e : c.frm = d.frm) : c = d := by
 obtain ⟨h0, x, hx, h1, h2, h3, h4, h5⟩ := h
 obtain ⟨h0', x', hx', h1', h2', h3', h4', h5'⟩ := h'
 rw [← e, hx] at hx'
 injection hx' with hx'
 subst hx'
 rw [← e] at h3'
 have e2 := h3.uniq h3'
 have e3 : c.res = d.res := by
  by_cases hto : 0 ≤ c.to
  ·
   obtain ⟨y, hy, hr⟩ := h5 hto
   obtain ⟨y', hy', hr'⟩ := h5' (by omega)
   rw [← e2, hy] at hy'
   injection hy' with hy'
   subst hy'
   rw [hr, hr']
  ·
   rw [h4 (by omega), h4' (by omega)]
 obtain ⟨a1, a2, a3, a4, a5⟩ := c
 obtain ⟨b1, b2, b3, b4, b5⟩ := d
 simp only at *
 subst e e2 e3 h1 h2 h1' h2'
 rfl
theorem calls12_eq {l : List EvD} {t : St} (h : runL l = some t) {rs : List CallD} (hf : rs.map (fun c => c.frm) = frmsOf l l.length) (hr : ∀ (i : Nat) (c : CallD), rs[i]? = some c → RCall l c) : t.out = rs := by
 have H := ri_of h
 have hm := H.frms.trans hf.symm
 refine List.ext_getElem? fun i => ?_
 have hmi : (t.out.map (fun c => c.frm))[i]? = (rs.map (fun c => c.frm))[i]? := by rw [hm]
 rw [List.getElem?_map, List.getElem?_map] at hmi
 cases h1 : t.out[i]? with
 | none =>
  rw [h1] at hmi
  cases h2 : rs[i]? with
  | none => rfl
  | some d => rw [h2] at hmi; cases hmi
 | some c =>
  rw [h1] at hmi
  cases h2 : rs[i]? with
  | none => rw [h2] at hmi; cases hmi
  | some d =>
   rw [h2] at hmi
   have e : c.frm = d.frm := by injection hmi
   have hc : RCall l c := by
    obtain ⟨x, hx, hd, ho, ht⟩ := H.ev.frm i c h1
    have hn := H.next h1
    refine ⟨(H.ev.inv.each i c h1).1, x, hx, ht.symm, ho.symm, by rw [ht]; exact hn, fun e => (H.ev.blank i c h1 e).2, fun e => ?_⟩
    obtain ⟨y, hy, _, _, hyr⟩ := H.ev.to i c h1 e
    exact ⟨y, hy, hyr.symm⟩
   rw [hc.uniq (hr i d h2) e]
end Go.Proofs.YtpehmmdbjakkpaaGreat
namespace Go.Proofs.YtpehmmdbjakkpaaGreat
open Go.RowKit
set_option maxRecDepth 100000 in
set_option maxHeartbeats 2000000 in
theorem refNext12_calls (w : World) (S : Nat → Prop) (v : Value) (l : List EvD) (h : Row tEv w S v l) (hlen : l.length ≤ 1000000) {i : Nat} {x : EvD} (hi : l[i]? = some x) : Calls Tryz.prog 64 #[v, .int .i64 (i : Int)] w fun e w' => ∃ r : Int, e = .returned (.int .i64 r) ∧ IsNext l x.th i r ∧ Below w.heap.size w w' := by
 obtain ⟨A, c, rfl⟩ := h.slice
 have H := Lib.hid h
 have hil : i < l.length := (List.getElem?_eq_some_iff.1 hi).1
 have HI := Lib.hid hi
 clear h hi
 go_enter Tryz.func64, Tryz.ntmps64
 go_wp2
 go_loopw [5] (fun o wr => ∃ k : Nat, i < k ∧ k ≤ l.length ∧ o = .int .i64 (k : Int) ∧ Hid (∀ (m : Nat) (y : EvD), i < m → m < k → l[m]? = some y → y.th ≠ x.th) ∧ Hid (Below w.heap.size w wr)) (fun o _ => l.length - (intOf o).toNat)
 case atStart => exact ⟨i + 1, by omega, by omega, by first | (go_num; done) | (go_num; omega) | rfl, (fun m y h1 h2 => by omega), Below.refl _ _⟩
 case round =>
  obtain ⟨k, hik, hk, rfl, hno, hb⟩ := hrel
  have hwr := hb.out.size
  by_cases hlt : k < l.length
  ·
   obtain ⟨y, hy⟩ := getElem?_of_lt hlt
   obtain ⟨b, off, a1, d1, a2, d2, a3, d3, rfl, hbl, _, x0, x1, x2, x3, x4, x5, x6, x7, x8, x9, x10, x11⟩ := (H.out.below hb.out).atEvF HI.out
   obtain ⟨b', off', a1', d1', a2', d2', a3', d3', hA, _, _, y0, y1, y2, y3, y4, y5, y6, y7, y8, y9, y10, y11⟩ := (H.out.below hb.out).atEvF hy
   injection hA with hA
   injection hA with h1 h2
   subst h1 h2
   have HY := Lib.hid hy
   clear hy x1 x2 x3 x4 x5 x6 x7 x8 x9 x10 x11 y1 y2 y3 y4 y5 y6 y7 y8 y9 y10 y11
   go_wp2_with fail
   refine wp_region_schedK (fun _ => True) [(0, true), (1, true), (2, true), (3, true), (4, true), (5, true), (6, true), (7, true), (8, true), (9, true), (10, true)] (by kernel_rfl) (by kernel_rfl) (fun hS => ?_)
   have HS := Lib.hid hS
   clear hS
   repeat (refine sched_take (v := ?_) (by simp only [opT, opS, opZ]; rfl) (Or.inl ⟨by rfl, fun W hW => ?_⟩) HS.out ?_; rotate_left; (have hc := fun b o hb => hW.cell b o trivial hb; clear hW; go_simp; with_reducible rfl); simp only [Act.put, putT, putZ, putS])
   refine sched_done ?_
   by_cases hth : y.th = x.th
   ·
    have HT := Lib.hid hth
    replace hth : (y.th == x.th) = true := beq_iff_eq.mpr hth
    go_wp2
    go_ret
    exact ⟨_, rfl, .inr ⟨k, y, rfl, hik, HY.out, HT.out, hno.out⟩, hb.out.drew⟩
   ·
    have HT := Lib.hid hth
    replace hth : (y.th == x.th) = false := beq_eq_false_iff_ne.mpr hth
    go_wp2
    go_roundw
    case rel => exact ⟨k + 1, by omega, by omega, by first | (go_num; done) | (go_num; omega), Lib.hid (fun m z h1 h2 hz => by
     rcases Nat.lt_or_ge m k with h3 | h3
     ·
      exact hno.out m z h1 h3 hz
     ·
      obtain rfl : m = k := by omega
      rw [HY.out] at hz
      injection hz with hz
      subst hz
      exact HT.out), Lib.hid hb.out.drew⟩
    case measure => simp [intOf]; omega
  ·
   obtain rfl : k = l.length := by omega
   go_wp2
   go_ret
   exact ⟨_, rfl, .inl ⟨rfl, fun m y h1 hy => hno.out m y h1 (List.getElem?_eq_some_iff.1 hy).1 hy⟩, hb.out⟩
set_option maxRecDepth 100000 in
set_option maxHeartbeats 2000000 in
theorem refNth12_calls (w : World) (S : Nat → Prop) (v : Value) (l : List EvD) (h : Row tEv w S v l) (hlen : l.length ≤ 1000000) {i : Nat} {x : EvD} (hi : l[i]? = some x) : Calls Tryz.prog 104 #[v, .int .i64 (i : Int)] w fun e w' => e = .returned (.int .i64 (cntT (l.take i) x.th : Int)) ∧ Below w.heap.size w w' := by
 obtain ⟨A, c, rfl⟩ := h.slice
 have H := Lib.hid h
 have hil : i < l.length := (List.getElem?_eq_some_iff.1 hi).1
 have HI := Lib.hid hi
 obtain ⟨_, hcap, hcap2, _⟩ := H.out.n_eq
 unfold maxLen at hcap2
 clear h hi
 go_enter Tryz.func104, Tryz.ntmps104
 obtain ⟨b, off, _, _, _, _, _, _, rfl, _⟩ := H.out.atEvF HI.out
 go_wp2
 go_loopw [5, 12] (fun o p wr => ∃ k : Nat, k ≤ i ∧ p = .int .i64 (k : Int) ∧ o = .int .i64 (cntT (l.take k) x.th : Int) ∧ Hid (Below w.heap.size w wr)) (fun _ p _ => i - (intOf p).toNat)
 case atStart => exact ⟨0, by omega, rfl, rfl, Below.refl _ _⟩
 case round =>
  obtain ⟨k, hk, rfl, rfl, hb⟩ := hrel
  have hwr := hb.out.size
  by_cases hlt : k < i
  ·
   have hlt2 : k < l.length := by omega
   obtain ⟨y, hy⟩ := getElem?_of_lt hlt2
   obtain ⟨b', off', _, _, _, _, _, _, hA', hbl, _, x0, x1, x2, x3, x4, x5, x6, x7, x8, x9, x10, x11⟩ := (H.out.below hb.out).atEvF HI.out
   injection hA' with hA'
   injection hA' with h1 h2
   subst h1 h2
   obtain ⟨b', off', a1', d1', a2', d2', a3', d3', hA, _, _, y0, y1, y2, y3, y4, y5, y6, y7, y8, y9, y10, y11⟩ := (H.out.below hb.out).atEvF hy
   injection hA with hA
   injection hA with h1 h2
   subst h1 h2
   have hcs := cntT_succ hy x.th
   have hcl : cntT (l.take k) x.th ≤ k := by
    unfold cntT
    have h1 := List.length_filter_le (fun y : EvD => decide (y.th = x.th)) (l.take k)
    rw [List.length_take] at h1
    omega
   clear hy x1 x2 x3 x4 x5 x6 x7 x8 x9 x10 x11
   have g1 : wr.heap.size < wr.heap.size + 1 := by omega
   have g2 : b < wr.heap.size + 1 := by omega
   go_wp2_with fail
   refine wp_region_schedK (fun _ => True) [(0, true), (1, true), (2, true), (3, true), (4, true), (5, true), (6, true), (7, true)] (by kernel_rfl) (by kernel_rfl) (fun hS => ?_)
   have HS := Lib.hid hS
   clear hS
   repeat (refine sched_take (v := ?_) (by simp only [opT, opS, opZ]; rfl) (Or.inl ⟨by rfl, fun W hW => ?_⟩) HS.out ?_; rotate_left; (have hc := fun b o hb => hW.cell b o trivial hb; clear hW; go_simp; with_reducible rfl); simp only [Act.put, putT, putZ, putS])
   refine sched_done ?_
   by_cases hth : y.th = x.th
   ·
    rw [if_pos hth] at hcs
    have HCS := Lib.hid hcs
    replace hth : (y.th == x.th) = true := beq_iff_eq.mpr hth
    clear hcs
    generalize cntT (l.take k) x.th = n at *
    go_wp2
    go_roundw
    case rel => exact ⟨k + 1, by omega, by first | (go_num; done) | (go_num; omega), by rw [HCS.out]; first | (go_num; done) | (go_num; omega), Lib.hid ((hb.out.alloc (by omega) _).drew)⟩
    case measure => simp [intOf]; omega
   ·
    rw [if_neg hth] at hcs
    have HCS := Lib.hid hcs
    replace hth : (y.th == x.th) = false := beq_eq_false_iff_ne.mpr hth
    clear hcs
    generalize cntT (l.take k) x.th = n at *
    go_wp2
    go_roundw
    case rel => exact ⟨k + 1, by omega, by first | (go_num; done) | (go_num; omega), by rw [HCS.out]; rfl, Lib.hid ((hb.out.alloc (by omega) _).drew)⟩
    case measure => simp [intOf]; omega
  ·
   obtain rfl : k = i := by omega
   go_wp2
   go_ret
   exact ⟨rfl, hb.out⟩
end Go.Proofs.YtpehmmdbjakkpaaGreat
namespace Go.Proofs.YtpehmmdbjakkpaaGreat
open Go.RowKit
theorem err_bad {l : List EvD} {k : Nat} {x : EvD} (hx : l[k]? = some x) (h : ¬ RefAt l k x) : errOf (runL l) = 1 := by
 cases hr : runL l with
 | none => rfl
 | some t => exact absurd (ok_of_run hr k x hx) h
theorem err_ok {l : List EvD} (h : RefOK l) : errOf (runL l) = 0 := by
 obtain ⟨t, ht⟩ := run_of_ok h
 rw [ht]
 rfl
set_option maxRecDepth 100000 in
set_option maxHeartbeats 8000000 in
theorem refCheck12_calls (w : World) (S : Nat → Prop) (v : Value) (l : List EvD) (h : Row tEv w S v l) (hlen : l.length ≤ 1000000) (okl : ∀ x ∈ l, okI x.th) : Calls Tryz.prog 63 #[v] w fun e w' => e = .returned (.int .i64 (errOf (runL l))) ∧ Below w.heap.size w w' := by
 obtain ⟨A, c, rfl⟩ := h.slice
 have H := Lib.hid h
 have OK := Lib.hid okl
 clear h okl
 go_enter Tryz.func63, Tryz.ntmps63
 go_wp2
 go_loopw [8] (fun p wr => ∃ k : Nat, k ≤ l.length ∧ p = .int .i64 (k : Int) ∧ Hid (∀ (i : Nat) (x : EvD), i < k → l[i]? = some x → RefAt l i x) ∧ Hid (Below w.heap.size w wr)) (fun p _ => l.length - (intOf p).toNat)
 case atStart => exact ⟨0, by omega, rfl, (fun i x h => by omega), Below.refl _ _⟩
 case round =>
  obtain ⟨wa, rfl⟩ : ∃ wa, wa = wr := ⟨wr, rfl⟩
  obtain ⟨k, hk, rfl, hall, hb⟩ := hrel
  have hwr := hb.out.size
  by_cases hlt : k < l.length
  case neg =>
   obtain rfl : k = l.length := by omega
   have he := err_ok (fun i x hx => hall.out i x (List.getElem?_eq_some_iff.1 hx).1 hx)
   go_wp2
   go_ret
   exact ⟨by rw [he]; rfl, hb.out⟩
  obtain ⟨x, hx⟩ := getElem?_of_lt hlt
  obtain ⟨xth, xdn, xop, xres⟩ := x
  obtain ⟨b, off, a1, d1, a2, d2, a3, d3, rfl, hbl, hs1, x0, x1, x2, x3, x4, x5, x6, x7, x8, x9, x10, x11⟩ := (H.out.below hb.out).atEvF hx
  have HX := Lib.hid hx
  have HS1 := Lib.hid hs1
  obtain ⟨o1, o2⟩ := OK.out _ (List.mem_of_getElem? hx)
  clear hs1
  simp only at x0 x1 x2 x3 x4 x5 x6 x7 x8 x9 x10 x11 o1 o2
  have g1 : wa.heap.size < wa.heap.size + 1 := by omega
  have g2 : b < wa.heap.size + 1 := by omega
  have KB := Lib.hid ((Below.refl wa.heap.size wa).alloc (Nat.le_refl _) (.cells #[.int .i64 xth, .bool xdn, .int .i64 xop.k, .int .i64 xop.a, .int .i64 xop.b, .int .i64 xop.p, .int .i64 xop.v, .int .i64 xres.st, .int .i64 xres.id, .slice a1 xres.ps.length d1, .slice a2 xres.os.length d2, .slice a3 xres.is.length d3] 52)).drew
  have K1 := Lib.hid (hb.out.trans (KB.out.mono hwr))
  by_cases h1 : xth < 0
  ·
   have he := err_bad hx (fun h => by have h3 : 0 ≤ xth := h.1; omega)
   clear hx
   go_wp2_with fail
   refine wp_region_schedK (fun _ => True) [(0, true), (1, true), (2, true), (3, true), (4, true), (5, true), (6, true), (7, true), (8, true), (9, true), (10, true), (11, true), (12, true), (13, false), (14, true), (15, true), (16, true), (17, true)] (by kernel_rfl) (by kernel_rfl) (fun hS => ?_)
   have HS := Lib.hid hS
   clear hS
   repeat (first | (refine sched_take (v := ?_) (by simp only [opT, opS, opZ]; rfl) (Or.inl ⟨by rfl, fun W hW => ?_⟩) HS.out ?_; rotate_left; (have hc := fun b o hb => hW.cell b o trivial hb; clear hW; go_simp; with_reducible rfl); simp only [Act.put, putT, putZ, putS]) | (refine sched_take (by simp only [opT, opS, opZ]; rfl) (Or.inr ⟨by rfl, rfl⟩) HS.out ?_; simp only [Act.put, putT, putZ, putS]))
   refine sched_step (by simp only [opT, opS, opZ]; rfl) ?_
   go_wp2_with fail
   refine sched_on HS.out ?_
   repeat (first | (refine sched_take (v := ?_) (by simp only [opT, opS, opZ]; rfl) (Or.inl ⟨by rfl, fun W hW => ?_⟩) HS.out ?_; rotate_left; (have hc := fun b o hb => hW.cell b o trivial hb; clear hW; go_simp; with_reducible rfl); simp only [Act.put, putT, putZ, putS]) | (refine sched_take (by simp only [opT, opS, opZ]; rfl) (Or.inr ⟨by rfl, rfl⟩) HS.out ?_; simp only [Act.put, putT, putZ, putS]))
   refine sched_done ?_
   go_wp2
   go_ret
   exact ⟨by rw [he]; rfl, K1.out⟩
  by_cases h2 : 63 < xth
  ·
   have he := err_bad hx (fun h => by have h3 : xth ≤ 63 := h.2.1; omega)
   clear hx
   go_wp2_with fail
   refine wp_region_schedK (fun _ => True) [(0, true), (1, true), (2, true), (3, true), (4, true), (5, true), (6, true), (7, true), (8, true), (9, true), (10, true), (11, true), (12, true), (13, false), (14, true), (15, true), (16, true), (17, true)] (by kernel_rfl) (by kernel_rfl) (fun hS => ?_)
   have HS := Lib.hid hS
   have hd1 : decide (xth < 0) = false := decide_eq_false (by omega)
   clear hS
   repeat (first | (refine sched_take (v := ?_) (by simp only [opT, opS, opZ]; rfl) (Or.inl ⟨by rfl, fun W hW => ?_⟩) HS.out ?_; rotate_left; (have hc := fun b o hb => hW.cell b o trivial hb; clear hW; go_simp; with_reducible rfl); simp only [Act.put, putT, putZ, putS]) | (refine sched_take (by simp only [opT, opS, opZ]; rfl) (Or.inr ⟨by rfl, rfl⟩) HS.out ?_; simp only [Act.put, putT, putZ, putS]))
   refine sched_step (by simp only [opT, opS, opZ]; rfl) ?_
   go_wp2_with fail
   refine sched_on HS.out ?_
   repeat (first | (refine sched_take (v := ?_) (by simp only [opT, opS, opZ]; rfl) (Or.inl ⟨by rfl, fun W hW => ?_⟩) HS.out ?_; rotate_left; (have hc := fun b o hb => hW.cell b o trivial hb; clear hW; go_simp; with_reducible rfl); simp only [Act.put, putT, putZ, putS]) | (refine sched_take (by simp only [opT, opS, opZ]; rfl) (Or.inr ⟨by rfl, rfl⟩) HS.out ?_; simp only [Act.put, putT, putZ, putS]))
   refine sched_done ?_
   go_wp2
   go_ret
   exact ⟨by rw [he]; rfl, K1.out⟩
  clear hx
  go_wp2_with fail
  refine wp_region_schedK (fun _ => True) [(0, true), (1, true), (2, true), (3, true), (4, true), (5, true), (6, true), (7, true), (8, true), (9, true), (10, true), (11, true), (12, true), (13, false), (14, true), (15, true), (16, true), (17, true)] (by kernel_rfl) (by kernel_rfl) (fun hS => ?_)
  have HS := Lib.hid hS
  have hd1 : decide (xth < 0) = false := decide_eq_false (by omega)
  have hd2 : decide (63 < xth) = false := decide_eq_false (by omega)
  clear hS
  repeat (first | (refine sched_take (v := ?_) (by simp only [opT, opS, opZ]; rfl) (Or.inl ⟨by rfl, fun W hW => ?_⟩) HS.out ?_; rotate_left; (have hc := fun b o hb => hW.cell b o trivial hb; clear hW; go_simp; with_reducible rfl); simp only [Act.put, putT, putZ, putS]) | (refine sched_take (by simp only [opT, opS, opZ]; rfl) (Or.inr ⟨by rfl, rfl⟩) HS.out ?_; simp only [Act.put, putT, putZ, putS]))
  refine sched_step (by simp only [opT, opS, opZ]; rfl) ?_
  have HRk := Lib.hid ((H.out.below hb.out).below KB.out)
  go_wp2_with fail
  refine (refNth12_calls _ _ _ l HRk.out hlen HX.out).mono ?_
  rintro e w1 ⟨rfl, hb1⟩
  have HS2 := Lib.hid (HS.out.below hb1)
  have K2 := Lib.hid (K1.out.trans (hb1.mono K1.out.size))
  have hc1 := (bcell hb1).1
  have s1 := hb1.size
  have HS1 := Lib.hid ((HS1.out.below KB.out).below hb1)
  have HR1 := Lib.hid (HRk.out.below hb1)
  clear hb1
  simp only [World.size_alloc, World.size_drew] at s1 hc1
  have g5 : wa.heap.size < w1.heap.size := by omega
  go_wp2_with fail
  refine sched_on HS2.out ?_
  have hpar : ∀ p : Bool, decide (cntT (l.take k) xth % 2 = 1) = p → Int.tmod (cntT (l.take k) xth : Int) 2 = if p then 1 else 0 := by
   intro p hp
   rw [show (2 : Int) = ((2 : Nat) : Int) from rfl, ← Int.ofNat_tmod]
   cases p
   ·
    have := of_decide_eq_false hp
    simp only [Bool.false_eq_true, if_false]
    omega
   ·
    have := of_decide_eq_true hp
    simp only [if_true]
    omega
  have hcl : cntT (l.take k) xth ≤ k := by
   unfold cntT
   have h1 := List.length_filter_le (fun y : EvD => decide (y.th = xth)) (l.take k)
   rw [List.length_take] at h1
   omega
  cases hp : decide (cntT (l.take k) xth % 2 = 1) with
  | true =>
   have hrm : Int.tmod (cntT (l.take k) xth : Int) 2 = 1 := hpar _ hp
   have HP := Lib.hid hp
   clear hpar hp
   cases xdn
   ·
    have he := err_bad HX.out (fun h => by have h1 := h.2.2.1; simp only at h1; rw [HP.out] at h1; cases h1)
    repeat (first | (refine sched_take (v := ?_) (by simp only [opT, opS, opZ]; rfl) (Or.inl ⟨by rfl, fun W hW => ?_⟩) HS2.out ?_; rotate_left; (have hc := fun b o hb => hW.cell b o trivial hb; clear hW; go_simp; with_reducible rfl); simp only [Act.put, putT, putZ, putS]) | (refine sched_take (by simp only [opT, opS, opZ]; rfl) (Or.inr ⟨by rfl, rfl⟩) HS2.out ?_; simp only [Act.put, putT, putZ, putS]))
    refine sched_done ?_
    go_wp2
    go_ret
    exact ⟨by rw [he]; rfl, K2.out⟩
   ·
    repeat (first | (refine sched_take (v := ?_) (by simp only [opT, opS, opZ]; rfl) (Or.inl ⟨by rfl, fun W hW => ?_⟩) HS2.out ?_; rotate_left; (have hc := fun b o hb => hW.cell b o trivial hb; clear hW; go_simp; with_reducible rfl); simp only [Act.put, putT, putZ, putS]) | (refine sched_take (by simp only [opT, opS, opZ]; rfl) (Or.inr ⟨by rfl, rfl⟩) HS2.out ?_; simp only [Act.put, putT, putZ, putS]))
    refine sched_done ?_
    go_wp2_with fail
    refine (refNext12_calls _ _ _ l HR1.out hlen HX.out).mono ?_
    rintro e w2 ⟨r, rfl, hn, hb2⟩
    have K3 := Lib.hid (K2.out.trans (hb2.mono K2.out.size))
    have hc2 := (bcell hb2).1
    have g6 : wa.heap.size < w2.heap.size := by have := hb2.size; omega
    clear hn hb2
    go_wp2_with fail
    refine wp_region_schedK (fun _ => True) [(0, true), (1, true), (2, true), (3, true), (4, true), (5, true), (6, true), (7, true), (8, true), (9, true), (10, true), (11, true), (12, true), (13, true), (14, true), (15, true), (16, true)] (by kernel_rfl) (by kernel_rfl) (fun hS => ?_)
    have HS3 := Lib.hid hS
    clear hS
    repeat (first | (refine sched_take (v := ?_) (by simp only [opT, opS, opZ]; rfl) (Or.inl ⟨by rfl, fun W hW => ?_⟩) HS3.out ?_; rotate_left; (have hc := fun b o hb => hW.cell b o trivial hb; clear hW; go_simp; with_reducible rfl); simp only [Act.put, putT, putZ, putS]) | (refine sched_take (by simp only [opT, opS, opZ]; rfl) (Or.inr ⟨by rfl, rfl⟩) HS3.out ?_; simp only [Act.put, putT, putZ, putS]))
    refine sched_done ?_
    have hra := Lib.hid (show ∀ (i : Nat) (x : EvD), i < k + 1 → l[i]? = some x → RefAt l i x from fun i z hi hz => by
     rcases Nat.lt_or_ge i k with h3 | h3
     ·
      exact hall.out i z h3 hz
     ·
      obtain rfl : i = k := by omega
      rw [HX.out] at hz
      injection hz with hz
      subst hz
      exact ⟨by simp only; omega, by simp only; omega, HP.out.symm, fun e => (by cases e), fun e => (by cases e)⟩)
    go_wp2
    go_roundw
    case rel => exact ⟨k + 1, by omega, by first | (go_num; done) | (go_num; omega), hra, Lib.hid K3.out.drew⟩
    case measure => simp [intOf]; omega
  | false =>
   have hrm : Int.tmod (cntT (l.take k) xth : Int) 2 = 0 := hpar _ hp
   have HP := Lib.hid hp
   clear hpar hp
   cases xdn
   case true =>
    have he := err_bad HX.out (fun h => by have h1 := h.2.2.1; simp only at h1; rw [HP.out] at h1; cases h1)
    repeat (first | (refine sched_take (v := ?_) (by simp only [opT, opS, opZ]; rfl) (Or.inl ⟨by rfl, fun W hW => ?_⟩) HS2.out ?_; rotate_left; (have hc := fun b o hb => hW.cell b o trivial hb; clear hW; go_simp; with_reducible rfl); simp only [Act.put, putT, putZ, putS]) | (refine sched_take (by simp only [opT, opS, opZ]; rfl) (Or.inr ⟨by rfl, rfl⟩) HS2.out ?_; simp only [Act.put, putT, putZ, putS]))
    refine sched_done ?_
    go_wp2
    go_ret
    exact ⟨by rw [he]; rfl, K2.out⟩
   repeat (first | (refine sched_take (v := ?_) (by simp only [opT, opS, opZ]; rfl) (Or.inl ⟨by rfl, fun W hW => ?_⟩) HS2.out ?_; rotate_left; (have hc := fun b o hb => hW.cell b o trivial hb; clear hW; go_simp; with_reducible rfl); simp only [Act.put, putT, putZ, putS]) | (refine sched_take (by simp only [opT, opS, opZ]; rfl) (Or.inr ⟨by rfl, rfl⟩) HS2.out ?_; simp only [Act.put, putT, putZ, putS]))
   refine sched_done ?_
   go_wp2_with fail
   refine (refSame11_calls _ (fun _ => True) xres ResD.nil _ _ _ _ _ _ (HS1.out.mono fun _ _ _ => trivial) (Sl.nil _ _)).mono ?_
   rintro e w3 ⟨rfl, hb3⟩
   have K3 := Lib.hid (K2.out.trans (hb3.mono K2.out.size))
   have hc3 := (bcell hb3).1
   have s3 := hb3.size
   have HR3 := Lib.hid (HR1.out.below hb3)
   have g6 : wa.heap.size < w3.heap.size := by omega
   clear hb3
   by_cases hz : xres = ResD.nil
   case neg =>
    have he := err_bad HX.out (fun h => hz (h.2.2.2.1 rfl))
    rw [decide_eq_false hz]
    go_wp2
    go_ret
    exact ⟨by rw [he]; rfl, K3.out⟩
   rw [decide_eq_true hz]
   have HZ := Lib.hid hz
   clear hz
   go_wp2_with fail
   refine (refNext12_calls _ _ _ l HR3.out hlen HX.out).mono ?_
   rintro e w4 ⟨r, rfl, hn, hb4⟩
   have HN := Lib.hid hn
   have K4 := Lib.hid (K3.out.trans (hb4.mono K3.out.size))
   have hc4 := (bcell hb4).1
   have g7 : wa.heap.size < w4.heap.size := by have := hb4.size; omega
   have HR4 := Lib.hid (HR3.out.below hb4)
   clear hb4
   rcases hn with ⟨rfl, hn1⟩ | ⟨m, y, rfl, hn1, hn2, hn3, hn4⟩
   ·
    clear hn1
    have hra := Lib.hid (show ∀ (i : Nat) (x : EvD), i < k + 1 → l[i]? = some x → RefAt l i x from fun i z hi hz => by
     rcases Nat.lt_or_ge i k with h3 | h3
     ·
      exact hall.out i z h3 hz
     ·
      obtain rfl : i = k := by omega
      rw [HX.out] at hz
      injection hz with hz
      subst hz
      exact ⟨by simp only; omega, by simp only; omega, HP.out.symm, fun _ => HZ.out, fun _ k' y' hk' _ => by have := HN.out.uniq hk'; omega⟩)
    go_wp2_with fail
    refine wp_region_schedK (fun _ => True) [(0, true), (1, true), (2, true), (3, true), (4, true), (5, true), (6, true), (7, true), (8, true), (9, true), (10, true), (11, true), (12, true), (13, true), (14, true), (15, true), (16, true)] (by kernel_rfl) (by kernel_rfl) (fun hS => ?_)
    have HS3 := Lib.hid hS
    clear hS
    repeat (first | (refine sched_take (v := ?_) (by simp only [opT, opS, opZ]; rfl) (Or.inl ⟨by rfl, fun W hW => ?_⟩) HS3.out ?_; rotate_left; (have hc := fun b o hb => hW.cell b o trivial hb; clear hW; go_simp; with_reducible rfl); simp only [Act.put, putT, putZ, putS]) | (refine sched_take (by simp only [opT, opS, opZ]; rfl) (Or.inr ⟨by rfl, rfl⟩) HS3.out ?_; simp only [Act.put, putT, putZ, putS]))
    refine sched_done ?_
    go_wp2
    go_roundw
    case rel => exact ⟨k + 1, by omega, by first | (go_num; done) | (go_num; omega), hra, Lib.hid K4.out.drew⟩
    case measure => simp [intOf]; omega
   ·
    have hm : m < l.length := (List.getElem?_eq_some_iff.1 hn2).1
    obtain ⟨b', off', _, _, _, _, _, _, hA, hbl', _, y0, y1, y2, y3, y4, y5, y6, _⟩ := HR4.out.atEvF hn2
    injection hA with hA
    injection hA with h1 h2
    subst h1 h2
    have HY := Lib.hid hn2
    clear hn1 hn2 hn3 hn4 x0 x1 x2 x3 x4 x5 x6 x7 x8 x9 x10 x11
    go_wp2_with fail
    refine wp_region_schedK (fun _ => True) [(0, true), (1, true), (2, true), (3, true), (4, true), (5, true), (6, true), (7, true), (8, true), (9, true), (10, true), (11, true), (12, true), (13, true), (14, true), (15, true), (16, true)] (by kernel_rfl) (by kernel_rfl) (fun hS => ?_)
    have HS3 := Lib.hid hS
    clear hS
    by_cases hop : y.op = xop
    ·
     have hra := Lib.hid (show ∀ (i : Nat) (x : EvD), i < k + 1 → l[i]? = some x → RefAt l i x from fun i z hi hz => by
      rcases Nat.lt_or_ge i k with h3 | h3
      ·
       exact hall.out i z h3 hz
      ·
       obtain rfl : i = k := by omega
       rw [HX.out] at hz
       injection hz with hz
       subst hz
       exact ⟨by simp only; omega, by simp only; omega, HP.out.symm, fun _ => HZ.out, fun _ k' y' hk' hy' => by
        have e := HN.out.uniq hk'
        obtain rfl : m = k' := by omega
        rw [HY.out] at hy'
        injection hy' with hy'
        subst hy'
        exact hop⟩)
     rw [hop] at y2 y3 y4 y5 y6
     repeat (first | (refine sched_take (v := ?_) (by simp only [opT, opS, opZ]; rfl) (Or.inl ⟨by rfl, fun W hW => ?_⟩) HS3.out ?_; rotate_left; (have hc := fun b o hb => hW.cell b o trivial hb; clear hW; go_simp; with_reducible rfl); simp only [Act.put, putT, putZ, putS]) | (refine sched_take (by simp only [opT, opS, opZ]; rfl) (Or.inr ⟨by rfl, rfl⟩) HS3.out ?_; simp only [Act.put, putT, putZ, putS]))
     refine sched_done ?_
     go_wp2
     go_roundw
     case rel => exact ⟨k + 1, by omega, by first | (go_num; done) | (go_num; omega), hra, Lib.hid K4.out.drew⟩
     case measure => simp [intOf]; omega
    ·
     have he := err_bad HX.out (fun h => hop (h.2.2.2.2 rfl m y HN.out HY.out))
     repeat (first | (refine sched_take (v := ?_) (by simp only [opT, opS, opZ]; rfl) (Or.inl ⟨by rfl, fun W hW => ?_⟩) HS3.out ?_; rotate_left; (have hc := fun b o hb => hW.cell b o trivial hb; clear hW; go_simp; with_reducible rfl); simp only [Act.put, putT, putZ, putS]) | (refine sched_take (by simp only [opT, opS, opZ]; rfl) (Or.inr ⟨by rfl, rfl⟩) HS3.out ?_; simp only [Act.put, putT, putZ, putS]))
     refine sched_take (v := .bool (!decide (y.op = xop))) (by simp only [opT, opS, opZ]; rfl) (Or.inl ⟨by rfl, fun W _ => exec_neqOp W y.op xop rfl rfl rfl⟩) HS3.out ?_
     simp only [Act.put, putT, putZ, putS]
     rw [decide_eq_false hop]
     simp only [Bool.not_false]
     repeat (first | (refine sched_take (v := ?_) (by simp only [opT, opS, opZ]; rfl) (Or.inl ⟨by rfl, fun W hW => ?_⟩) HS3.out ?_; rotate_left; (have hc := fun b o hb => hW.cell b o trivial hb; clear hW; go_simp; with_reducible rfl); simp only [Act.put, putT, putZ, putS]) | (refine sched_take (by simp only [opT, opS, opZ]; rfl) (Or.inr ⟨by rfl, rfl⟩) HS3.out ?_; simp only [Act.put, putT, putZ, putS]))
     refine sched_done ?_
     go_wp2
     go_ret
     exact ⟨by rw [he]; rfl, K4.out.drew⟩
end Go.Proofs.YtpehmmdbjakkpaaGreat
namespace Go.Proofs.YtpehmmdbjakkpaaGreat
open Go.RowKit
theorem belowN {B : Nat} {a w : World} (h : Below B a w) (n : Nat) : Below B a (w.drewN n) := h.trans ⟨rfl, rfl, rfl, Nat.le_refl _, fun _ _ => rfl⟩
theorem drewN_alloc (W : World) (o : Obj) (n : Nat) : (W.alloc o).drewN n = (W.drewN n).alloc o := rfl
set_option maxRecDepth 100000 in
set_option maxHeartbeats 2000000 in
theorem refNext12_calls2 (w : World) (S : Nat → Prop) (v : Value) (l : List EvD) (h : Row tEv w S v l) (hlen : l.length ≤ 1000000) {i : Nat} {x : EvD} (hi : l[i]? = some x) : Calls Tryz.prog 64 #[v, .int .i64 (i : Int)] w fun e w' => ∃ r : Int, e = .returned (.int .i64 r) ∧ IsNext l x.th i r ∧ ∃ n, w' = w.drewN n := by
 obtain ⟨A, c, rfl⟩ := h.slice
 have H := Lib.hid h
 have hil : i < l.length := (List.getElem?_eq_some_iff.1 hi).1
 have HI := Lib.hid hi
 clear h hi
 go_enter Tryz.func64, Tryz.ntmps64
 go_wp2
 go_loopw [5] (fun o wr => ∃ k : Nat, i < k ∧ k ≤ l.length ∧ o = .int .i64 (k : Int) ∧ Hid (∀ (m : Nat) (y : EvD), i < m → m < k → l[m]? = some y → y.th ≠ x.th) ∧ Hid (∃ n, wr = w.drewN n)) (fun o _ => l.length - (intOf o).toNat)
 case atStart => exact ⟨i + 1, by omega, by omega, by first | (go_num; done) | (go_num; omega) | rfl, (fun m y h1 h2 => by omega), ⟨0, rfl⟩⟩
 case round =>
  obtain ⟨k, hik, hk, rfl, hno, hb⟩ := hrel
  obtain ⟨n, hn⟩ := hb.out
  subst hn
  by_cases hlt : k < l.length
  ·
   obtain ⟨y, hy⟩ := getElem?_of_lt hlt
   obtain ⟨b, off, a1, d1, a2, d2, a3, d3, rfl, hbl, _, x0, x1, x2, x3, x4, x5, x6, x7, x8, x9, x10, x11⟩ := H.out.atEvF HI.out
   obtain ⟨b', off', a1', d1', a2', d2', a3', d3', hA, _, _, y0, y1, y2, y3, y4, y5, y6, y7, y8, y9, y10, y11⟩ := H.out.atEvF hy
   injection hA with hA
   injection hA with h1 h2
   subst h1 h2
   have HY := Lib.hid hy
   clear hy x1 x2 x3 x4 x5 x6 x7 x8 x9 x10 x11 y1 y2 y3 y4 y5 y6 y7 y8 y9 y10 y11
   go_wp2_with fail
   refine wp_region_sched [(0, true), (1, true), (2, true), (3, true), (4, true), (5, true), (6, true), (7, true), (8, true), (9, true), (10, true)] (Kept w (fun _ => True)) (by kernel_rfl) (by kernel_rfl) ?_
   have HS := Lib.hid ((Kept.refl w (fun _ => True)).drewN n).drew
   repeat (refine sched_take (v := ?_) (by simp only [opT, opS, opZ]; rfl) (Or.inl ⟨by rfl, fun W hW => ?_⟩) HS.out ?_; rotate_left; (have hc := fun b o hb => hW.cell b o trivial hb; clear hW; go_simp; with_reducible rfl); simp only [Act.put, putT, putZ, putS])
   refine sched_done ?_
   by_cases hth : y.th = x.th
   ·
    have HT := Lib.hid hth
    replace hth : (y.th == x.th) = true := beq_iff_eq.mpr hth
    go_wp2
    go_ret
    exact ⟨_, rfl, .inr ⟨k, y, rfl, hik, HY.out, HT.out, hno.out⟩, n + 1, rfl⟩
   ·
    have HT := Lib.hid hth
    replace hth : (y.th == x.th) = false := beq_eq_false_iff_ne.mpr hth
    go_wp2
    go_roundw
    case rel => exact ⟨k + 1, by omega, by omega, by first | (go_num; done) | (go_num; omega), Lib.hid (fun m z h1 h2 hz => by
     rcases Nat.lt_or_ge m k with h3 | h3
     ·
      exact hno.out m z h1 h3 hz
     ·
      obtain rfl : m = k := by omega
      rw [HY.out] at hz
      injection hz with hz
      subst hz
      exact HT.out), Lib.hid ⟨n + 1, rfl⟩⟩
    case measure => simp [intOf]; omega
  ·
   obtain rfl : k = l.length := by omega
   go_wp2
   go_ret
   exact ⟨_, rfl, .inl ⟨rfl, fun m y h1 hy => hno.out m y h1 (List.getElem?_eq_some_iff.1 hy).1 hy⟩, n, rfl⟩
set_option maxRecDepth 100000 in
set_option maxHeartbeats 8000000 in
theorem refCalls_calls (w : World) (v : Value) (l : List EvD) (h : Row tEv w (fun _ => True) v l) (hlen : l.length ≤ 1000000) (okl : ∀ x ∈ l, okI x.th) : Calls Tryz.prog 39 #[v] w fun e w' => ∃ v', e = .returned (.tuple #[v', .int .i64 (errOf (runL l))]) ∧ Row tCall w' (fun _ => True) v' (outOf (runL l)) ∧ Below w.heap.size w w' := by
 obtain ⟨A, c, rfl⟩ := h.slice
 have H := Lib.hid h.bound
 have OK := Lib.hid okl
 clear h okl
 go_enter Tryz.func39, Tryz.ntmps39
 go_wp2_with fail
 refine (refCheck12_calls _ _ _ _ H.out hlen OK.out).mono ?_
 rintro e w1 ⟨rfl, hb1⟩
 have K1 := Lib.hid hb1
 have s1 := hb1.size
 have H1 := Lib.hid (H.out.below hb1)
 clear hb1
 cases hrun : runL l with
 | none =>
  simp only [errOf]
  have HN := Lib.hid hrun
  clear hrun
  go_wp2
  exact bodyPost_ret (v := .tuple #[.slice none 0 0, .int .i64 1]) (by simp [results, Tryz.results39, go_sem]) rfl ⟨_, by rw [HN.out]; rfl, by rw [HN.out]; exact Row.nil _ _ _, K1.out⟩
 | some t =>
  simp only [errOf, outOf]
  have HR := Lib.hid hrun
  clear hrun
  go_wp2
  go_loopw [5, 16] (fun o p wr => ∃ (k : Nat) (rs : List CallD), k ≤ l.length ∧ p = .int .i64 (k : Int) ∧ rs.length ≤ k ∧ Hid (rs.map (fun c => c.frm) = frmsOf l k) ∧ Hid (∀ (i : Nat) (c : CallD), rs[i]? = some c → RCall l c) ∧ Hid (Own tCall 70 wr (fun _ => True) o rs) ∧ Hid (∀ b, o.ownBlock = some b → w1.heap.size ≤ b) ∧ Hid (Below w1.heap.size w1 wr)) (fun _ p _ => l.length - (intOf p).toNat)
  case atStart => exact ⟨0, [], by omega, rfl, Nat.le_refl _, rfl, (fun i c h => by simp at h), Own.nil _ _ _ _, (fun b h => by simp [Value.ownBlock] at h), Below.refl _ _⟩
  case round =>
   obtain ⟨wa, rfl⟩ : ∃ wa, wa = wr := ⟨wr, rfl⟩
   obtain ⟨k, rs, hk, rfl, hrl, hfr, hrc, ho, hge, hb⟩ := hrel
   have hwr := hb.out.size
   by_cases hlt : k < l.length
   case neg =>
    obtain rfl : k = l.length := by omega
    have he := calls12_eq HR.out hfr.out hrc.out
    go_wp2
    refine bodyPost_ret (v := .tuple #[_, .int .i64 0]) (by simp [results, Tryz.results39, go_sem]; rfl) rfl ⟨_, by rw [HR.out]; rfl, by rw [HR.out]; show Row _ _ _ _ t.out; rw [he]; exact ho.out.row, K1.out.trans (hb.out.mono s1)⟩
   obtain ⟨⟨xth, xdn, xop, xres⟩, hx⟩ := getElem?_of_lt hlt
   obtain ⟨b, off, a1, d1, a2, d2, a3, d3, rfl, hbl, hs1, x0, x1, x2, x3, x4, x5, x6, x7, x8, x9, x10, x11⟩ := (H1.out.below hb.out).atEvF hx
   simp only at x0 x1 x2 x3 x4 x5 x6 x7 x8 x9 x10 x11
   have hfs := frmsOf_succ hx
   have HX := Lib.hid hx
   clear hs1 hx
   have g1 : wa.heap.size < wa.heap.size + 1 := by omega
   have g2 : b < wa.heap.size + 1 := by omega
   cases xdn
   case true =>
    rw [if_neg (by simp), List.append_nil] at hfs
    have HF := Lib.hid (hfr.out.trans hfs.symm)
    clear hfs
    go_wp2
    go_roundw
    case rel => exact ⟨k + 1, rs, by omega, by first | (go_num; done) | (go_num; omega), by omega, HF, hrc, Lib.hid (ho.out.below ((Below.refl _ _).alloc (Nat.le_refl _) _)), hge, Lib.hid (hb.out.alloc (by omega) _)⟩
    case measure => simp [intOf]; omega
   rw [if_pos rfl] at hfs
   have HF := Lib.hid (show rs.map (fun c => c.frm) ++ [(k : Int)] = frmsOf l (k + 1) by rw [hfr.out, hfs])
   clear hfs
   go_wp2_with fail
   refine wp_region_tr (fun _ => True) (.take 0 (.take 1 (.take 2 (.take 3 (.take 4 (.take 5 (.take 6 (.two 7 (.take 8 (.step 9 (.step 10 .nil))) 9 (.step 7 (.take 8 (.step 10 .nil))))))))))) (by kernel_rfl) (by kernel_rfl) (fun hS => ?_)
   have HS := Lib.hid hS
   clear hS
   repeat (refine tr_take (v := ?_) (by simp only [opT, opS, opZ]; rfl) (Or.inl ⟨by rfl, fun W hW => ?_⟩) HS.out ?_; rotate_left; (have hc := fun b o hb => hW.cell b o trivial hb; clear hW; go_simp; with_reducible rfl); simp only [Act.put, putT, putZ, putS])
   have hwc := ((Below.refl wa.heap.size wa).alloc (Nat.le_refl _) (.cells #[.int .i64 xth, .bool false, .int .i64 xop.k, .int .i64 xop.a, .int .i64 xop.b, .int .i64 xop.p, .int .i64 xop.v, .int .i64 xres.st, .int .i64 xres.id, .slice a1 xres.ps.length d1, .slice a2 xres.os.length d2, .slice a3 xres.is.length d3] 52)).drew
   have HRk := Lib.hid ((H1.out.below hb.out).below hwc)
   have HRj := Lib.hid ((H1.out.below hb.out).below (((Below.refl wa.heap.size wa).alloc (Nat.le_refl _) (.cells #[.int .i64 xth, .bool false, .int .i64 xop.k, .int .i64 xop.a, .int .i64 xop.b, .int .i64 xop.p, .int .i64 xop.v, .int .i64 xres.st, .int .i64 xres.id, .slice a1 xres.ps.length d1, .slice a2 xres.os.length d2, .slice a3 xres.is.length d3] 52)).alloc (by simp) (.cells #[.int .i64 0, .int .i64 0, .int .i64 0, .int .i64 0, .int .i64 0, .int .i64 0, .int .i64 0, .int .i64 0, .int .i64 0, .int .i64 0, .slice none 0 0, .slice none 0 0, .slice none 0 0] 70)).drew)
   have HRa := Lib.hid (H1.out.below hb.out)
   clear hwc
   refine tr_two (by simp only [opT, opS, opZ]; rfl) ?brA (by simp only [opT, opS, opZ]; rfl) ?brB
   case' brA =>
    go_wp2_with fail
    refine (refNext12_calls2 _ _ _ l HRk.out hlen HX.out).mono ?_
    rintro e w2 ⟨r, rfl, hn, nd, rfl⟩
    have HN := Lib.hid hn
    have HS2 := Lib.hid (HS.out.drewN nd)
    clear hn
    go_wp2_with fail
    refine tr_on HS2.out ?_
    repeat (refine tr_take (v := ?_) (by simp only [opT, opS, opZ]; rfl) (Or.inl ⟨by rfl, fun W hW => ?_⟩) HS2.out ?_; rotate_left; (have hc := fun b o hb => hW.cell b o trivial hb; clear hW; go_simp; with_reducible rfl); simp only [Act.put, putT, putZ, putS])
    refine tr_step (by simp only [opT, opS, opZ]; rfl) ?_
    go_wp2_with fail
    refine tr_on (by repeat (first | (with_reducible exact HS2.out) | (with_reducible exact Kept.refl _ _) | (with_reducible refine Kept.drew ?_) | (with_reducible refine Kept.drewN ?_ _) | (with_reducible refine Kept.alloc ?_ _) | (with_reducible refine Kept.setCell ?_ (.inl (by simp; try omega)) _))) ?_
    refine tr_step (by simp only [opT, opS, opZ]; rfl) ?_
    go_wp2_with fail
    refine tr_on (by repeat (first | (with_reducible exact HS2.out) | (with_reducible exact Kept.refl _ _) | (with_reducible refine Kept.drew ?_) | (with_reducible refine Kept.drewN ?_ _) | (with_reducible refine Kept.alloc ?_ _) | (with_reducible refine Kept.setCell ?_ (.inl (by simp; try omega)) _))) ?_
    refine tr_done ?_
   case' brB =>
    go_wp2_with fail
    refine tr_on (by repeat (first | (with_reducible exact HS.out) | (with_reducible exact Kept.refl _ _) | (with_reducible refine Kept.drew ?_) | (with_reducible refine Kept.drewN ?_ _) | (with_reducible refine Kept.alloc ?_ _) | (with_reducible refine Kept.setCell ?_ (.inl (by simp; try omega)) _))) ?_
    refine tr_step (by simp only [opT, opS, opZ]; rfl) ?_
    go_wp2_with fail
    refine (refNext12_calls2 _ _ _ l HRj.out hlen HX.out).mono ?_
    rintro e w2 ⟨r, rfl, hn, nd, rfl⟩
    have HN := Lib.hid hn
    clear hn
    go_wp2_with fail
    refine tr_on (by repeat (first | (with_reducible exact HS.out) | (with_reducible exact Kept.refl _ _) | (with_reducible refine Kept.drew ?_) | (with_reducible refine Kept.drewN ?_ _) | (with_reducible refine Kept.alloc ?_ _) | (with_reducible refine Kept.setCell ?_ (.inl (by simp; try omega)) _))) ?_
    repeat (refine tr_take (v := ?_) (by simp only [opT, opS, opZ]; rfl) (Or.inl ⟨by rfl, fun W hW => ?_⟩) (by repeat (first | (with_reducible exact HS.out) | (with_reducible exact Kept.refl _ _) | (with_reducible refine Kept.drew ?_) | (with_reducible refine Kept.drewN ?_ _) | (with_reducible refine Kept.alloc ?_ _) | (with_reducible refine Kept.setCell ?_ (.inl (by simp; try omega)) _))) ?_; rotate_left; (have hc := fun b o hb => hW.cell b o trivial hb; clear hW; go_simp; with_reducible rfl); simp only [Act.put, putT, putZ, putS])
    rw [drewN_alloc]
    refine tr_step (by simp only [opT, opS, opZ]; rfl) ?_
    go_wp2_with fail
    refine tr_on (by repeat (first | (with_reducible exact HS.out) | (with_reducible exact Kept.refl _ _) | (with_reducible refine Kept.drew ?_) | (with_reducible refine Kept.drewN ?_ _) | (with_reducible refine Kept.alloc ?_ _) | (with_reducible refine Kept.setCell ?_ (.inl (by simp; try omega)) _))) ?_
    refine tr_done ?_
   all_goals
    have W3 := Lib.hid (belowN ((Below.refl wa.heap.size wa).alloc (Nat.le_refl _) (.cells #[.int .i64 xth, .bool false, .int .i64 xop.k, .int .i64 xop.a, .int .i64 xop.b, .int .i64 xop.p, .int .i64 xop.v, .int .i64 xres.st, .int .i64 xres.id, .slice a1 xres.ps.length d1, .slice a2 xres.os.length d2, .slice a3 xres.is.length d3] 52)) (1 + nd))
    clear HS HRk HRj g1 g2 x0 x1 x2 x3 x4 x5 x6 x7 x8 x9 x10 x11
    try clear HS2
    have hsz : (World.drewN (wa.alloc (.cells #[.int .i64 xth, .bool false, .int .i64 xop.k, .int .i64 xop.a, .int .i64 xop.b, .int .i64 xop.p, .int .i64 xop.v, .int .i64 xres.st, .int .i64 xres.id, .slice a1 xres.ps.length d1, .slice a2 xres.os.length d2, .slice a3 xres.is.length d3] 52)) (1 + nd)).heap.size = wa.heap.size + 1 := by simp
    generalize (World.drewN _ _) = w2 at *
    rw [← hsz]
    have s2 := W3.out.size
    have HRw := Lib.hid (HRa.out.below W3.out)
    have HO2 := Lib.hid (ho.out.below W3.out)
    have HB2 := Lib.hid (hb.out.trans (W3.out.mono hwr))
    clear HRa W3
    rcases HN.out with ⟨rfl, hn1⟩ | ⟨m, y, rfl, hn1, hn2, hn3, hn4⟩
    ·
     have hrn := Lib.hid (show RCall l ⟨xth, xop, k, -1, ResD.nil⟩ from ⟨by simp only; omega, _, HX.out, rfl, rfl, HN.out, fun _ => rfl, fun e => by simp only at e; omega⟩)
     obtain ⟨rs2, hrs2⟩ : ∃ z : List CallD, z = rs ++ [⟨xth, xop, k, -1, ResD.nil⟩] := ⟨_, rfl⟩
     have A1 : rs2.length ≤ k + 1 := by rw [hrs2, List.length_append]; simp only [List.length_cons, List.length_nil]; omega
     have A2 := Lib.hid (show rs2.map (fun c => c.frm) = frmsOf l (k + 1) by rw [hrs2, List.map_append]; exact HF.out)
     have A3 := Lib.hid (show ∀ (i : Nat) (c : CallD), rs2[i]? = some c → RCall l c from fun i c hc => by
      rw [hrs2] at hc
      rcases at_append hc with hc | ⟨_, rfl⟩
      ·
       exact hrc.out i c hc
      ·
       exact hrn.out)
     have HR2 := Lib.hid hrs2
     clear hrs2
     clear hn1 HN
     go_wp2_with (at_builtin; refine wpList_own_appendS (ty := tCall) (w := w1) (S := fun _ => True) (Sy := fun k => k < w.heap.size) (v := u5) (xs := rs) (x := ⟨xth, xop, k, -1, ResD.nil⟩) rfl _ _ 63 70 152 _ rfl elemCall rfl ?hown rfl (by simp <;> omega) ⟨_, _, _, Sl.nil _ _, rfl⟩ ?hB ?hge (fun _ _ => trivial) ?hbytes ?hlen ?hin ?_)
     case hown => exact HO2.out.below ((Below.refl _ _).alloc (Nat.le_refl _) _)
     case hB => exact HB2.out.alloc (by omega) _
     case hge => exact hge.out
     case hbytes => omega
     case hlen => unfold maxLen; omega
     case hin =>
      intro k hk _
      have h9 : u5.ownBlock ≠ some k := fun e => by have := hge.out k e; omega
      first | exact ⟨trivial, h9⟩ | exact h9
     intro v3 w3 ho3 hb3 hge3 _
     rw [← HR2.out] at ho3
     have HO3 := Lib.hid ho3
     have HB3 := Lib.hid hb3
     have HG3 := Lib.hid hge3
     clear ho3 hb3 hge3
     go_wp2
     go_roundw
     case rel => exact ⟨k + 1, rs2, by omega, by first | (go_num; done) | (go_num; omega), A1, A2, A3, HO3, HG3, HB3⟩
     case measure => simp [intOf]; omega
    ·
     obtain ⟨b2, off2, a1', d1', a2', d2', a3', d3', hA, hbl2, hs2, y0, y1, y2, y3, y4, y5, y6, y7, y8, y9, y10, y11⟩ := HRw.out.atEvF hn2
     injection hA with hA
     injection hA with h1 h2
     subst h1 h2
     have hm : m < l.length := (List.getElem?_eq_some_iff.1 hn2).1
     have hrn := Lib.hid (show RCall l ⟨xth, xop, k, m, y.res⟩ from ⟨by simp only; omega, _, HX.out, rfl, rfl, HN.out, fun e => by simp only at e; omega, fun _ => ⟨y, by simpa using hn2, rfl⟩⟩)
     have HS2 := Lib.hid hs2
     have g2 : b < w2.heap.size + 1 := by omega
     obtain ⟨rs2, hrs2⟩ : ∃ z : List CallD, z = rs ++ [⟨xth, xop, k, m, y.res⟩] := ⟨_, rfl⟩
     have A1 : rs2.length ≤ k + 1 := by rw [hrs2, List.length_append]; simp only [List.length_cons, List.length_nil]; omega
     have A2 := Lib.hid (show rs2.map (fun c => c.frm) = frmsOf l (k + 1) by rw [hrs2, List.map_append]; exact HF.out)
     have A3 := Lib.hid (show ∀ (i : Nat) (c : CallD), rs2[i]? = some c → RCall l c from fun i c hc => by
      rw [hrs2] at hc
      rcases at_append hc with hc | ⟨_, rfl⟩
      ·
       exact hrc.out i c hc
      ·
       exact hrn.out)
     have HR2 := Lib.hid hrs2
     clear hrs2
     clear hn1 HN hn2 hn3 hn4 hs2
     go_wp2_with (at_builtin; refine wpList_own_appendS (ty := tCall) (w := w1) (S := fun _ => True) (Sy := fun k => k < w.heap.size) (v := u5) (xs := rs) (x := ⟨xth, xop, k, m, y.res⟩) rfl _ _ 63 70 152 _ rfl elemCall rfl ?hown rfl (by simp <;> omega) ⟨_, _, _, ?hsl, rfl⟩ ?hB ?hge (fun _ _ => trivial) ?hbytes ?hlen ?hin ?_)
     case hsl => exact (HS2.out.mono (fun k h _ => (h.2 : k < w.heap.size))).below ((Below.refl _ _).alloc (Nat.le_refl _) _)
     case hown => exact HO2.out.below ((Below.refl _ _).alloc (Nat.le_refl _) _)
     case hB => exact HB2.out.alloc (by omega) _
     case hge => exact hge.out
     case hbytes => omega
     case hlen => unfold maxLen; omega
     case hin =>
      intro k hk _
      have h9 : u5.ownBlock ≠ some k := fun e => by have := hge.out k e; omega
      first | exact ⟨trivial, h9⟩ | exact h9
     intro v3 w3 ho3 hb3 hge3 _
     rw [← HR2.out] at ho3
     have HO3 := Lib.hid ho3
     have HB3 := Lib.hid hb3
     have HG3 := Lib.hid hge3
     clear ho3 hb3 hge3
     go_wp2
     go_roundw
     case rel => exact ⟨k + 1, rs2, by omega, by first | (go_num; done) | (go_num; omega), A1, A2, A3, HO3, HG3, HB3⟩
     case measure => simp [intOf]; omega
end Go.Proofs.YtpehmmdbjakkpaaGreat


