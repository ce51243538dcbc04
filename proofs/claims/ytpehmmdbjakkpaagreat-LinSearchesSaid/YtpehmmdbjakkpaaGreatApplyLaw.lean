/- Applying operations: plain data. -/
import Derived.Test.YtpehmmdbjakkpaaGreatPickA
import Derived.Test.YtpehmmdbjakkpaaGreatStaysLaw
namespace Go.Proofs.YtpehmmdbjakkpaaGreat
open Go.RowKit Go.Shelf
set_option linter.unusedSimpArgs false
set_option linter.unusedVariables false
/-- Which record is taken. -/
def takesOf (c : CfgD) (g : GraphD) (o : OpD) : Int :=
 if (doOf c g o).2.st = 0 then (if o.k = 1 then 1 else if o.k = 2 then 2 else if o.k = 4 then (if (delOf g o.a o.p).2 = 0 then 0 else 3) else 0) else 0
theorem Start.rdy {c : CfgD} {g : GraphD} (h : Start c g) (hc : c.ok) : Rdy c g := by
 have h1 := h.ln
 have h2 := h.le
 have h3 := h.nn
 have h4 := h.ne
 have h5 := hc.2.2.2
 exact ⟨⟨by omega, by omega, fun x hx => by have := h.lp x hx; omega⟩, by omega, by omega, by omega, by omega, by omega, by omega, h.wf.rs, h.lp⟩
theorem Start.self {c : CfgD} {g : GraphD} (h : Start c g) : Good c g g := ⟨h.wf, by have := h.ln; omega, by have := h.le; omega, fun x hx => by have := h.lp x hx; omega, ⟨Int.le_refl _, h.nn.2⟩, ⟨Int.le_refl _, h.ne.2⟩⟩
theorem chg_cases {c : CfgD} {g : GraphD} {o : OpD} {r : GraphD × Int × Int} (h : chg c g o = some r) :
  (o.k = 1 ∧ r = ((addOf c g).1, (addOf c g).2.2, (addOf c g).2.1)) ∨ (o.k = 2 ∧ r = ((linkOf c g o.a o.b).1, (linkOf c g o.a o.b).2.2, (linkOf c g o.a o.b).2.1)) ∨
  (o.k = 3 ∧ r = ((cutOf g o.a).1, (cutOf g o.a).2, 0)) ∨ (o.k = 4 ∧ r = ((setOf g o.a o.p o.v).1, (setOf g o.a o.p o.v).2, 0)) ∨ (o.k = 5 ∧ r = ((delOf g o.a o.p).1, (delOf g o.a o.p).2, 0)) ∨
  (o.k = 8 ∧ r = ((dropOf g o.a).1, (dropOf g o.a).2, 0)) ∨ (o.k = 9 ∧ r = ((fuseOf g o.a o.b).1, (fuseOf g o.a o.b).2, 0)) := by
 unfold chg at h
 split at h
 ·
  exact .inl ⟨‹_›, (Option.some.inj h).symm⟩
 split at h
 ·
  exact .inr (.inl ⟨‹_›, (Option.some.inj h).symm⟩)
 split at h
 ·
  exact .inr (.inr (.inl ⟨‹_›, (Option.some.inj h).symm⟩))
 split at h
 ·
  exact .inr (.inr (.inr (.inl ⟨‹_›, (Option.some.inj h).symm⟩)))
 split at h
 ·
  exact .inr (.inr (.inr (.inr (.inl ⟨‹_›, (Option.some.inj h).symm⟩))))
 split at h
 ·
  exact .inr (.inr (.inr (.inr (.inr (.inl ⟨‹_›, (Option.some.inj h).symm⟩)))))
 split at h
 ·
  exact .inr (.inr (.inr (.inr (.inr (.inr ⟨‹_›, (Option.some.inj h).symm⟩)))))
 simp at h
theorem chg_good {c : CfgD} {g z : GraphD} {o : OpD} {id : Int} (h : Start c g) (hz : chg c g o = some (z, 0, id)) : Good c g z := by
 rcases chg_cases hz with ⟨_, e⟩ | ⟨_, e⟩ | ⟨_, e⟩ | ⟨_, e⟩ | ⟨_, e⟩ | ⟨_, e⟩ | ⟨_, e⟩ <;> (injection e with e1 e2; injection e2 with e2 e3; rw [e1])
 ·
  exact good_add h e2.symm
 ·
  exact good_link h e2.symm
 ·
  exact good_cut h e2.symm
 ·
  exact good_set h e2.symm
 ·
  exact good_del h e2.symm
 ·
  exact good_drop h e2.symm
 ·
  exact good_fuse h e2.symm
theorem do_good {c : CfgD} {g : GraphD} {o : OpD} (h : Start c g) : Good c g (doOf c g o).1 := by
 unfold doOf
 split
 ·
  exact h.self
 ·
  rename_i z st id hz
  by_cases h0 : st = 0
  ·
   subst h0
   simp only [if_true]
   exact chg_good h hz
  ·
   simp only [if_neg h0]
   exact h.self
theorem psum_filter_le (p : NodeD → Bool) : ∀ xs : List NodeD, psum (xs.filter p) ≤ psum xs
 | [] => by simp [psum]
 | x :: xs => by
  have ih := psum_filter_le p xs
  unfold psum at ih ⊢
  rw [List.filter_cons]
  split <;> simp only [List.map_cons, List.sum_cons] <;> omega
theorem psum_filter_mem (p : NodeD → Bool) (x : NodeD) (hp : p x = false) : ∀ xs : List NodeD, x ∈ xs → psum (xs.filter p) + x.ps.length ≤ psum xs
 | [], h => by simp at h
 | y :: xs, h => by
  have h1 := psum_filter_le p xs
  rcases List.mem_cons.1 h with rfl | h
  ·
   rw [List.filter_cons_of_neg (by simp [hp])]
   unfold psum at h1 ⊢
   simp only [List.map_cons, List.sum_cons]
   omega
  ·
   have ih := psum_filter_mem p x hp xs h
   unfold psum at ih ⊢
   rw [List.filter_cons]
   split <;> simp only [List.map_cons, List.sum_cons] <;> omega
theorem psum_set (y x : NodeD) : ∀ (xs : List NodeD) (i : Nat), xs[i]? = some x → psum (xs.set i y) + x.ps.length = psum xs + y.ps.length
 | [], i, h => by simp at h
 | z :: xs, 0, h => by
  simp at h
  subst h
  unfold psum
  simp only [List.set_cons_zero, List.map_cons, List.sum_cons]
  omega
 | z :: xs, i + 1, h => by
  have ih := psum_set y x xs i (by simpa using h)
  unfold psum at ih ⊢
  simp only [List.set_cons_succ, List.map_cons, List.sum_cons]
  omega
theorem psum_mem {x : NodeD} : ∀ {xs : List NodeD}, x ∈ xs → x.ps.length ≤ psum xs
 | y :: xs, h => by
  rcases List.mem_cons.1 h with rfl | h
  ·
   unfold psum; simp only [List.map_cons, List.sum_cons]; omega
  ·
   have := psum_mem h
   unfold psum at this ⊢; simp only [List.map_cons, List.sum_cons]; omega
theorem psum_setN {g : GraphD} {n : Int} (ps : List P2) (hn : 0 ≤ atOf g.nodes n) : psum (setN g.nodes n ps) + (getOf g n).1.length = psum g.nodes + ps.length := by
 obtain ⟨i, x, hi, hx, _⟩ := atOf_at (show ¬ atOf g.nodes n < 0 by omega)
 rw [getOf_some hi hx]
 unfold setN
 rw [hi]
 exact psum_set ⟨n, ps⟩ x g.nodes i hx
theorem three_len (k : Int) : ∀ ps : List P2, (ps.filter fun p => decide (p.x < k)).length + (ps.filter fun p => decide (k < p.x)).length + (ps.filter fun p => p.x == k).length = ps.length
 | [] => rfl
 | p :: ps => by
  have ih := three_len k ps
  rw [List.filter_cons, List.filter_cons, List.filter_cons]
  rcases Int.lt_trichotomy p.x k with h | h | h
  ·
   have h2 : ¬ k < p.x := by omega
   have h3 : ¬ p.x = k := by omega
   simp [h, h2, h3]
   omega
  ·
   have h2 : ¬ k < p.x := by omega
   have h3 : ¬ p.x < k := by omega
   simp [h]
   omega
  ·
   have h2 : ¬ p.x < k := by omega
   have h3 : ¬ p.x = k := by omega
   simp [h, h2, h3]
   omega
theorem putP_old {ps : List P2} {k v : Int} (h : hasP ps k = true) : (putP ps k v).length ≤ ps.length := by
 have h1 := three_len k ps
 obtain ⟨p, hp, he⟩ := hasP_iff.1 h
 have h2 : 0 < (ps.filter fun p => p.x == k).length := List.length_pos_of_mem (List.mem_filter.2 ⟨hp, by simp [he]⟩)
 unfold putP
 simp only [List.length_append, List.length_cons]
 omega
theorem putP_new {ps : List P2} {k v : Int} (h : hasP ps k = false) : (putP ps k v).length = ps.length + 1 := by
 have h1 := three_len k ps
 have h2 : (ps.filter fun p => p.x == k) = [] := by
  rw [List.filter_eq_nil_iff]
  intro p hp he
  have : hasP ps k = true := hasP_iff.2 ⟨p, hp, by simpa using he⟩
  rw [h] at this
  simp at this
 rw [h2] at h1
 unfold putP
 simp only [List.length_append, List.length_cons]
 simp at h1
 omega
/-- How many more there are. -/
structure Delta (g z : GraphD) (k : Int) : Prop where
 n1 : k = 1 → z.nodes.length = g.nodes.length + 1
 n0 : k ≠ 1 → z.nodes.length ≤ g.nodes.length
 e1 : k = 2 → z.edges.length = g.edges.length + 1
 e0 : k ≠ 2 → z.edges.length ≤ g.edges.length
 p1 : k = 3 → psum z.nodes = psum g.nodes + 1
 p0 : k ≠ 3 → psum z.nodes ≤ psum g.nodes
theorem Delta.self (g : GraphD) : Delta g g 0 := ⟨by simp, by simp, by simp, by simp, by simp, by simp⟩
theorem chg_delta {c : CfgD} {g z : GraphD} {o : OpD} {id : Int} (hz : chg c g o = some (z, 0, id)) : Delta g z (if o.k = 1 then 1 else if o.k = 2 then 2 else if o.k = 4 then (if (delOf g o.a o.p).2 = 0 then 0 else 3) else 0) := by
 rcases chg_cases hz with ⟨hk, e⟩ | ⟨hk, e⟩ | ⟨hk, e⟩ | ⟨hk, e⟩ | ⟨hk, e⟩ | ⟨hk, e⟩ | ⟨hk, e⟩ <;> (injection e with e1 e2; injection e2 with e2 e3; rw [e1, hk])
 ·
  unfold addOf at e2 ⊢
  split at e2
  ·
   simp at e2
  ·
   rename_i hc
   rw [if_neg hc, if_pos rfl]
   exact ⟨by simp, by simp, by simp, by simp, by simp, by simp [psum]⟩
 ·
  unfold linkOf at e2 ⊢
  split at e2
  ·
   simp at e2
  ·
   rename_i hab
   split at e2
   ·
    simp at e2
   ·
    rename_i hc
    rw [if_neg hab, if_neg hc]
    exact ⟨by simp, by simp, by simp, by simp, by simp, by simp⟩
 ·
  unfold cutOf at e2 ⊢
  split at e2
  ·
   simp at e2
  ·
   rename_i hc
   rw [if_neg hc]
   exact ⟨by simp, by simp, by simp, fun _ => List.length_filter_le _ _, by simp, by simp⟩
 ·
  unfold setOf at e2 ⊢
  split at e2
  ·
   simp at e2
  ·
   rename_i hn
   have h1 := psum_setN (g := g) (putP (getOf g o.a).1 o.p o.v) (by omega : 0 ≤ atOf g.nodes o.a)
   rw [if_neg hn, if_neg (by decide), if_neg (by decide), if_pos rfl]
   unfold delOf
   cases hh : hasP (getOf g o.a).1 o.p with
   | true =>
    have h2 := putP_old (v := o.v) hh
    simp only [if_true]
    exact ⟨by simp, by simp [setN], by simp, by simp, by simp, fun _ => by simp only; omega⟩
   | false =>
    have h2 := putP_new (v := o.v) hh
    simp only [Bool.false_eq_true, if_false]
    exact ⟨by simp, by simp [setN], by simp, by simp, fun _ => by simp only; omega, by simp⟩
 ·
  unfold delOf at e2 ⊢
  split at e2
  ·
   rename_i hh
   rw [if_pos hh]
   have hn : 0 ≤ atOf g.nodes o.a := by
    rcases Int.lt_or_le (atOf g.nodes o.a) 0 with h1 | h1
    ·
     rw [getOf_none h1] at hh; simp [hasP] at hh
    ·
     exact h1
   have h1 := psum_setN (g := g) (delP (getOf g o.a).1 o.p) hn
   have h2 : (delP (getOf g o.a).1 o.p).length ≤ (getOf g o.a).1.length := List.length_filter_le _ _
   exact ⟨by simp, by simp [setN], by simp, by simp, by simp, fun _ => by simp only; omega⟩
  ·
   simp at e2
 ·
  unfold dropOf at e2 ⊢
  split at e2
  ·
   simp at e2
  ·
   rename_i hc
   rw [if_neg hc]
   exact ⟨by simp, fun _ => List.length_filter_le _ _, by simp, fun _ => List.length_filter_le _ _, by simp, fun _ => psum_filter_le _ _⟩
 ·
  unfold fuseOf at e2 ⊢
  split at e2
  ·
   simp at e2
  ·
   rename_i hab
   split at e2
   ·
    simp at e2
   ·
    rename_i hn
    rw [if_neg hab, if_neg hn]
    have ha : 0 ≤ atOf g.nodes o.a := by omega
    have h1 := psum_setN (g := g) (fuseP (getOf g o.a).1 (getOf g o.b).1) ha
    have h2 := fuseP_len (getOf g o.b).1 (getOf g o.a).1
    obtain ⟨i, x, hi, hx, hid⟩ := atOf_at (show ¬ atOf g.nodes o.b < 0 by omega)
    have hgb : (getOf g o.b).1 = x.ps := by rw [getOf_some hi hx]
    obtain ⟨j, y, hj, hy, hjd⟩ := atOf_at (show ¬ atOf g.nodes o.a < 0 by omega)
    have hij : i ≠ j := fun e => by
     subst e
     rw [hx] at hy
     injection hy with hy
     subst hy
     exact hab (hjd.symm.trans hid)
    have hm : x ∈ setN g.nodes o.a (fuseP (getOf g o.a).1 (getOf g o.b).1) := by
     unfold setN
     rw [hj]
     refine List.mem_of_getElem? (i := i) ?_
     rw [show ((j : Int)).toNat = j from rfl, List.getElem?_set_ne (Ne.symm hij)]
     exact hx
    have h3 := psum_filter_mem (fun x : NodeD => !(x.id == o.b)) x (by simp [hid]) _ hm
    have h4 := List.length_filter_le (fun x : NodeD => !(x.id == o.b)) (setN g.nodes o.a (fuseP (getOf g o.a).1 (getOf g o.b).1))
    have h5 : (setN g.nodes o.a (fuseP (getOf g o.a).1 (getOf g o.b).1)).length = g.nodes.length := by simp [setN]
    rw [hgb] at h1 h2 h3 h4 h5 ⊢
    exact ⟨by simp, fun _ => by simp only; omega, by simp, by simp, by simp, fun _ => by simp only; omega⟩
theorem do_delta (c : CfgD) (g : GraphD) (o : OpD) : Delta g (doOf c g o).1 (takesOf c g o) := by
 unfold takesOf doOf
 cases hc : chg c g o with
 | none =>
  have hk : ¬ o.k = 1 ∧ ¬ o.k = 2 ∧ ¬ o.k = 4 := by
   unfold chg at hc
   refine ⟨fun h => ?_, fun h => ?_, fun h => ?_⟩ <;> (rw [h] at hc; simp at hc)
  simp only [if_neg hk.1, if_neg hk.2.1, if_neg hk.2.2, ite_self]
  exact Delta.self g
 | some r =>
  obtain ⟨z, st, id⟩ := r
  by_cases h0 : st = 0
  ·
   subst h0
   simp only [if_true]
   exact chg_delta hc
  ·
   simp only [if_neg h0]
   exact Delta.self g
/-- What holds after k operations. -/
structure Inv (c : CfgD) (g : GraphD) (k : Nat) : Prop where
 wf : WF g
 ln : g.nodes.length ≤ k
 le : g.edges.length ≤ k
 lp : psum g.nodes ≤ k
 nn : 1 ≤ g.nn ∧ g.nn ≤ c.ids + 1
 ne : 1 ≤ g.ne ∧ g.ne ≤ c.eids + 1
theorem Inv.start {c : CfgD} {g : GraphD} {k : Nat} (h : Inv c g k) (hk : k ≤ 100) : Start c g :=
 ⟨h.wf, by have := h.ln; omega, by have := h.le; omega, fun x hx => by have := h.lp; have := psum_mem hx; omega, h.nn, h.ne⟩
theorem Inv.next {c : CfgD} {g : GraphD} {k : Nat} (h : Inv c g k) (hk : k ≤ 100) (o : OpD) : Inv c (doOf c g o).1 (k + 1) := by
 have hg := do_good (o := o) (h.start hk)
 have hd := do_delta c g o
 have h1 := h.ln
 have h2 := h.le
 have h3 := h.lp
 have h4 := h.nn
 have h5 := h.ne
 have h6 := hg.nn
 have h7 := hg.ne
 refine ⟨hg.wf, ?_, ?_, ?_, by omega, by omega⟩
 ·
  by_cases e : takesOf c g o = 1
  ·
   have := hd.n1 e; omega
  ·
   have := hd.n0 e; omega
 ·
  by_cases e : takesOf c g o = 2
  ·
   have := hd.e1 e; omega
  ·
   have := hd.e0 e; omega
 ·
  by_cases e : takesOf c g o = 3
  ·
   have := hd.p1 e; omega
  ·
   have := hd.p0 e; omega
def GraphD.new : GraphD := ⟨[], [], 1, 1⟩
theorem Inv.new {c : CfgD} (hc : c.ok) : Inv c GraphD.new 0 := by
 have := hc.2.2.2
 exact ⟨⟨by simp [GraphD.new, Asc], by simp [GraphD.new], by simp [GraphD.new], by simp [GraphD.new], by simp [GraphD.new], by simp [GraphD.new]⟩, by simp [GraphD.new], by simp [GraphD.new], by simp [GraphD.new, psum], by simp [GraphD.new]; omega, by simp [GraphD.new]; omega⟩
/-- The graph after k of the operations. -/
def stG (c : CfgD) (g : GraphD) (l : List OpD) : Nat → GraphD
 | 0 => g
 | k + 1 => match l[k]? with
  | some o => (doOf c (stG c g l k) o).1
  | none => stG c g l k
theorem stG_succ {c : CfgD} {g : GraphD} {l : List OpD} {k : Nat} {o : OpD} (h : l[k]? = some o) : stG c g l (k + 1) = (doOf c (stG c g l k) o).1 := by
 simp only [stG, h]
theorem Inv.run {c : CfgD} {g : GraphD} {n : Nat} (h : Inv c g n) (l : List OpD) : ∀ {k : Nat}, n + k ≤ 100 → k ≤ l.length → Inv c (stG c g l k) (n + k)
 | 0, _, _ => h
 | k + 1, h1, h2 => by
  rw [stG_succ (List.getElem?_eq_getElem (by omega : k < l.length))]
  exact (h.run l (by omega) (by omega : k ≤ l.length)).next (by omega) _
theorem small_setN {c : CfgD} {g : GraphD} {n : Int} {ps : List P2} (h : Rdy c g) (hl : ps.length ≤ 200) : GraphD.small ⟨setN g.nodes n ps, g.edges, g.nn, g.ne⟩ := by
 have h1 := h.ln
 have h2 := h.le
 refine ⟨by simp [setN]; omega, by simp only; omega, fun x hx => ?_⟩
 rcases setN_cases hx with hx | rfl
 ·
  have := h.hp x hx; omega
 ·
  simp only; omega
theorem Rdy.getLen {c : CfgD} {g : GraphD} (h : Rdy c g) (n : Int) : (getOf g n).1.length ≤ 100 := by
 by_cases ha : atOf g.nodes n < 0
 ·
  rw [getOf_none ha]; simp
 ·
  obtain ⟨i, x, hi, hx, _⟩ := atOf_at ha
  rw [getOf_some hi hx]
  exact h.hp x (List.mem_of_getElem? hx)
theorem chg_small {c : CfgD} {g z : GraphD} {o : OpD} {st id : Int} (h : Rdy c g) (hz : chg c g o = some (z, st, id)) : st = 0 → z.small := by
 intro h0
 subst h0
 have l1 := h.ln
 have l2 := h.le
 rcases chg_cases hz with ⟨_, e⟩ | ⟨_, e⟩ | ⟨_, e⟩ | ⟨_, e⟩ | ⟨_, e⟩ | ⟨_, e⟩ | ⟨_, e⟩ <;> (injection e with e1 e2; injection e2 with e2 e3; rw [e1])
 ·
  unfold addOf at e2 ⊢
  split at e2
  ·
   simp at e2
  ·
   rename_i hc
   rw [if_neg hc]
   refine ⟨by simp; omega, by simp only; omega, fun x hx => ?_⟩
   rcases List.mem_append.1 hx with hx | hx
   ·
    have := h.hp x hx; omega
   ·
    simp at hx; subst hx; simp
 ·
  unfold linkOf at e2 ⊢
  split at e2
  ·
   simp at e2
  ·
   rename_i hab
   split at e2
   ·
    simp at e2
   ·
    rename_i hc
    rw [if_neg hab, if_neg hc]
    exact ⟨by simp only; omega, by simp; omega, fun x hx => by have := h.hp x hx; omega⟩
 ·
  unfold cutOf at e2 ⊢
  split at e2
  ·
   simp at e2
  ·
   rename_i hc
   rw [if_neg hc]
   have hl := List.length_filter_le (fun x : EdgeD => !(x.id == o.a)) g.edges
   exact ⟨by simp only; omega, by simp only; omega, fun x hx => by have := h.hp x hx; omega⟩
 ·
  unfold setOf at e2 ⊢
  split at e2
  ·
   simp at e2
  ·
   rename_i hn
   rw [if_neg hn]
   exact small_setN h (by have := putP_len (getOf g o.a).1 o.p o.v; have := h.getLen o.a; omega)
 ·
  unfold delOf at e2 ⊢
  split at e2
  ·
   rename_i hh
   rw [if_pos hh]
   exact small_setN h (by have := List.length_filter_le (fun p : P2 => !(p.x == o.p)) (getOf g o.a).1; have := h.getLen o.a; unfold delP; omega)
  ·
   simp at e2
 ·
  unfold dropOf at e2 ⊢
  split at e2
  ·
   simp at e2
  ·
   rename_i hc
   rw [if_neg hc]
   have hl1 := List.length_filter_le (fun x : NodeD => !(x.id == o.a)) g.nodes
   have hl2 := List.length_filter_le (fun x : EdgeD => !(x.frm == o.a || x.to == o.a)) g.edges
   exact ⟨by simp only; omega, by simp only; omega, fun x hx => by have := h.hp x (List.mem_filter.1 hx).1; omega⟩
 ·
  unfold fuseOf at e2 ⊢
  split at e2
  ·
   simp at e2
  ·
   rename_i hab
   split at e2
   ·
    simp at e2
   ·
    rename_i hn
    rw [if_neg hab, if_neg hn]
    have hq := small_setN (n := o.a) h (show (fuseP (getOf g o.a).1 (getOf g o.b).1).length ≤ 200 by have := fuseP_len (getOf g o.b).1 (getOf g o.a).1; have := h.getLen o.a; have := h.getLen o.b; omega)
    have hl1 := List.length_filter_le (fun x : NodeD => !(x.id == o.b)) (setN g.nodes o.a (fuseP (getOf g o.a).1 (getOf g o.b).1))
    have h1 := hq.1
    exact ⟨by simp only at h1 ⊢; omega, by simp only [List.length_map]; omega, fun x hx => hq.2.2 x (List.mem_filter.1 hx).1⟩


end Go.Proofs.YtpehmmdbjakkpaaGreat
