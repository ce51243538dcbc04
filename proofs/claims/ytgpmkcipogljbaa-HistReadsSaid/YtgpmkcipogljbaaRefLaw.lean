/- The document's check of a history, and its calls, are the fold's. -/
import Derived.Test.YtgpmkcipogljbaaEvs
namespace Go.Proofs.Ytgpmkcipogljbaa
open Go.RowKit
set_option linter.unusedSimpArgs false
set_option linter.unusedVariables false
theorem Ev.step {l : List EvD} {k : Nat} {x : EvD} {s s' : St} (hx : l[k]? = some x) (h : Ev l k s) (hs : step k x s = some s') : Ev l (k + 1) s' := by
  have hi := step_inv hs h.inv
  have hb := step_blank hs h.blank
  obtain ⟨_, _, ⟨hd, ho, hr, rfl⟩ | ⟨hd, p, c, hp, hc, ho, rfl⟩⟩ := step_cases hs
  · refine ⟨hi, hb, ?_, ?_, ?_, ?_⟩
    · intro i c hc
      rcases at_append hc with hc | ⟨_, rfl⟩
      · exact h.frm i c hc
      · exact ⟨x, by simpa using hx, hd, rfl, rfl⟩
    · intro i c hc hto
      rcases at_append hc with hc | ⟨_, rfl⟩
      · exact h.to i c hc hto
      · simp at hto
    · intro e
      show cnt (s.out ++ _) e = _
      rw [cnt_snoc, h.met e]
      simp only [hit]
      rw [if_neg (show ¬ ((-1 : Int) = (e : Int)) by omega)]
      by_cases h1 : e < k
      · rw [if_pos h1, if_neg (by omega), if_pos (by omega)]
      · rw [if_neg h1]
        by_cases h2 : e = k
        · rw [if_pos (by omega), if_pos (by omega)]
        · rw [if_neg (by omega), if_neg (by omega)]
    · have := h.len
      simp [pn] at this ⊢
      omega
  · obtain ⟨c', hc', hth, hto⟩ := h.inv.open_ x.th p hp
    rw [hc] at hc'
    injection hc' with hc'
    subst hc'
    have hto1 := (h.blank p c hc hto).1
    refine ⟨hi, hb, ?_, ?_, ?_, ?_⟩
    · intro i d hd1
      rcases at_set hd1 with ⟨_, hd1⟩ | ⟨_, rfl⟩
      · exact h.frm i d hd1
      · exact h.frm p c hc
    · intro i d hd1 hdt
      rcases at_set hd1 with ⟨_, hd1⟩ | ⟨_, rfl⟩
      · exact h.to i d hd1 hdt
      · exact ⟨x, by simpa using hx, hd, hth.symm, rfl⟩
    · intro e
      show cnt (s.out.set _ _) e = _
      have h1 := cnt_set e ⟨c.th, c.op, c.frm, k, x.res⟩ s.out p c hc
      have h2 := h.met e
      simp only [hit] at h1
      rw [h2, hto1, if_neg (show ¬ ((-1 : Int) = (e : Int)) by omega)] at h1
      by_cases h3 : e < k
      · rw [if_pos h3, if_neg (show ¬ ((k : Int) = (e : Int)) by omega)] at h1
        rw [if_pos (by omega)]
        omega
      · rw [if_neg h3] at h1
        by_cases h4 : e = k
        · rw [if_pos (show ((k : Int) = (e : Int)) by omega)] at h1
          rw [if_pos (by omega)]
          omega
        · rw [if_neg (show ¬ ((k : Int) = (e : Int)) by omega)] at h1
          rw [if_neg (by omega)]
          omega
    · have h1 := pn_set ⟨c.th, c.op, c.frm, k, x.res⟩ s.out p c hc
      rw [if_pos hto, if_neg (by simp only; omega)] at h1
      have := h.len
      simp only [List.length_set]
      omega
def cntT (l : List EvD) (q : Int) : Nat := (l.filter fun y => decide (y.th = q)).length
theorem cntT_succ {l : List EvD} {k : Nat} {x : EvD} (h : l[k]? = some x) (q : Int) : cntT (l.take (k + 1)) q = cntT (l.take k) q + (if x.th = q then 1 else 0) := by
  unfold cntT
  rw [List.take_add_one, h, Option.toList_some, List.filter_append, List.length_append]
  by_cases hq : x.th = q
  · simp [hq]
  · simp [hq]
def IsNext (l : List EvD) (q : Int) (i : Nat) (r : Int) : Prop := (r = -1 ∧ ∀ (m : Nat) (y : EvD), i < m → l[m]? = some y → y.th ≠ q) ∨ (∃ (k : Nat) (y : EvD), r = (k : Int) ∧ i < k ∧ l[k]? = some y ∧ y.th = q ∧ ∀ (m : Nat) (z : EvD), i < m → m < k → l[m]? = some z → z.th ≠ q)
theorem IsNext.uniq {l : List EvD} {q : Int} {i : Nat} {r r' : Int} (h : IsNext l q i r) (h' : IsNext l q i r') : r = r' := by
  rcases h with ⟨rfl, h1⟩ | ⟨k, y, rfl, h1, h2, h3, h4⟩
  · rcases h' with ⟨rfl, _⟩ | ⟨k', y', rfl, h1', h2', h3', h4'⟩
    · rfl
    · exact absurd h3' (h1 k' y' h1' h2')
  · rcases h' with ⟨rfl, h1'⟩ | ⟨k', y', rfl, h1', h2', h3', h4'⟩
    · exact absurd h3 (h1' k y h1 h2)
    · rcases Nat.lt_trichotomy k k' with hk | rfl | hk
      · exact absurd h3 (h4' k y h1 hk h2)
      · rfl
      · exact absurd h3' (h4 k' y' h1' hk h2')
def RefAt (l : List EvD) (i : Nat) (x : EvD) : Prop := 0 ≤ x.th ∧ x.th ≤ 63 ∧ x.done = decide (cntT (l.take i) x.th % 2 = 1) ∧ (x.done = false → x.res = ResD.zero) ∧ (x.done = false → ∀ (k : Nat) (y : EvD), IsNext l x.th i (k : Int) → l[k]? = some y → y.op = x.op)
def RefOK (l : List EvD) : Prop := ∀ (i : Nat) (x : EvD), l[i]? = some x → RefAt l i x
def notDone (l : List EvD) (i : Nat) : Bool := match l[i]? with
  | some x => !x.done
  | none => false
def frmsOf (l : List EvD) (k : Nat) : List Int := ((List.range k).filter (notDone l)).map (fun i : Nat => (i : Int))
theorem frmsOf_succ {l : List EvD} {k : Nat} {x : EvD} (h : l[k]? = some x) : frmsOf l (k + 1) = frmsOf l k ++ (if x.done = false then [(k : Int)] else []) := by
  unfold frmsOf
  rw [List.range_succ, List.filter_append, List.map_append]
  have : notDone l k = !x.done := by unfold notDone; rw [h]
  cases hd : x.done <;> simp [List.filter, this, hd]
structure RI (l : List EvD) (k : Nat) (s : St) : Prop where
  ev : Ev l k s
  par : ∀ q, (s.opn q).isSome = decide (cntT (l.take k) q % 2 = 1)
  nx : ∀ (i : Nat) (c : CallD), s.out[i]? = some c → ∀ (m : Nat) (y : EvD), c.frm.toNat < m → (0 ≤ c.to → m < c.to.toNat) → m < k → l[m]? = some y → y.th ≠ c.th
  frms : s.out.map (fun c => c.frm) = frmsOf l k
  opok : ∀ (i : Nat) (c : CallD), s.out[i]? = some c → 0 ≤ c.to → ∃ y, l[c.to.toNat]? = some y ∧ y.op = c.op
  chk : ∀ (i : Nat) (x : EvD), i < k → l[i]? = some x → 0 ≤ x.th ∧ x.th ≤ 63 ∧ x.done = decide (cntT (l.take i) x.th % 2 = 1) ∧ (x.done = false → x.res = ResD.zero)
theorem map_set_same {α β : Type} (f : α → β) (y : α) : ∀ (xs : List α) (p : Nat) (c : α), xs[p]? = some c → f y = f c → (xs.set p y).map f = xs.map f := by
  intro xs
  induction xs with
  | nil => intro p c h; simp at h
  | cons z xs ih =>
    intro p c h hf
    cases p with
    | zero => simp at h; subst h; simp [hf]
    | succ p =>
      have h : xs[p]? = some c := by simpa using h
      have := ih p c h hf
      simp [this]
theorem RI.zero (l : List EvD) : RI l 0 St.zero := ⟨⟨Inv.zero, fun i c h => by simp [St.zero] at h, fun i c h => by simp [St.zero] at h, fun i c h => by simp [St.zero] at h, fun e => by simp [St.zero, cnt], by simp [St.zero, pn]⟩, fun q => by simp [St.zero, cntT], fun i c h => by simp [St.zero] at h, rfl, fun i c h => by simp [St.zero] at h, fun i x h => by omega⟩
theorem RI.step {l : List EvD} {k : Nat} {x : EvD} {s s' : St} (hx : l[k]? = some x) (h : RI l k s) (hs : step k x s = some s') (hev : Ev l (k + 1) s') : RI l (k + 1) s' := by
  obtain ⟨t1, t2, hc⟩ := step_cases hs
  have hchk : x.done = decide (cntT (l.take k) x.th % 2 = 1) ∧ (x.done = false → x.res = ResD.zero) := by
    rcases hc with ⟨hd, ho, hr, _⟩ | ⟨hd, p, c, hp, _⟩
    · have := h.par x.th
      rw [ho] at this
      exact ⟨by rw [hd]; exact this, fun _ => hr⟩
    · have := h.par x.th
      rw [hp] at this
      exact ⟨by rw [hd]; exact this, fun e => by rw [hd] at e; cases e⟩
  have CH : ∀ (i : Nat) (z : EvD), i < k + 1 → l[i]? = some z → 0 ≤ z.th ∧ z.th ≤ 63 ∧ z.done = decide (cntT (l.take i) z.th % 2 = 1) ∧ (z.done = false → z.res = ResD.zero) := by
    intro i z hi hz
    rcases Nat.lt_or_ge i k with h1 | h1
    · exact h.chk i z h1 hz
    · obtain rfl : i = k := by omega
      rw [hx] at hz
      injection hz with hz
      subst hz
      exact ⟨t1, by omega, hchk⟩
  rcases hc with ⟨hd, ho, hr, rfl⟩ | ⟨hd, p, c, hp, hc, hop, rfl⟩
  · refine ⟨hev, ?_, ?_, ?_, ?_, CH⟩
    · intro q
      rw [cntT_succ hx]
      have h1 := h.par q
      by_cases hq : x.th = q
      · subst hq
        rw [ho] at h1
        have h2 : ¬ (cntT (l.take k) x.th % 2 = 1) := fun e => by rw [decide_eq_true e] at h1; cases h1
        rw [if_pos rfl]
        simp only [upd]
        rw [decide_eq_true (by omega)]
        simp
      · rw [if_neg hq]
        simp only [upd]
        rw [if_neg (fun e => hq e.symm)]
        exact h1
    · intro i c hc m y hm hmt hmk hy
      rcases at_append hc with hc2 | ⟨_, rfl⟩
      · rcases Nat.lt_or_ge m k with h1 | h1
        · exact h.nx i c hc2 m y hm hmt h1 hy
        · obtain rfl : m = k := by omega
          rw [hx] at hy
          injection hy with hy
          subst hy
          intro e
          have he := h.ev.inv.each i c hc2
          by_cases hto : 0 ≤ c.to
          · have := hmt hto
            omega
          · have := h.ev.inv.opened i c hc2 (by omega)
            rw [← e, ho] at this
            cases this
      · have : k < m := by simpa using hm
        omega
    · rw [frmsOf_succ hx, if_pos hd, List.map_append, h.frms]
      rfl
    · intro i c hc hto
      rcases at_append hc with hc | ⟨_, rfl⟩
      · exact h.opok i c hc hto
      · simp at hto
  · obtain ⟨c', hc', hth, hto⟩ := h.ev.inv.open_ x.th p hp
    rw [hc] at hc'
    injection hc' with hc'
    subst hc'
    refine ⟨hev, ?_, ?_, ?_, ?_, CH⟩
    · intro q
      rw [cntT_succ hx]
      have h1 := h.par q
      by_cases hq : x.th = q
      · subst hq
        rw [hp] at h1
        have h2 : cntT (l.take k) x.th % 2 = 1 := of_decide_eq_true h1.symm
        rw [if_pos rfl]
        simp only [upd]
        rw [decide_eq_false (by omega)]
        simp
      · rw [if_neg hq]
        simp only [upd]
        rw [if_neg (fun e => hq e.symm)]
        exact h1
    · intro i d hd1 m y hm hmt hmk hy
      rcases at_set hd1 with ⟨hip, hd2⟩ | ⟨_, rfl⟩
      · rcases Nat.lt_or_ge m k with h1 | h1
        · exact h.nx i d hd2 m y hm hmt h1 hy
        · obtain rfl : m = k := by omega
          rw [hx] at hy
          injection hy with hy
          subst hy
          intro e
          have he := h.ev.inv.each i d hd2
          by_cases hto2 : 0 ≤ d.to
          · have := hmt hto2
            omega
          · have := h.ev.inv.opened i d hd2 (by omega)
            rw [← e, hp] at this
            injection this with this
            omega
      · have h1 := hmt (by simp only; omega)
        simp only [Int.toNat_natCast] at h1
        exact h.nx p c hc m y hm (fun e => by omega) h1 hy
    · rw [frmsOf_succ hx, if_neg (by rw [hd]; simp), List.append_nil, ← h.frms]
      exact map_set_same _ _ _ p c hc rfl
    · intro i d hd1 hdt
      rcases at_set hd1 with ⟨_, hd1⟩ | ⟨_, rfl⟩
      · exact h.opok i d hd1 hdt
      · exact ⟨x, by simpa using hx, hop.symm⟩
theorem runL_pre {l : List EvD} {P : Nat → St → Prop} (h0 : P 0 St.zero) (hs : ∀ (k : Nat) (x : EvD) (s s' : St), l[k]? = some x → P k s → step k x s = some s' → P (k + 1) s') : ∀ (k : Nat) (s : St), k ≤ l.length → runL (l.take k) = some s → P k s := by
  intro k
  induction k with
  | zero => intro s _ hr; rw [List.take_zero] at hr; injection hr with hr; subst hr; exact h0
  | succ k ih =>
    intro s hk hr
    obtain ⟨x, hx⟩ : ∃ x, l[k]? = some x := ⟨l[k], List.getElem?_eq_getElem (by omega)⟩
    rw [runL_succ hx] at hr
    cases h1 : runL (l.take k) with
    | none => rw [h1] at hr; cases hr
    | some s0 =>
      rw [h1] at hr
      exact hs k x s0 s hx (ih s0 (by omega) h1) hr
theorem runL_ri {l : List EvD} (k : Nat) (s : St) (hk : k ≤ l.length) (h : runL (l.take k) = some s) : RI l k s :=
  runL_pre (P := fun k s => RI l k s) (RI.zero l) (fun k x s s' hx h hs => h.step hx hs (Ev.step hx h.ev hs)) k s hk h
theorem ri_of {l : List EvD} {t : St} (h : runL l = some t) : RI l l.length t := runL_ri l.length t (Nat.le_refl _) (by rw [List.take_length]; exact h)
theorem mem_frms {l : List EvD} {i : Nat} {x : EvD} (hi : l[i]? = some x) (hd : x.done = false) : (i : Int) ∈ frmsOf l l.length := by
  have hl : i < l.length := (List.getElem?_eq_some_iff.1 hi).1
  unfold frmsOf
  refine List.mem_map.2 ⟨i, List.mem_filter.2 ⟨List.mem_range.2 hl, ?_⟩, rfl⟩
  unfold notDone
  rw [hi]
  simp [hd]
theorem RI.next {l : List EvD} {t : St} (h : RI l l.length t) {i : Nat} {c : CallD} (hc : t.out[i]? = some c) : IsNext l c.th c.frm.toNat c.to := by
  have he := h.ev.inv.each i c hc
  by_cases hto : 0 ≤ c.to
  · obtain ⟨y, hy, _, hyt, _⟩ := h.ev.to i c hc hto
    exact .inr ⟨c.to.toNat, y, by omega, by have := he.2.2.2 hto; omega, hy, hyt, fun m z h1 h2 hz => h.nx i c hc m z h1 (fun _ => h2) (List.getElem?_eq_some_iff.1 hz).1 hz⟩
  · exact .inl ⟨(h.ev.blank i c hc (by omega)).1, fun m y h1 hy => h.nx i c hc m y h1 (fun e => absurd e hto) (List.getElem?_eq_some_iff.1 hy).1 hy⟩
theorem ok_of_run {l : List EvD} {t : St} (h : runL l = some t) : RefOK l := by
  have H := ri_of h
  intro i x hx
  have hl : i < l.length := (List.getElem?_eq_some_iff.1 hx).1
  obtain ⟨h1, h2, h3, h4⟩ := H.chk i x hl hx
  refine ⟨h1, h2, h3, h4, fun hd k y hn hy => ?_⟩
  have hm := mem_frms hx hd
  rw [← H.frms] at hm
  obtain ⟨c, hcm, hcf⟩ := List.mem_map.1 hm
  obtain ⟨j, hc⟩ := List.mem_iff_getElem?.1 hcm
  obtain ⟨x', hx', _, hxo, hxt⟩ := H.ev.frm j c hc
  have e1 : c.frm.toNat = i := by omega
  rw [e1, hx] at hx'
  injection hx' with hx'
  subst hx'
  have hn2 := H.next hc
  rw [e1, ← hxt] at hn2
  have e2 := hn.uniq hn2
  obtain ⟨y', hy', hyo⟩ := H.opok j c hc (by omega)
  rw [← e2, Int.toNat_natCast, hy] at hy'
  injection hy' with hy'
  subst hy'
  rw [hyo, hxo]
theorem run_of_ok {l : List EvD} (h : RefOK l) : ∃ t, runL l = some t := by
  have H : ∀ k, k ≤ l.length → ∃ s, runL (l.take k) = some s := by
    intro k
    induction k with
    | zero => intro _; exact ⟨St.zero, by rw [List.take_zero]; rfl⟩
    | succ k ih =>
      intro hk
      obtain ⟨s, hs⟩ := ih (by omega)
      have R := runL_ri k s (by omega) hs
      obtain ⟨x, hx⟩ : ∃ x, l[k]? = some x := ⟨l[k], List.getElem?_eq_getElem (by omega)⟩
      obtain ⟨h1, h2, h3, h4, h5⟩ := h k x hx
      rw [runL_succ hx, hs]
      show ∃ s', step k x s = some s'
      have hp := R.par x.th
      rw [← h3] at hp
      have hg : ¬ (x.th < 0 ∨ 64 ≤ x.th ∨ (s.opn x.th).isSome ≠ x.done) := by
        rintro (e | e | e)
        · omega
        · omega
        · exact e hp
      cases hd : x.done with
      | false => exact ⟨_, step_new hg hd (h4 hd)⟩
      | true =>
        rw [hd] at hp
        obtain ⟨p, hp⟩ := Option.isSome_iff_exists.1 hp
        obtain ⟨c, hc, hct, hto⟩ := R.ev.inv.open_ x.th p hp
        obtain ⟨x0, hx0, hd0, ho0, ht0⟩ := R.ev.frm p c hc
        have he := R.ev.inv.each p c hc
        have hn : IsNext l x0.th c.frm.toNat (k : Int) := .inr ⟨k, x, rfl, by omega, hx, by rw [ht0, hct], fun m z h1 h2 hz => by rw [ht0]; exact R.nx p c hc m z h1 (fun e => by omega) h2 hz⟩
        have := (h _ x0 hx0).2.2.2.2 hd0 k x hn hx
        exact ⟨_, step_done hg hd hp hc (by rw [this, ho0])⟩
  obtain ⟨s, hs⟩ := H l.length (Nat.le_refl _)
  rw [List.take_length] at hs
  exact ⟨s, hs⟩
def RCall (l : List EvD) (c : CallD) : Prop := 0 ≤ c.frm ∧ ∃ x, l[c.frm.toNat]? = some x ∧ c.th = x.th ∧ c.op = x.op ∧ IsNext l x.th c.frm.toNat c.to ∧ (c.to < 0 → c.res = ResD.zero) ∧ (0 ≤ c.to → ∃ y, l[c.to.toNat]? = some y ∧ c.res = y.res)
theorem RCall.uniq {l : List EvD} {c d : CallD} (h : RCall l c) (h' : RCall l d) (e : c.frm = d.frm) : c = d := by
  obtain ⟨h0, x, hx, h1, h2, h3, h4, h5⟩ := h
  obtain ⟨h0', x', hx', h1', h2', h3', h4', h5'⟩ := h'
  rw [← e, hx] at hx'
  injection hx' with hx'
  subst hx'
  rw [← e] at h3'
  have e2 := h3.uniq h3'
  have e3 : c.res = d.res := by
    by_cases hto : 0 ≤ c.to
    · obtain ⟨y, hy, hr⟩ := h5 hto
      obtain ⟨y', hy', hr'⟩ := h5' (by omega)
      rw [← e2, hy] at hy'
      injection hy' with hy'
      subst hy'
      rw [hr, hr']
    · rw [h4 (by omega), h4' (by omega)]
  obtain ⟨a1, a2, a3, a4, a5⟩ := c
  obtain ⟨b1, b2, b3, b4, b5⟩ := d
  simp only at *
  subst e e2 e3 h1 h2 h1' h2'
  rfl
theorem calls_eq {l : List EvD} {t : St} (h : runL l = some t) {rs : List CallD} (hf : rs.map (fun c => c.frm) = frmsOf l l.length) (hr : ∀ (i : Nat) (c : CallD), rs[i]? = some c → RCall l c) : t.out = rs := by
  have H := ri_of h
  have hm := H.frms.trans hf.symm
  refine List.ext_getElem? fun i => ?_
  have hmi : (t.out.map (fun c => c.frm))[i]? = (rs.map (fun c => c.frm))[i]? := by rw [hm]
  rw [List.getElem?_map, List.getElem?_map] at hmi
  cases h1 : t.out[i]? with
  | none =>
    rw [h1] at hmi
    cases h2 : rs[i]? with
    | none => rfl
    | some d => rw [h2] at hmi; cases hmi
  | some c =>
    rw [h1] at hmi
    cases h2 : rs[i]? with
    | none => rw [h2] at hmi; cases hmi
    | some d =>
      rw [h2] at hmi
      have e : c.frm = d.frm := by injection hmi
      have hc : RCall l c := by
        obtain ⟨x, hx, hd, ho, ht⟩ := H.ev.frm i c h1
        have hn := H.next h1
        refine ⟨(H.ev.inv.each i c h1).1, x, hx, ht.symm, ho.symm, by rw [ht]; exact hn, fun e => (H.ev.blank i c h1 e).2, fun e => ?_⟩
        obtain ⟨y, hy, _, _, hyr⟩ := H.ev.to i c h1 e
        exact ⟨y, hy, hyr.symm⟩
      rw [hc.uniq (hr i d h2) e]
end Go.Proofs.Ytgpmkcipogljbaa
