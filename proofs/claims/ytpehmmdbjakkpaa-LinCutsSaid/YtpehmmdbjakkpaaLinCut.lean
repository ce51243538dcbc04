/- The plain law of LinCuts: an order of a history gives one of the history, cut off anywhere. -/
import Derived.Test.YtpehmmdbjakkpaaLinFM
namespace Go.Proofs.Ytpehmmdbjakkpaa
open Go.RowKit Go.Shelf
set_option linter.unusedSimpArgs false
set_option linter.unusedVariables false
theorem cntF_append (sd : SD) (a b : List Int) : cntF sd (a ++ b) = cntF sd a + cntF sd b := by
  unfold cntF
  rw [List.filter_append, List.length_append]
theorem whole_last {sd : SD} {order : List Int} {many k : Int} (h : wholeB sd order many = true) (hk : order.getLast? = some k) : 0 ≤ toOf sd k := by
  unfold wholeB at h
  rw [hk] at h
  simp only [Bool.and_eq_true, decide_eq_true_eq] at h
  exact h.2
theorem last_tail {a r : List Int} {n : Int} : ∃ m, (a ++ n :: r).getLast? = some m ∧ m ∈ n :: r := by
  refine ⟨(n :: r).getLast (by simp), ?_, List.getLast_mem _⟩
  rw [List.getLast?_append, List.getLast?_eq_some_getLast (l := n :: r) (by simp)]
  rfl
/-- Where a whole order goes on from a path, the search behind the path finds one. -/
theorem complete {sd : SD} (hl : sd.calls.length ≤ 10) : ∀ (f : Nat) (p x : PathD) (r : List Int), OrdP sd p → sd.calls.length ≤ f + p.order.length → walkF sd p r = some x → wholeB sd x.order x.many = true → ¬ pathsF sd f p = [] := by
  intro f
  induction f with
  | zero =>
    intro p x r hp hf hw hx
    cases r with
    | nil =>
      injection hw with hw
      subst hw
      unfold pathsF
      rw [if_pos hx]
      simp
    | cons n r =>
      unfold walkF at hw
      split at hw
      · rename_i hn
        have h1 := (hp.next hl hn).good.len
        rw [next_order hn, List.length_append, List.length_singleton] at h1
        omega
      · cases hw
  | succ f ih =>
    intro p x r hp hf hw hx
    rw [pathsF_eq]
    split
    · simp
    · rename_i hnw
      cases r with
      | nil => injection hw with hw; subst hw; exact absurd hx hnw
      | cons n r =>
        have hw0 := hw
        unfold walkF at hw
        split at hw
        case isFalse => cases hw
        rename_i hn
        have hq := hp.next hl hn
        obtain ⟨k, rfl⟩ := next_nat hn
        obtain ⟨y, hy, _, _⟩ := next_some hn
        have hk : k < sd.calls.length := (List.getElem?_eq_some_iff.1 hy).1
        split
        · rename_i hm
          exfalso
          have ho := walk_order _ _ _ hw0
          have hP := walk_ind (P := OrdP sd) (fun p n h hn => h.next hl hn) _ _ _ hw0 hp
          have h1 := hP.cnt
          have h2 := hp.cnt
          have h3 := whole_need hx
          obtain ⟨m, hm1, hm2⟩ := @last_tail p.order r (k : Int)
          rw [← ho] at hm1
          have h4 := whole_last hx hm1
          rw [ho, cntF_append] at h1
          have h5 : 0 < cntF sd ((k : Int) :: r) := List.length_pos_of_mem (List.mem_filter.2 ⟨hm2, by simpa using h4⟩)
          omega
        · intro he
          rw [List.flatMap_eq_nil_iff] at he
          have h1 := he k (List.mem_range.2 hk)
          rw [kid_yes hn] at h1
          exact ih _ x r hq (by rw [next_order hn, List.length_append, List.length_singleton]; omega) hw hx h1
theorem next_is {sd : SD} {p : PathD} {n : Nat} {x : CallD} (hx : sd.calls[n]? = some x) (hr : readyB sd p.order n = true) : nextF sd p (n : Int) = if x.to < 0 then (⟨p.order ++ [(n : Int)], (doOf sd.c p.g x.op).1, p.many⟩, true) else (⟨p.order ++ [(n : Int)], (fitsF sd.c p.g x.op x.res).1, p.many + 1⟩, (fitsF sd.c p.g x.op x.res).2) := by
  unfold nextF
  rw [if_neg (by omega), Int.toNat_natCast, hx]
  simp only
  rw [hr, if_neg (by simp)]
theorem ready_old {sd : SD} {order : List Int} {n : Nat} {x c : CallD} {i : Nat} (hr : readyB sd order n = true) (hx : sd.calls[n]? = some x) (hc : sd.calls[i]? = some c) (hb : beforeB c x = true) : ∃ j ∈ order, frmOf sd j = c.frm := by
  unfold readyB at hr
  rw [hx] at hr
  simp only [Bool.and_eq_true, Bool.not_eq_true'] at hr
  have h := List.any_eq_false.1 hr.2 c (List.mem_of_getElem? hc)
  unfold blocks at h
  rw [hb, Bool.true_and] at h
  cases ha : (order.any fun k => frmOf sd k == c.frm) with
  | false => rw [ha] at h; simp at h
  | true =>
    obtain ⟨j, hj, he⟩ := List.any_eq_true.1 ha
    exact ⟨j, hj, by simpa using he⟩
theorem ready_made {sd : SD} {order : List Int} {n : Nat} {x : CallD} (hx : sd.calls[n]? = some x) (hn : (n : Int) ∉ order) (h : ∀ (i : Nat) (c : CallD), sd.calls[i]? = some c → beforeB c x = true → ∃ j ∈ order, frmOf sd j = c.frm) : readyB sd order n = true := by
  unfold readyB
  rw [hx]
  simp only [Bool.and_eq_true, Bool.not_eq_true']
  refine ⟨List.any_eq_false.2 fun y hy he => ?_, List.any_eq_false.2 fun c hc he => ?_⟩
  · rw [beq_iff_eq] at he
    rw [he] at hn
    exact hn hy
  · obtain ⟨i, hi⟩ := List.getElem?_of_mem hc
    unfold blocks at he
    simp only [Bool.and_eq_true, Bool.not_eq_true'] at he
    obtain ⟨j, hj, e⟩ := h i c hi he.1
    have := List.any_eq_false.1 he.2 j hj
    rw [e] at this
    simp at this
/-- Of calls that rise, two that began at one place are one. -/
theorem frm_one {t : St} {T : Nat} (ht : t.Inv T) {i j : Nat} {c d : CallD} (hc : t.out[i]? = some c) (hd : t.out[j]? = some d) (h : c.frm = d.frm) : i = j := by
  rcases Nat.lt_trichotomy i j with h1 | h1 | h1
  · have := ht.asc i j c d h1 hc hd; omega
  · exact h1
  · have := ht.asc j i d c h1 hd hc; omega
/-- A call that has its result within the cut. -/
def InCut (t : St) (k : Nat) (j : Int) : Prop := ∃ (i : Nat) (d : CallD), j = (i : Int) ∧ t.out[i]? = some d ∧ 0 ≤ d.to ∧ d.to < (k : Int)
/-- A path of the history, and one of the cut history. -/
structure Sim (t : St) (k : Nat) (p p' : PathD) : Prop where
  g : p'.g = p.g
  sub : ∀ j ∈ p'.order, j ∈ p.order
  has : ∀ j ∈ p.order, InCut t k j → j ∈ p'.order
theorem cut_in {k : Nat} {d : CallD} (h : 0 ≤ (cut k d).to) : cut k d = d ∧ d.to < (k : Int) := by
  unfold cut at h ⊢
  split
  · rename_i h1; rw [if_pos h1] at h; simp at h
  · rename_i h1; exact ⟨rfl, by omega⟩
theorem cut_frm (k : Nat) (d : CallD) : (cut k d).frm = d.frm ∧ (cut k d).op = d.op := by unfold cut; split <;> exact ⟨rfl, rfl⟩
theorem cut_no {k : Nat} {d : CallD} (h : d.to < (k : Int)) : cut k d = d := by unfold cut; rw [if_neg (by omega)]
theorem cut_yes {k : Nat} {d : CallD} (h : (k : Int) ≤ d.to) : cut k d = ⟨d.th, d.op, d.frm, -1, ResD.nil⟩ := by unfold cut; rw [if_pos h]
theorem Sim.both {t : St} {k : Nat} {p p' q q' : PathD} {n : Int} (h : Sim t k p p') (hg : q'.g = q.g) (h1 : q.order = p.order ++ [n]) (h2 : q'.order = p'.order ++ [n]) : Sim t k q q' := by
  refine ⟨hg, fun j hj => ?_, fun j hj hc => ?_⟩
  · rw [h2] at hj
    rw [h1]
    rcases List.mem_append.1 hj with hj | hj
    · exact List.mem_append.2 (.inl (h.sub j hj))
    · exact List.mem_append.2 (.inr hj)
  · rw [h1] at hj
    rw [h2]
    rcases List.mem_append.1 hj with hj | hj
    · exact List.mem_append.2 (.inl (h.has j hj hc))
    · exact List.mem_append.2 (.inr hj)
theorem sim_step {sd sd' : SD} {s t : St} {k T : Nat} (hsd : sd.calls = t.out) (hsd' : sd'.calls = s.out) (hcc : sd'.c = sd.c) (hL : Later k s t) (ht : t.Inv T) {p p' : PathD} (hS : Sim t k p p') (hin : InR sd p.order) {n : Nat} {d : CallD} (hd : t.out[n]? = some d) (hlt : n < s.out.length) (hn : (nextF sd p (n : Int)).2 = true) :
    ((nextF sd' p' (n : Int)).2 = true ∧ Sim t k (nextF sd p (n : Int)).1 (nextF sd' p' (n : Int)).1) ∨ (¬ InCut t k (n : Int) ∧ Sim t k (nextF sd p (n : Int)).1 p') := by
  obtain ⟨c0, hc0⟩ := getElem?_of_lt hlt
  have e0 := hL.old n c0 d hc0 hd
  obtain ⟨x, hx, hr, hcase⟩ := next_some hn
  have hox := next_order hn
  have hd' := hd
  rw [← hsd] at hd'
  rw [hd'] at hx
  injection hx with hx
  subst hx
  have hc0' := hc0
  rw [← hsd'] at hc0'
  have hr' : readyB sd' p'.order n = true := by
    refine ready_made hc0' (fun h => ready_new hr (hS.sub _ h)) fun i e hi hb => ?_
    rw [hsd'] at hi
    obtain ⟨di, hdi⟩ := getElem?_of_lt (show i < t.out.length by have := hL.len; have := (List.getElem?_eq_some_iff.1 hi).1; omega)
    have ei := hL.old i e di hi hdi
    unfold beforeB at hb
    simp only [Bool.and_eq_true, decide_eq_true_eq] at hb
    obtain ⟨hb1, hb2⟩ := hb
    rw [ei] at hb1
    obtain ⟨ec, hk⟩ := cut_in hb1
    rw [ec] at ei hb1
    rw [ei, e0, (cut_frm k d).1] at hb2
    obtain ⟨j, hj, ej⟩ := ready_old hr hd' (by rw [hsd]; exact hdi) (by unfold beforeB; simp only [Bool.and_eq_true, decide_eq_true_eq]; exact ⟨hb1, hb2⟩)
    obtain ⟨hj0, hj1⟩ := hin j hj
    obtain ⟨m, rfl⟩ : ∃ m : Nat, j = (m : Int) := ⟨j.toNat, (Int.toNat_of_nonneg hj0).symm⟩
    obtain ⟨dm, hdm⟩ := getElem?_of_lt (show m < sd.calls.length by omega)
    rw [frmOf_at hdm] at ej
    rw [hsd] at hdm
    obtain rfl := frm_one ht hdm hdi ej
    refine ⟨(m : Int), hS.has _ hj ⟨m, di, rfl, hdi, hb1, hk⟩, ?_⟩
    rw [frmOf_at (c := e) (by rw [hsd']; exact hi)]
  have hnx := next_is hc0' hr'
  rcases hcase with ⟨h1, e⟩ | ⟨h1, e⟩
  · left
    rw [cut_no (by omega)] at e0
    rw [e0, if_pos h1] at hnx
    refine ⟨by rw [hnx], hS.both (n := (n : Int)) ?_ hox (by rw [hnx])⟩
    rw [hnx, e]
    simp only
    rw [hcc, hS.g]
  · by_cases h2 : d.to < (k : Int)
    · left
      rw [cut_no h2] at e0
      rw [e0, if_neg (by omega), hcc, hS.g] at hnx
      rw [e] at hn
      refine ⟨by rw [hnx]; exact hn, hS.both (n := (n : Int)) ?_ hox (by rw [hnx])⟩
      rw [hnx, e]
    · rw [cut_yes (by omega)] at e0
      rw [e0, if_pos (by simp), hcc, hS.g] at hnx
      by_cases hdo : (doOf sd.c p.g d.op).2 = d.res
      · left
        refine ⟨by rw [hnx], hS.both (n := (n : Int)) ?_ hox (by rw [hnx])⟩
        rw [hnx, e]
        simp only
        unfold fitsF
        rw [if_pos hdo]
      · right
        have hno : ¬ InCut t k (n : Int) := by
          rintro ⟨i, d2, h3, h4, _, h5⟩
          obtain rfl : n = i := by omega
          rw [hd] at h4
          injection h4 with h4
          subst h4
          exact h2 h5
        refine ⟨hno, ?_, fun j hj => ?_, fun j hj hc => ?_⟩
        · rw [e]
          simp only
          unfold fitsF
          rw [if_neg hdo, hS.g]
        · rw [hox]
          exact List.mem_append.2 (.inl (hS.sub j hj))
        · rw [hox] at hj
          rcases List.mem_append.1 hj with hj | hj
          · exact hS.has j hj hc
          · rw [List.mem_singleton] at hj
            subst hj
            exact absurd hc hno
theorem sim_walk {sd sd' : SD} {s t : St} {k T : Nat} (hsd : sd.calls = t.out) (hsd' : sd'.calls = s.out) (hcc : sd'.c = sd.c) (hl : sd.calls.length ≤ 10) (hL : Later k s t) (ht : t.Inv T) : ∀ (r : List Int) (p p' x : PathD), Sim t k p p' → OrdP sd p → walkF sd p r = some x → (∀ (n : Nat) (d : CallD), (n : Int) ∈ r → t.out[n]? = some d → d.frm < (k : Int)) →
    ∃ r' x', walkF sd' p' r' = some x' ∧ Sim t k x x' ∧ (r = [] → r' = []) ∧ ∀ m, r.getLast? = some m → InCut t k m → r'.getLast? = some m := by
  intro r
  induction r with
  | nil =>
    intro p p' x hS hp hw _
    injection hw with hw
    subst hw
    exact ⟨[], p', rfl, hS, fun _ => rfl, fun m hm => by cases hm⟩
  | cons n r ih =>
    intro p p' x hS hp hw hf
    unfold walkF at hw
    split at hw
    case isFalse => cases hw
    rename_i hn
    have hq := hp.next hl hn
    obtain ⟨i, rfl⟩ := next_nat hn
    obtain ⟨d, hd, _, _⟩ := next_some hn
    rw [hsd] at hd
    have h1 := hf i d (List.mem_cons_self ..) hd
    have hlt : i < s.out.length := by
      rcases Nat.lt_or_ge i s.out.length with h | h
      · exact h
      · have := hL.new i d h hd; omega
    have hf' : ∀ (n : Nat) (d : CallD), (n : Int) ∈ r → t.out[n]? = some d → d.frm < (k : Int) := fun n d h => hf n d (List.mem_cons_of_mem _ h)
    rcases sim_step hsd hsd' hcc hL ht hS hp.good.inr hd hlt hn with ⟨h2, h3⟩ | ⟨h2, h3⟩
    · obtain ⟨r', x', h4, h5, h6, h7⟩ := ih _ _ x h3 hq hw hf'
      refine ⟨(i : Int) :: r', x', by unfold walkF; rw [if_pos h2]; exact h4, h5, fun h => (by cases h), fun m hm hc => ?_⟩
      rw [List.getLast?_cons] at hm ⊢
      cases hr : r.getLast? with
      | none =>
        rw [hr] at hm
        rw [h6 (List.getLast?_eq_none_iff.1 hr)]
        exact hm
      | some m' =>
        rw [hr] at hm
        simp only [Option.getD_some, Option.some.injEq] at hm
        subst hm
        rw [h7 m' hr hc]
        rfl
    · obtain ⟨r', x', h4, h5, h6, h7⟩ := ih _ _ x h3 hq hw hf'
      cases r with
      | nil =>
        injection hw with hw
        subst hw
        refine ⟨[], p', rfl, h3, fun _ => rfl, fun m hm hc => ?_⟩
        simp only [List.getLast?_singleton, Option.some.injEq] at hm
        subst hm
        exact absurd hc h2
      | cons n' r =>
        refine ⟨r', x', h4, h5, fun h => by (cases h), fun m hm hc => h7 m ?_ hc⟩
        rw [List.getLast?_cons_cons] at hm
        exact hm
theorem short_prefix (Q : Int → Prop) : ∀ (r : List Int), ∃ r1 r2, r = r1 ++ r2 ∧ (∀ j ∈ r2, ¬ Q j) ∧ (r1 = [] ∨ ∃ a m, r1 = a ++ [m] ∧ Q m) := by
  intro r
  induction r with
  | nil => exact ⟨[], [], rfl, fun j hj => by (cases hj), .inl rfl⟩
  | cons n r ih =>
    obtain ⟨r1, r2, h1, h2, h3⟩ := ih
    rcases h3 with h3 | ⟨a, m, h3, h4⟩
    · subst h3
      by_cases hq : Q n
      · exact ⟨[n], r2, by rw [h1]; rfl, h2, .inr ⟨[], n, rfl, hq⟩⟩
      · refine ⟨[], n :: r, rfl, fun j hj => ?_, .inl rfl⟩
        rcases List.mem_cons.1 hj with e | hj
        · rw [e]; exact hq
        · rw [h1] at hj; exact h2 j hj
    · exact ⟨n :: r1, r2, by rw [h1]; rfl, h2, .inr ⟨n :: a, m, by rw [h3]; rfl, h4⟩⟩
theorem cut_law {c : CfgD} {l : List EvD} {k : Nat} (hk : k ≤ l.length) (h : (firstD (startD c l) fun _ => true).2 = 0) : (firstD (startD c (l.take k)) fun _ => true).2 = 0 := by
  rcases firstD_cases (startD c l) (fun _ => true) with ⟨sd, y, hs, hf, e⟩ | e | ⟨_, _, _, e⟩
  case inr.inl => rw [e] at h; cases h
  case inr.inr => rw [e] at h; cases h
  clear e h
  obtain ⟨tt, htt⟩ := find_head hf
  obtain ⟨r, h1, h2⟩ := pathsF_walk sd sd.calls.length PathD.start y (by rw [show pathsF sd sd.calls.length PathD.start = orders sd from rfl, htt]; exact List.mem_cons_self ..)
  obtain ⟨t, hrun, hok, hlen, hsd⟩ := startD_some hs
  obtain ⟨s, hrun', hL⟩ := runL_cut hk hrun
  have hinv := runL_inv hrun
  have hlen' : s.out.length ≤ 10 := Nat.le_trans hL.len hlen
  obtain ⟨sd', hsd'⟩ : ∃ sd' : SD, sd' = ⟨c, s.out, (s.out.length : Int) - pendOf s.out⟩ := ⟨_, rfl⟩
  have hs' : startD c (l.take k) = some sd' := by unfold startD; rw [hrun']; simp only; rw [if_pos ⟨hok, hlen'⟩, hsd']
  have e1 : sd.calls = t.out := by rw [hsd]
  have e1' : sd'.calls = s.out := by rw [hsd']
  have e2 : sd'.c = sd.c := by rw [hsd, hsd']
  have hok1 : sd.c.ok := by rw [hsd]; exact hok
  have hok2 : sd'.c.ok := by rw [hsd']; exact hok
  have hl1 : sd.calls.length ≤ 10 := by rw [e1]; exact hlen
  have hl2 : sd'.calls.length ≤ 10 := by rw [e1']; exact hlen'
  have hneed : sd.need = (sd.calls.length : Int) - pendOf sd.calls := by rw [hsd]
  have hneed' : sd'.need = (sd'.calls.length : Int) - pendOf sd'.calls := by rw [hsd']
  have hy := walk_ind (P := OrdP sd) (fun p n h hn => h.next hl1 hn) _ _ _ h1 (OrdP.start hok1)
  have hyo : y.order = r := walk_order _ _ _ h1
  obtain ⟨r1, r2, hr, hr2, hr1⟩ := short_prefix (InCut t k) r
  obtain ⟨x1, hx1⟩ : ∃ x1, walkF sd PathD.start r1 = some x1 := by
    rw [hr, walkF_append] at h1
    cases hq : walkF sd PathD.start r1 with
    | none => rw [hq] at h1; cases h1
    | some q => exact ⟨q, rfl⟩
  have hP1 := walk_ind (P := OrdP sd) (fun p n h hn => h.next hl1 hn) _ _ _ hx1 (OrdP.start hok1)
  have hx1o : x1.order = r1 := walk_order _ _ _ hx1
  have hfrm : ∀ (n : Nat) (d : CallD), (n : Int) ∈ r1 → t.out[n]? = some d → d.frm < (k : Int) := by
    rcases hr1 with hr1 | ⟨a, m, hr1, m0, dm, rfl, hdm, hm0, hmk⟩
    · intro n d hn; rw [hr1] at hn; cases hn
    · subst hr1
      obtain ⟨q, hq, hqn, _⟩ := walkF_init hx1
      have hqo : q.order = a := walk_order _ _ _ hq
      have hnew : (m0 : Int) ∉ q.order := by
        obtain ⟨_, _, hrd, _⟩ := next_some hqn
        exact ready_new hrd
      have hB := walk_ind (P := fun p => OrdP sd p ∧ ∀ (n : Nat) (d : CallD), (n : Int) ∈ p.order → t.out[n]? = some d → (k : Int) ≤ d.frm → (m0 : Int) ∈ p.order) (fun p n hp hn => by
        refine ⟨hp.1.next hl1 hn, fun i d hi hd hkd => ?_⟩
        rw [next_order hn] at hi ⊢
        rcases List.mem_append.1 hi with hi | hi
        · exact List.mem_append.2 (.inl (hp.2 i d hi hd hkd))
        · rw [List.mem_singleton] at hi
          subst hi
          obtain ⟨z, hz, hrd, _⟩ := next_some hn
          obtain ⟨j, hj, ej⟩ := ready_old hrd (by rw [e1]; exact hd) (i := m0) (c := dm) (by rw [e1]; exact hdm) (by unfold beforeB; simp only [Bool.and_eq_true, decide_eq_true_eq]; exact ⟨hm0, by omega⟩)
          obtain ⟨hj0, hj1⟩ := hp.1.good.inr j hj
          obtain ⟨j', rfl⟩ : ∃ j' : Nat, j = (j' : Int) := ⟨j.toNat, (Int.toNat_of_nonneg hj0).symm⟩
          obtain ⟨dj, hdj⟩ := getElem?_of_lt (show j' < sd.calls.length by omega)
          rw [frmOf_at hdj] at ej
          rw [e1] at hdj
          obtain rfl := frm_one hinv hdj hdm ej
          exact List.mem_append.2 (.inl hj)) _ _ _ hq ⟨OrdP.start hok1, fun n d hn => by simp [PathD.start] at hn⟩
      intro n d hn hd
      rcases List.mem_append.1 hn with hn | hn
      · apply Classical.byContradiction
        intro hkd
        exact hnew (hB.2 n d (by rw [hqo]; exact hn) hd (by omega))
      · rw [List.mem_singleton] at hn
        obtain rfl : n = m0 := by omega
        rw [hd] at hdm
        injection hdm with hdm
        subst hdm
        have := (hinv.each n d hd).2.2.2 hm0
        omega
  obtain ⟨r', x', hw', hS, hn', hlast⟩ := sim_walk e1 e1' e2 hl1 hL hinv r1 PathD.start PathD.start x1 ⟨rfl, fun j hj => hj, fun j hj _ => hj⟩ (OrdP.start hok1) hx1 hfrm
  have hP' := walk_ind (P := OrdP sd') (fun p n h hn => h.next hl2 hn) _ _ _ hw' (OrdP.start hok2)
  have hx'o : x'.order = r' := walk_order _ _ _ hw'
  have hmany : x'.many = sd'.need := all_whole hP' hneed' fun i c0 hc0 hto => by
    rw [e1'] at hc0
    obtain ⟨d, hd⟩ := getElem?_of_lt (show i < t.out.length by have := hL.len; have := (List.getElem?_eq_some_iff.1 hc0).1; omega)
    have e0 := hL.old i c0 d hc0 hd
    rw [e0] at hto
    obtain ⟨ec, hdk⟩ := cut_in hto
    rw [ec] at hto
    have hic : InCut t k (i : Int) := ⟨i, d, rfl, hd, hto, hdk⟩
    have hm := whole_all hy hneed (whole_need h2) (i := i) (c := d) (by rw [e1]; exact hd) hto
    rw [hyo, hr] at hm
    rcases List.mem_append.1 hm with hm | hm
    · exact hS.has _ (by rw [hx1o]; exact hm) hic
    · exact absurd hic (hr2 _ hm)
  have hwhole : wholeB sd' x'.order x'.many = true := by
    unfold wholeB
    rw [hmany, hx'o]
    simp only [beq_self_eq_true, Bool.true_and]
    rcases hr1 with hr1 | ⟨a, m, hr1, hm⟩
    · rw [hn' hr1]; rfl
    · rw [hlast m (by rw [hr1]; simp) hm]
      obtain ⟨m0, dm, rfl, hdm, hm0, hmk⟩ := hm
      have hlt : m0 < s.out.length := by
        rcases Nat.lt_or_ge m0 s.out.length with h | h
        · exact h
        · have h3 := hL.new m0 dm h hdm
          have := (hinv.each m0 dm hdm).2.2.2 hm0
          omega
      obtain ⟨c0, hc0⟩ := getElem?_of_lt hlt
      have e0 := hL.old m0 c0 dm hc0 hdm
      rw [cut_no hmk] at e0
      simp only [decide_eq_true_eq]
      rw [toOf_at (c := c0) (by rw [e1']; exact hc0), e0]
      exact hm0
  have hne := complete hl2 sd'.calls.length PathD.start x' r' (OrdP.start hok2) (by omega) hw' hwhole
  rw [hs']
  unfold firstD
  simp only
  cases ho : orders sd' with
  | nil => exact absurd ho hne
  | cons z zs => rfl
end Go.Proofs.Ytpehmmdbjakkpaa
