/- The plain law of LinSerial: what one thread does has its own order, the first of all. -/
import Derived.Test.YtpehmmdbjakkpaaLinFM
namespace Go.Proofs.Ytpehmmdbjakkpaa
open Go.RowKit Go.Shelf
set_option linter.unusedSimpArgs false
set_option linter.unusedVariables false
def evsZ : List (OpD × ResD) → List EvD
  | [] => []
  | z :: zs => ⟨0, false, z.1, ResD.nil⟩ :: ⟨0, true, z.1, z.2⟩ :: evsZ zs
def callsZ : Nat → List (OpD × ResD) → List CallD
  | _, [] => []
  | j, z :: zs => ⟨0, z.1, ((2 * j : Nat) : Int), ((2 * j + 1 : Nat) : Int), z.2⟩ :: callsZ (j + 1) zs
theorem evsZ_append : ∀ (a b : List (OpD × ResD)), evsZ (a ++ b) = evsZ a ++ evsZ b := by
  intro a b
  induction a with
  | nil => rfl
  | cons z a ih => simp only [List.cons_append, evsZ, ih]
theorem evsZ_len : ∀ (a : List (OpD × ResD)), (evsZ a).length = 2 * a.length := by
  intro a
  induction a with
  | nil => rfl
  | cons z a ih => simp only [evsZ, List.length_cons, ih]; omega
theorem evsZ_mem : ∀ (a : List (OpD × ResD)) (x : EvD), x ∈ evsZ a → x.th = 0 ∧ (x.res = ResD.nil ∨ ∃ z ∈ a, x.res = z.2) := by
  intro a
  induction a with
  | nil => intro x h; cases h
  | cons z a ih =>
    intro x h
    simp only [evsZ, List.mem_cons] at h
    rcases h with rfl | rfl | h
    · exact ⟨rfl, .inl rfl⟩
    · exact ⟨rfl, .inr ⟨z, List.mem_cons_self .., rfl⟩⟩
    · obtain ⟨h1, h2⟩ := ih x h
      refine ⟨h1, h2.imp id ?_⟩
      rintro ⟨y, h3, h4⟩
      exact ⟨y, List.mem_cons_of_mem _ h3, h4⟩
theorem callsZ_len : ∀ (a : List (OpD × ResD)) (j : Nat), (callsZ j a).length = a.length := by
  intro a
  induction a with
  | nil => intro j; rfl
  | cons z a ih => intro j; simp only [callsZ, List.length_cons, ih]
theorem callsZ_get : ∀ (a : List (OpD × ResD)) (j i : Nat) (z : OpD × ResD), a[i]? = some z → (callsZ j a)[i]? = some ⟨0, z.1, ((2 * (j + i) : Nat) : Int), ((2 * (j + i) + 1 : Nat) : Int), z.2⟩ := by
  intro a
  induction a with
  | nil => intro j i z h; simp at h
  | cons y a ih =>
    intro j i z h
    cases i with
    | zero =>
      simp only [List.getElem?_cons_zero, Option.some.injEq] at h
      subst h
      rfl
    | succ i =>
      simp only [List.getElem?_cons_succ] at h
      have := ih (j + 1) i z h
      simp only [callsZ, List.getElem?_cons_succ]
      rw [this, show j + 1 + i = j + (i + 1) from by omega]
theorem runZ : ∀ (a : List (OpD × ResD)) (pre : List CallD), runF (2 * pre.length) (evsZ a) ⟨pre, fun _ => none⟩ = some ⟨pre ++ callsZ pre.length a, fun _ => none⟩ := by
  intro a
  induction a with
  | nil => intro pre; simp [evsZ, callsZ, runF]
  | cons z a ih =>
    intro pre
    have h1 : step (2 * pre.length) ⟨0, false, z.1, ResD.nil⟩ ⟨pre, fun _ => none⟩ = some ⟨pre ++ [⟨0, z.1, ((2 * pre.length : Nat) : Int), -1, ResD.nil⟩], upd (fun _ => none) 0 (some pre.length)⟩ :=
      step_new (x := ⟨0, false, z.1, ResD.nil⟩) (by simp) rfl rfl
    have h2 : step (2 * pre.length + 1) ⟨0, true, z.1, z.2⟩ ⟨pre ++ [⟨0, z.1, ((2 * pre.length : Nat) : Int), -1, ResD.nil⟩], upd (fun _ => none) 0 (some pre.length)⟩ = some ⟨(pre ++ [(⟨0, z.1, ((2 * pre.length : Nat) : Int), -1, ResD.nil⟩ : CallD)]).set pre.length ⟨0, z.1, ((2 * pre.length : Nat) : Int), ((2 * pre.length + 1 : Nat) : Int), z.2⟩, upd (upd (fun _ => none) 0 (some pre.length)) 0 none⟩ :=
      step_done (s := ⟨pre ++ [⟨0, z.1, ((2 * pre.length : Nat) : Int), -1, ResD.nil⟩], upd (fun _ => none) 0 (some pre.length)⟩) (x := ⟨0, true, z.1, z.2⟩) (p := pre.length) (c := ⟨0, z.1, ((2 * pre.length : Nat) : Int), -1, ResD.nil⟩) (by simp [upd]) rfl (by simp [upd]) (by simp) rfl
    have h3 : upd (upd (fun _ => none) 0 (some pre.length)) 0 none = fun _ => none := by
      funext x
      unfold upd
      split <;> rfl
    have h4 : (pre ++ [(⟨0, z.1, ((2 * pre.length : Nat) : Int), -1, ResD.nil⟩ : CallD)]).set pre.length ⟨0, z.1, ((2 * pre.length : Nat) : Int), ((2 * pre.length + 1 : Nat) : Int), z.2⟩ = pre ++ [⟨0, z.1, ((2 * pre.length : Nat) : Int), ((2 * pre.length + 1 : Nat) : Int), z.2⟩] := by
      rw [List.set_append_right _ _ (Nat.le_refl _), Nat.sub_self]
      rfl
    have h5 := ih (pre ++ [⟨0, z.1, ((2 * pre.length : Nat) : Int), ((2 * pre.length + 1 : Nat) : Int), z.2⟩])
    rw [List.length_append, List.length_singleton] at h5
    simp only [evsZ, runF]
    rw [h1, Option.bind_some]
    rw [h2, Option.bind_some, h3, h4, show 2 * pre.length + 1 + 1 = 2 * (pre.length + 1) from by omega, h5, List.append_assoc]
    rfl
theorem runLZ (a : List (OpD × ResD)) : runL (evsZ a) = some ⟨callsZ 0 a, fun _ => none⟩ := runZ a []
theorem pendZ : ∀ (a : List (OpD × ResD)) (j : Nat), pendOf (callsZ j a) = 0 := by
  intro a
  induction a with
  | nil => intro j; rfl
  | cons z a ih =>
    intro j
    have := ih (j + 1)
    unfold pendOf at this ⊢
    simp only [callsZ]
    rw [List.filter_cons_of_neg (by simp; omega)]
    exact this
def ordI (n : Nat) : List Int := (List.range n).map fun i : Nat => (i : Int)
theorem ordI_succ (n : Nat) : ordI (n + 1) = ordI n ++ [(n : Int)] := by
  unfold ordI
  rw [List.range_succ, List.map_append]
  rfl
theorem ordI_mem {n : Nat} {k : Int} : k ∈ ordI n ↔ ∃ i : Nat, i < n ∧ k = (i : Int) := by
  unfold ordI
  rw [List.mem_map]
  constructor
  · rintro ⟨i, h1, h2⟩; exact ⟨i, List.mem_range.1 h1, h2.symm⟩
  · rintro ⟨i, h1, h2⟩; exact ⟨i, List.mem_range.2 h1, h2.symm⟩
theorem ordI_len (n : Nat) : (ordI n).length = n := by unfold ordI; simp
theorem resG_get {c : CfgD} {g : GraphD} {l : List OpD} : ∀ {n i : Nat} {o : OpD}, i < n → n ≤ l.length → l[i]? = some o → (resG c g l n)[i]? = some (doOf c (stG c g l i) o).2 := by
  intro n
  induction n with
  | zero => intro i o h; omega
  | succ n ih =>
    intro i o h1 h2 h3
    obtain ⟨o', ho'⟩ := getElem?_of_lt (show n < l.length by omega)
    have hl : (resG c g l n).length = n := resG_len (by omega)
    rw [resG_succ ho', List.getElem?_append]
    by_cases h : i < n
    · rw [if_pos (by omega)]
      exact ih h (by omega) h3
    · obtain rfl : i = n := by omega
      rw [if_neg (by omega), hl, Nat.sub_self]
      rw [h3] at ho'
      injection ho' with ho'
      subst ho'
      rfl
def zipZ (c : CfgD) (ops : List OpD) : List (OpD × ResD) := ops.zip (resG c .new ops ops.length)
theorem zipZ_len (c : CfgD) (ops : List OpD) : (zipZ c ops).length = ops.length := by
  unfold zipZ
  rw [List.length_zip, resG_len (Nat.le_refl _), Nat.min_self]
theorem zipZ_get {c : CfgD} {ops : List OpD} {i : Nat} {o : OpD} (h : ops[i]? = some o) : (zipZ c ops)[i]? = some (o, (doOf c (stG c .new ops i) o).2) := by
  unfold zipZ
  have h1 := resG_get (c := c) (g := .new) (at_lt' h) (Nat.le_refl _) h
  rw [List.getElem?_zip_eq_some]
  exact ⟨h, h1⟩
where at_lt' {α : Type} {l : List α} {i : Nat} {x : α} (h : l[i]? = some x) : i < l.length := (List.getElem?_eq_some_iff.1 h).1
def sdZ (c : CfgD) (ops : List OpD) : SD := ⟨c, callsZ 0 (zipZ c ops), (ops.length : Int)⟩
theorem startZ {c : CfgD} {ops : List OpD} (hc : c.ok) (hn : ops.length ≤ 10) : startD c (evsZ (zipZ c ops)) = some (sdZ c ops) := by
  unfold startD
  rw [runLZ]
  simp only
  have h := callsZ_len (zipZ c ops) 0
  rw [zipZ_len] at h
  rw [if_pos ⟨hc, by omega⟩, pendZ]
  unfold sdZ
  congr 2
  omega
def pathZ (c : CfgD) (ops : List OpD) (i : Nat) : PathD := ⟨ordI i, stG c .new ops i, (i : Int)⟩
theorem callZ {c : CfgD} {ops : List OpD} {i : Nat} {o : OpD} (h : ops[i]? = some o) : (sdZ c ops).calls[i]? = some ⟨0, o, ((2 * i : Nat) : Int), ((2 * i + 1 : Nat) : Int), (doOf c (stG c .new ops i) o).2⟩ := by
  have := callsZ_get _ 0 i _ (zipZ_get (c := c) h)
  rw [Nat.zero_add] at this
  exact this
theorem callZ_at {c : CfgD} {ops : List OpD} {i : Nat} {x : CallD} (h : (sdZ c ops).calls[i]? = some x) : i < ops.length ∧ x.frm = ((2 * i : Nat) : Int) ∧ x.to = ((2 * i + 1 : Nat) : Int) := by
  have h1 : i < ops.length := by
    have := (List.getElem?_eq_some_iff.1 h).1
    unfold sdZ at this
    simp only at this
    rw [callsZ_len, zipZ_len] at this
    exact this
  obtain ⟨o, ho⟩ := getElem?_of_lt h1
  rw [callZ ho] at h
  injection h with h
  subst h
  exact ⟨h1, rfl, rfl⟩
theorem nextZ {c : CfgD} {ops : List OpD} {i : Nat} (h : i < ops.length) : nextF (sdZ c ops) (pathZ c ops i) (i : Int) = (pathZ c ops (i + 1), true) := by
  obtain ⟨o, ho⟩ := getElem?_of_lt h
  have hx := callZ (c := c) ho
  have hr : readyB (sdZ c ops) (ordI i) i = true := by
    unfold readyB
    rw [hx]
    simp only [Bool.and_eq_true, Bool.not_eq_true']
    refine ⟨List.any_eq_false.2 fun y hy he => ?_, List.any_eq_false.2 fun d hd he => ?_⟩
    · obtain ⟨j, hj, rfl⟩ := ordI_mem.1 hy
      rw [beq_iff_eq] at he
      omega
    · obtain ⟨j, hj⟩ := List.getElem?_of_mem hd
      obtain ⟨h1, h2, h3⟩ := callZ_at hj
      unfold blocks beforeB at he
      simp only [Bool.and_eq_true, Bool.not_eq_true', decide_eq_true_eq] at he
      obtain ⟨⟨_, h4⟩, h5⟩ := he
      rw [h3] at h4
      have := List.any_eq_false.1 h5 (j : Int) (ordI_mem.2 ⟨j, by omega, rfl⟩)
      rw [frmOf_at hj] at this
      simp at this
  unfold nextF
  rw [if_neg (by omega), Int.toNat_natCast, hx]
  simp only
  rw [show (pathZ c ops i).order = ordI i from rfl, hr, if_neg (by simp), if_neg (by omega)]
  unfold fitsF
  rw [show (pathZ c ops i).g = stG c .new ops i from rfl, show (sdZ c ops).c = c from rfl, if_pos rfl]
  unfold pathZ
  rw [ordI_succ, stG_succ ho]
  simp
theorem oldZ {c : CfgD} {ops : List OpD} {i j : Nat} (h : j < i) (hi : i ≤ ops.length) : (nextF (sdZ c ops) (pathZ c ops i) (j : Int)).2 = false := by
  obtain ⟨o, ho⟩ := getElem?_of_lt (show j < ops.length by omega)
  have hx := callZ (c := c) ho
  have hr : readyB (sdZ c ops) (pathZ c ops i).order j = false := by
    show readyB (sdZ c ops) (ordI i) j = false
    unfold readyB
    rw [hx]
    simp only
    rw [List.any_eq_true.2 ⟨(j : Int), ordI_mem.2 ⟨j, h, rfl⟩, by simp⟩]
    rfl
  unfold nextF
  rw [if_neg (by omega), Int.toNat_natCast, hx]
  simp only
  rw [hr, if_pos rfl]
theorem wholeZ {c : CfgD} {ops : List OpD} : wholeB (sdZ c ops) (pathZ c ops ops.length).order (pathZ c ops ops.length).many = true := by
  unfold wholeB
  rw [show (pathZ c ops ops.length).many = (sdZ c ops).need from rfl, show (pathZ c ops ops.length).order = ordI ops.length from rfl]
  simp only [beq_self_eq_true, Bool.true_and]
  cases hl : (ordI ops.length).getLast? with
  | none => rfl
  | some k =>
    obtain ⟨j, hj, rfl⟩ := ordI_mem.1 (List.mem_of_getLast? hl)
    obtain ⟨o, ho⟩ := getElem?_of_lt hj
    simp only [decide_eq_true_eq]
    rw [toOf_at (callZ ho)]
    simp only
    omega
theorem headZ {c : CfgD} {ops : List OpD} : ∀ (f i : Nat), i ≤ ops.length → ops.length ≤ f + i → ∃ t, pathsF (sdZ c ops) f (pathZ c ops i) = pathZ c ops ops.length :: t := by
  intro f
  induction f with
  | zero =>
    intro i h1 h2
    obtain rfl : i = ops.length := by omega
    exact ⟨[], by unfold pathsF; rw [if_pos wholeZ]⟩
  | succ f ih =>
    intro i h1 h2
    by_cases hi : i = ops.length
    · subst hi
      exact ⟨[], by rw [pathsF_eq, if_pos wholeZ]⟩
    · have hlt : i < ops.length := by omega
      have hm : ¬ (pathZ c ops i).many = (sdZ c ops).need := by
        show ¬ (i : Int) = (ops.length : Int)
        omega
      have hn := nextZ (c := c) hlt
      obtain ⟨t, ht⟩ := ih (i + 1) (by omega) (by omega)
      have hlen : i < (sdZ c ops).calls.length := by
        unfold sdZ
        simp only
        rw [callsZ_len, zipZ_len]
        exact hlt
      obtain ⟨later, hl⟩ := kids_split (sdZ c ops) (f + 1) (pathZ c ops i) hlen
      have h0 : (List.range i).flatMap (kid (sdZ c ops) (f + 1) (pathZ c ops i)) = [] := by
        rw [List.flatMap_eq_nil_iff]
        intro j hj
        exact kid_no (oldZ (List.mem_range.1 hj) h1)
      have hk : kid (sdZ c ops) (f + 1) (pathZ c ops i) i = pathZ c ops ops.length :: t := by
        rw [kid_yes (by rw [hn]), hn]
        exact ht
      refine ⟨t ++ later, ?_⟩
      rw [pathsF_eq, if_neg (fun h => hm (whole_need h)), if_neg hm, hl, h0, hk]
      rfl
theorem serial_law {c : CfgD} {ops : List OpD} (hc : c.ok) (hn : ops.length ≤ 10) : firstD (startD c (evsZ (zipZ c ops))) (fun _ => true) = (⟨ordI ops.length, stG c .new ops ops.length, (ops.length : Int)⟩, 0) := by
  rw [startZ hc hn]
  have hlen : (sdZ c ops).calls.length = ops.length := by
    unfold sdZ
    simp only
    rw [callsZ_len, zipZ_len]
  obtain ⟨t, ht⟩ := headZ (c := c) (ops := ops) ops.length 0 (Nat.zero_le _) (by omega)
  unfold firstD orders
  simp only
  rw [hlen, show PathD.start = pathZ c ops 0 from rfl, ht, List.find?_cons_of_pos rfl]
  rfl
end Go.Proofs.Ytpehmmdbjakkpaa
