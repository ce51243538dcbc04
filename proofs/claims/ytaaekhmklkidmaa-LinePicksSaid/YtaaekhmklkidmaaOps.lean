/- line.Ops: numbers, cut into fives, as operations. -/
import Derived.Test.YtaaekhmklkidmaaChunk
import Derived.Test.YtaaekhmklkidmaaLib4
namespace Go.Proofs.Ytaaekhmklkidmaa
open Go.RowKit Go.Shelf
attribute [local go_sem] Oper.semAt_some
set_option linter.unusedSimpArgs false
set_option linter.unusedVariables false
theorem opsTo_parts (l : List Int) : opsTo l (parts l.length) = opsOf l := by
  unfold opsOf
  by_cases h : parts l.length = l.length / 5
  · rw [h]
  · have e : parts l.length = l.length / 5 + 1 := by unfold parts at h ⊢; omega
    rw [e, opsTo_succ]
    have h5 : (chunk l (l.length / 5)).length ≠ 5 := by
      unfold chunk
      rw [List.length_take, List.length_drop]
      unfold parts at e
      omega
    rw [opl, opOf_ne h5]
    simp
def opsAt (l : List Int) (pre : List Nat) : List OpD := pre.flatMap fun k => opl (chunk l k)
theorem opsAt_no {l : List Int} {x : Nat} (h : (opOf (chunk l x)).2 = false) (pre : List Nat) : opsAt l (pre ++ [x]) = opsAt l pre := by simp [opsAt, opl, h]
theorem opsAt_yes {l : List Int} {x : Nat} (h : (opOf (chunk l x)).2 = true) (pre : List Nat) : opsAt l (pre ++ [x]) = opsAt l pre ++ [(opOf (chunk l x)).1] := by simp [opsAt, opl, h]
theorem opsAt_le (l : List Int) (pre : List Nat) : (opsAt l pre).length ≤ pre.length := by
  induction pre with
  | nil => simp [opsAt]
  | cons a r ih =>
    have h1 : opsAt l (a :: r) = opl (chunk l a) ++ opsAt l r := by simp [opsAt]
    rw [h1, List.length_append, List.length_cons]
    have := opl_le (chunk l a)
    omega
set_option maxRecDepth 100000 in
set_option maxHeartbeats 2000000 in
theorem ops_in (n : Nat) (hn : 3 ≤ n) (w : World) (S : Nat → Prop) (v : Value) (l : List Int) (h : Row tInt w S v l) (hlen : l.length ≤ 1000000) : CallsIn Fence.wide n Try.prog 15 #[v] w (RetOwn tOp 23 w (opsOf l)) := by
  obtain ⟨A, c, rfl⟩ := h.slice
  have H := Lib.hid h
  clear h
  have h1 : 1 ≤ n := by omega
  refine callsIn_of_wp_marks Try.func15 rfl trivial ?_ rfl
  simp only [Try.ntmps15, List.size_toArray, List.length_cons, List.length_nil, Nat.reduceAdd, Nat.reduceSub, Array.replicate_succ, Array.replicate_zero, List.push_toArray, List.append_toArray, List.nil_append, List.cons_append]
  gi_wp2_with fail
  refine ⟨trivial, ?_⟩
  refine (chunk_in (n - 1) _ _ _ _).mono ?_
  rintro e w' ⟨rfl, rfl⟩
  gi_wp2_with fail
  have bO := Boxed.new w 30 (.slice none 0 0)
  have bS := Boxed.new (w.alloc (.cells #[.slice none 0 0] 30)) 24 (.slice A l.length c)
  have bN := Boxed.new ((w.alloc (.cells #[.slice none 0 0] 30)).alloc (.cells #[.slice A l.length c] 24)) 3 (.int .i64 5)
  rw [World.size_alloc] at bS
  rw [World.size_alloc, World.size_alloc] at bN
  have hB0 : Below w.heap.size w (((w.alloc (.cells #[.slice none 0 0] 30)).alloc (.cells #[.slice A l.length c] 24)).alloc (.cells #[.int .i64 5] 3)) := (((Below.refl _ w).alloc (Nat.le_refl _) _).alloc (by simp) _).alloc (by simp; omega) _
  have hB1 := Lib.hid hB0
  refine wpIn_rangeFunc_ownG rfl h1 (gf := 23) (lb := #[.pointer (some ⟨w.heap.size + 1, 0, none⟩), .pointer (some ⟨w.heap.size + 1 + 1, 0, none⟩)]) rfl trivial (enters_of Try.func23 (by kernel_rfl) rfl)
    (chunk_stops (n - 1) (by omega) (w.heap.size + 1) (w.heap.size + 1 + 1) _ S l hlen _ (bS.alloc _).cell bN.cell (H.out.below hB0)) (fun h1 h2 => h1.trans h2) (fun W lb o o' hl hb _ _ => kept_putObj W lb o' (by simp at hl; rintro (rfl | rfl) <;> omega)) (Below.refl _ _) (fun _ => rfl)
    (fun pre W => HeldF tOp 30 23 (w.heap.size + 3) w.heap.size (opsAt l) pre W ∧ Below w.heap.size w W)
    (fun _ _ _ => False)
    (OwnFrom.and (heldF_own tOp (fun h => h) _ _ _ _ _ _) (ownFrom_below (Nat.le_refl _) (by simp; omega)))
    (fun _ _ _ _ _ hs _ _ => hs)
    ⟨⟨_, (bO.alloc _).alloc _, Own.nil _ _ _ _, by simp⟩, hB0⟩
    (fun x => { tmps := #[.slice A l.length c, undef, .slice none 0 0, .pointer (some ⟨w.heap.size, 0, none⟩), partOf (.slice A l.length c) x, undef, undef, .slice A l.length c, .func (.func 23) #[] #[.pointer (some ⟨w.heap.size + 1, 0, none⟩), .pointer (some ⟨w.heap.size + 1 + 1, 0, none⟩)], partOf (.slice A l.length c) x, undef, undef, undef, undef, undef, undef, undef, undef, undef, undef, undef], defers := [] }) ?assign ?body ?done ?stop
  case assign =>
    intro lr x W K hK
    gi_wp2
    exact hK
  case body =>
    rintro lr pre x W ⟨⟨v, hv, ho, hn3⟩, hB⟩ hlt
    have hr := Lib.hid (partOf_row (H.out.below hB) x)
    have HV := Lib.hid hv
    have HO := Lib.hid ho
    have HB := Lib.hid hB
    have hszB := hB.size
    clear hv ho hB
    have hN : 1 ≤ n - 1 - 1 := by omega
    gi_wp2_with fail
    refine ⟨trivial, ?_⟩
    refine (CallsIn.inRound lr (callsIn_wide.2 (op_calls _ _ _ _ hr.out))).mono ?_
    rintro e w1 ⟨rfl, hb1⟩
    have HB1 := Lib.hid hb1
    have hsz1 := hb1.size
    have hv1 : Boxed w1 w.heap.size 30 v := (hb1.block _ HV.out.lt).trans HV.out
    clear hb1
    simp only [opV, OpD.val]
    cases h2 : (opOf (chunk l x)).2
    · have e1 := opsAt_no h2 pre
      have HE := Lib.hid e1
      clear h2 e1 hv1
      gi_wp2
      have hb2 := HB1.out.alloc hsz1 (.cells #[.int .i64 (opOf (chunk l x)).1.kind, .int .i64 (opOf (chunk l x)).1.a, .int .i64 (opOf (chunk l x)).1.b, .int .i64 (opOf (chunk l x)).1.k, .int .i64 (opOf (chunk l x)).1.v] 23)
      exact ⟨keepsFrom_below hb2, (Kept.refl W _).below hb2, ⟨v, (hb2.block _ HV.out.lt).trans HV.out, by rw [HE.out]; exact HO.out.below hb2, Nat.le_trans hn3 hb2.size⟩, HB.out.trans (hb2.mono hszB)⟩
    · have e1 := opsAt_yes h2 pre
      have HE := Lib.hid e1
      have hle := opsAt_le l pre
      have hlt2 : parts l.length ≤ 200001 := by unfold parts; omega
      clear h2 e1
      have hc1 := hv1.cell
      have hf1 := hv1.frozen
      have hlt1 := hv1.lt
      have hb2 := Lib.hid (HB1.out.alloc hsz1 (.cells #[.int .i64 (opOf (chunk l x)).1.kind, .int .i64 (opOf (chunk l x)).1.a, .int .i64 (opOf (chunk l x)).1.b, .int .i64 (opOf (chunk l x)).1.k, .int .i64 (opOf (chunk l x)).1.v] 23))
      have hb3 := Lib.hid (HB.out.trans (hb2.out.mono hszB))
      gi_wp2_with (gi_at_builtin; refine wpListIn_own_append1 (ty := tOp) (w := w) (S := fun k => w.heap.size + 3 ≤ k) (Sy := fun _ => False) (v := v) (xs := opsAt l pre) (x := (opOf (chunk l x)).1) rfl _ _ 30 23 40 _ rfl elemOp rfl ?hown rfl (by simp) rfl ?hB ?hSw ?hSn ?hbytes ?hlen (fun _ h => h.elim) ?_)
      case hown => exact HO.out.below hb2.out
      case hB => exact hb3.out
      case hSw => exact fun k (h1 : w.heap.size + 3 ≤ k) => by omega
      case hSn => exact fun k h1 h2 => by rw [World.size_alloc] at h2; show w.heap.size + 3 ≤ k; omega
      case hbytes => omega
      case hlen => unfold maxLen; omega
      intro v2 w2 ho2 _ hg2 _
      obtain ⟨A2, c2, rfl⟩ := ho2.slice
      rw [show (opsAt l pre ++ [(opOf (chunk l x)).1]).length = (opsAt l pre).length + 1 from by simp] at ho2
      obtain ⟨k1, k2, k3, k4, k5⟩ := heldF_appended (n₀ := w.heap.size) (B0 := (((w.alloc (.cells #[.slice none 0 0] 30)).alloc (.cells #[.slice A l.length c] 24)).alloc (.cells #[.int .i64 5] 3)).heap.size) (s' := pre ++ [x]) HV.out HO.out (Nat.le_refl _) (by omega) hn3 hb2.out hg2 (by rw [HE.out]; exact ho2)
      have hc2 := k1.cell
      have hf2 := k1.frozen
      have K1 := Lib.hid k1
      have K2 := Lib.hid k2
      have K3 := Lib.hid k3
      have K4 := Lib.hid k4
      have K5 := Lib.hid k5
      clear k1 k2 k3 k4 k5 ho2 hg2 hc1 hf1
      gi_wp2
      exact ⟨K3.out, ⟨K5.out.1, fun k hk hl => K5.out.2 k (by rcases hk with rfl | rfl <;> constructor <;> omega) hl⟩, K2.out, HB.out.trans K4.out⟩
  case done =>
    rintro D ys W hD rfl ⟨⟨v, hv, ho, hn3⟩, hB⟩ hK
    have hc := hv.cell
    obtain ⟨A2, c2, rfl⟩ := ho.slice
    have HO := Lib.hid ho
    have HB := Lib.hid hB
    clear ho hB
    gi_wp2
    refine ⟨by simp, .inl ⟨_, _, rfl, run_takeDeferred hK, ?_⟩⟩
    refine ⟨_, results_tmp rfl _ _ _, RetOwn.mk ?_ (HB.out.trans (belowK_b (w := w) (Nat.le_refl _) W D _ _ (by simp at hD; omega) hK rfl rfl))⟩
    rw [← opsTo_parts]
    refine Own.moveF (fun h => h) (HO.out.mono fun k (hk : w.heap.size + 3 ≤ k) _ => by omega) fun k hk => ?_
    obtain ⟨cs, hcs⟩ := HO.out.cells hk
    exact World.putObj_heap_other (by rintro rfl; rw [hcs] at hK; cases hK)
  case stop =>
    rintro D cc pre W _ _ hx _
    exact hx.elim
theorem ops_calls (w : World) (S : Nat → Prop) (v : Value) (l : List Int) (h : Row tInt w S v l) (hlen : l.length ≤ 1000000) : Calls Try.prog 15 #[v] w (RetOwn tOp 23 w (opsOf l)) := callsIn_wide.1 (ops_in 3 (Nat.le_refl _) w S v l h hlen)
end Go.Proofs.Ytaaekhmklkidmaa
