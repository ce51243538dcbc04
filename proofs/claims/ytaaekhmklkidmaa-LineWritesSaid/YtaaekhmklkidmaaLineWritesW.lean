/- The walk of LineWrites. -/
import Derived.Test.YtaaekhmklkidmaaLinePlainW
import Derived.Test.YtaaekhmklkidmaaPicks
import Derived.Test.YtaaekhmklkidmaaSameI
namespace Go.Proofs.Ytaaekhmklkidmaa
open Go.RowKit
set_option linter.unusedSimpArgs false
set_option linter.unusedVariables false
set_option maxHeartbeats 8000000 in
theorem lineWrites_walk (w : World) (u : Value) (o : List OpD) (hu : Row tOp w (fun _ => True) u o) (oko : ∀ x ∈ o, x.ok) (v : Value) (l : List Int) (hr : Row tInt w (fun _ => True) v l) (okl : ∀ x ∈ l, okI x) (t : Int) (okt : okI t) : Calls Try.prog 8 #[u, v, .int .i64 t] w fun e w' => e = .returned (.bool true) ∧ Below w.heap.size w w' := by
  obtain ⟨A, c, rfl⟩ := hr.slice
  obtain ⟨B, d, rfl⟩ := hu.slice
  have HR := Lib.hid hr
  have HU := Lib.hid hu
  have OKL := Lib.hid okl
  have OKT := Lib.hid okt
  clear hr hu okl okt oko
  by_cases h500 : 500 < (l.length : Int)
  · go_enter Try.func8, Try.ntmps8
    go_wp2_with fail
    refine (live_calls _).mono ?_
    rintro e w1 ⟨rfl, hb1⟩
    have HB1 := Lib.hid hb1
    clear hb1
    go_wp2
    go_ret
    exact ⟨rfl, HB1.out⟩
  by_cases h100 : 100 < (o.length : Int)
  · go_enter Try.func8, Try.ntmps8
    go_wp2_with fail
    refine (live_calls _).mono ?_
    rintro e w1 ⟨rfl, hb1⟩
    have HB1 := Lib.hid hb1
    clear hb1
    go_wp2
    go_ret
    exact ⟨rfl, HB1.out⟩
  have HL := Lib.hid (show l.length ≤ 1000000 by omega)
  have HO := Lib.hid (show o.length ≤ 1000000 by omega)
  go_enter Try.func8, Try.ntmps8
  go_wp2_with fail
  refine (live_calls _).mono ?_
  rintro e w1 ⟨rfl, hb1⟩
  have K1 := Lib.hid hb1
  clear hb1
  have HU1 := Lib.hid (HU.out.below K1.out)
  go_wp2_with fail
  refine (write_calls _ _ _ _ HU1.out HO.out).mono ?_
  rintro e w2 ⟨v2, rfl, ho2, hb2⟩
  obtain ⟨A2, c2, rfl⟩ := ho2.slice
  have HO2 := Lib.hid ho2
  have s1 := K1.out.size
  have K2 := Lib.hid (K1.out.trans (hb2.mono s1))
  have s2 := K2.out.size
  clear ho2 hb2
  have HU2 := Lib.hid (HU.out.below K2.out)
  go_wp2_with fail
  refine (refWrite_calls _ _ _ _ HU2.out HO.out).mono ?_
  rintro e w3 ⟨v3, rfl, ho3, hb3⟩
  obtain ⟨A3, c3, rfl⟩ := ho3.slice
  have HO3 := Lib.hid ho3
  have HO2b := Lib.hid (HO2.out.below hb3)
  have K3 := Lib.hid (K2.out.trans (hb3.mono s2))
  have s3 := K3.out.size
  clear ho3 hb3
  go_wp2_with fail
  refine (sameInts_calls _ (fun _ => True) _ _ _ _ (HO2b.out.row.mono fun _ _ _ => trivial) (HO3.out.row.mono fun _ _ _ => trivial)).mono ?_
  rintro e w4 ⟨rfl, hb4⟩
  have K4 := Lib.hid (K3.out.trans (hb4.mono s3))
  have s4 := K4.out.size
  clear hb4
  simp only [decide_true]
  have HR4 := Lib.hid (HR.out.below K4.out)
  go_wp2_with fail
  refine (picks_calls _ _ _ _ _ HR4.out HL.out OKL.out OKT.out).mono ?_
  rintro e w5 ⟨v5, rfl, ho5, hb5⟩
  obtain ⟨A5, c5, rfl⟩ := ho5.slice
  have HO5 := Lib.hid ho5
  have K5 := Lib.hid (K4.out.trans (hb5.mono s4))
  have s5 := K5.out.size
  clear ho5 hb5
  have HR5 := Lib.hid (HR.out.below K5.out)
  go_wp2_with fail
  refine (refPicks_calls _ _ _ _ _ HR5.out HL.out OKL.out OKT.out).mono ?_
  rintro e w6 ⟨v6, rfl, ho6, hb6⟩
  obtain ⟨A6, c6, rfl⟩ := ho6.slice
  have HO6 := Lib.hid ho6
  have HO5b := Lib.hid (HO5.out.below hb6)
  have K6 := Lib.hid (K5.out.trans (hb6.mono s5))
  have s6 := K6.out.size
  clear ho6 hb6
  go_wp2_with fail
  refine (sameInts_calls _ (fun _ => True) _ _ _ _ (HO5b.out.row.mono fun _ _ _ => trivial) (HO6.out.row.mono fun _ _ _ => trivial)).mono ?_
  rintro e w7 ⟨rfl, hb7⟩
  have K7 := Lib.hid (K6.out.trans (hb7.mono s6))
  clear hb7
  simp only [decide_true]
  go_wp2
  go_ret
  exact ⟨rfl, K7.out⟩
end Go.Proofs.Ytaaekhmklkidmaa
