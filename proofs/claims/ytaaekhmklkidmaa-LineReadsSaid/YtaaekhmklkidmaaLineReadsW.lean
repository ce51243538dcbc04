/- The walk of LineReads. -/
import Derived.Test.YtaaekhmklkidmaaLinePlainW
import Derived.Test.YtaaekhmklkidmaaRefOps
namespace Go.Proofs.Ytaaekhmklkidmaa
open Go.RowKit
set_option linter.unusedSimpArgs false
set_option linter.unusedVariables false
set_option maxHeartbeats 8000000 in
theorem lineReads_walk (w : World) (o : OpD) (ok : o.ok) (v : Value) (l : List Int) (hr : Row tInt w (fun _ => True) v l) (okl : ∀ x ∈ l, okI x) : Calls Try.prog 3 #[o.val, v] w fun e w' => e = .returned (.bool true) ∧ Below w.heap.size w w' := by
  clear ok okl
  obtain ⟨A, c, rfl⟩ := hr.slice
  have HR := Lib.hid hr
  clear hr
  have hd : (decide ((l.length : Int) > 500)) = decide (500 < (l.length : Int)) := rfl
  clear hd
  by_cases h500 : 500 < (l.length : Int)
  · unfold OpD.val
    go_enter Try.func3, Try.ntmps3
    go_wp2_with fail
    refine (live_calls _).mono ?_
    rintro e w1 ⟨rfl, hb1⟩
    have HB1 := Lib.hid hb1
    clear hb1
    go_wp2
    go_ret
    exact ⟨rfl, ((Below.refl w.heap.size w).alloc (Nat.le_refl _) _).trans (HB1.out.mono (by simp))⟩
  have g1 := fun (w1 : World) (hb : Below (w.alloc (.cells #[.int .i64 o.kind, .int .i64 o.a, .int .i64 o.b, .int .i64 o.k, .int .i64 o.v] 23)).heap.size (w.alloc (.cells #[.int .i64 o.kind, .int .i64 o.a, .int .i64 o.b, .int .i64 o.k, .int .i64 o.v] 23)) w1) => (((Below.refl w.heap.size w).alloc (Nat.le_refl _) (.cells #[.int .i64 o.kind, .int .i64 o.a, .int .i64 o.b, .int .i64 o.k, .int .i64 o.v] 23)).trans (hb.mono (by simp)) : Below w.heap.size w w1)
  have G1 := Lib.hid g1
  clear g1
  unfold OpD.val
  go_enter Try.func3, Try.ntmps3
  go_wp2_with fail
  refine (live_calls _).mono ?_
  rintro e w1 ⟨rfl, hb1⟩
  obtain ⟨hc1, hf1⟩ := bcell hb1
  have hsz1 := hb1.size
  have HB1 := Lib.hid hb1
  clear hb1
  try simp only [World.size_alloc] at hsz1 hc1 hf1
  have K1 := Lib.hid (G1.out w1 HB1.out)
  have h01 : w.heap.size < w1.heap.size := by omega
  go_wp2_with fail
  refine (plain_calls o _).mono ?_
  rintro e w2 ⟨rfl, hb2⟩
  obtain ⟨hc2, hf2⟩ := bcell hb2
  have hsz2 := hb2.size
  have HB2 := Lib.hid hb2
  clear hb2
  try simp only [World.size_alloc] at hsz2 hc2 hf2
  have K2 := Lib.hid (K1.out.trans (HB2.out.mono (by omega)))
  have h02 : w.heap.size < w2.heap.size := by omega
  simp only [plainV, OpD.val]
  go_wp2_with fail
  refine (refPlain_calls o _).mono ?_
  rintro e w3 ⟨rfl, hb3⟩
  obtain ⟨hc3, hf3⟩ := bcell hb3
  have hsz3 := hb3.size
  have HB3 := Lib.hid hb3
  clear hb3
  try simp only [World.size_alloc] at hsz3 hc3 hf3
  have K3 := Lib.hid ((K2.out.alloc K2.out.size (.cells #[.int .i64 (plain o).1.kind, .int .i64 (plain o).1.a, .int .i64 (plain o).1.b, .int .i64 (plain o).1.k, .int .i64 (plain o).1.v] 23)).trans (HB3.out.mono (by simp; omega)))
  have h03 : w.heap.size < w3.heap.size := by omega
  have h23 : w2.heap.size < w3.heap.size := by omega
  simp only [plainV, OpD.val]
  have HR3 := Lib.hid (HR.out.below (K3.out.alloc K3.out.size (.cells #[.int .i64 (plain o).1.kind, .int .i64 (plain o).1.a, .int .i64 (plain o).1.b, .int .i64 (plain o).1.k, .int .i64 (plain o).1.v] 23)))
  go_wp2_with fail
  refine (op_calls _ _ _ _ HR3.out).mono ?_
  rintro e w4 ⟨rfl, hb4⟩
  obtain ⟨hc4, hf4⟩ := bcell hb4
  have hsz4 := hb4.size
  have HB4 := Lib.hid hb4
  clear hb4
  try simp only [World.size_alloc] at hsz4 hc4 hf4
  have K4 := Lib.hid ((K3.out.alloc K3.out.size (.cells #[.int .i64 (plain o).1.kind, .int .i64 (plain o).1.a, .int .i64 (plain o).1.b, .int .i64 (plain o).1.k, .int .i64 (plain o).1.v] 23)).trans (HB4.out.mono (by simp; omega)))
  have h04 : w.heap.size < w4.heap.size := by omega
  have h24 : w2.heap.size < w4.heap.size := by omega
  have h34 : w3.heap.size < w4.heap.size := by omega
  have h23' : w2.heap.size < w3.heap.size + 1 := by omega
  simp only [opV, OpD.val]
  have HR4 := Lib.hid (HR.out.below (K4.out.alloc K4.out.size (.cells #[.int .i64 (opOf l).1.kind, .int .i64 (opOf l).1.a, .int .i64 (opOf l).1.b, .int .i64 (opOf l).1.k, .int .i64 (opOf l).1.v] 23)))
  go_wp2_with fail
  refine (refOp_calls _ _ _ _ HR4.out).mono ?_
  rintro e w5 ⟨rfl, hb5⟩
  obtain ⟨hc5, hf5⟩ := bcell hb5
  have hsz5 := hb5.size
  have HB5 := Lib.hid hb5
  clear hb5
  try simp only [World.size_alloc] at hsz5 hc5 hf5
  have K5 := Lib.hid ((K4.out.alloc K4.out.size (.cells #[.int .i64 (opOf l).1.kind, .int .i64 (opOf l).1.a, .int .i64 (opOf l).1.b, .int .i64 (opOf l).1.k, .int .i64 (opOf l).1.v] 23)).trans (HB5.out.mono (by simp; omega)))
  have h25 : w2.heap.size < w5.heap.size := by omega
  have h35 : w3.heap.size < w5.heap.size := by omega
  have h45 : w4.heap.size < w5.heap.size := by omega
  have h34' : w3.heap.size < w4.heap.size + 1 := by omega
  have h24' : w2.heap.size < w4.heap.size + 1 := by omega
  simp only [opV, OpD.val]
  have HL := Lib.hid (show l.length ≤ 1000000 by omega)
  have HR5 := Lib.hid (HR.out.below (K5.out.alloc K5.out.size (.cells #[.int .i64 (opOf l).1.kind, .int .i64 (opOf l).1.a, .int .i64 (opOf l).1.b, .int .i64 (opOf l).1.k, .int .i64 (opOf l).1.v] 23)))
  go_wp2_with fail
  refine (ops_calls _ _ _ _ HR5.out HL.out).mono ?_
  rintro e w6 ⟨v6, rfl, ho6, hb6⟩
  obtain ⟨A6, c6, rfl⟩ := ho6.slice
  have HO6 := Lib.hid ho6
  clear ho6
  obtain ⟨hc6, hf6⟩ := bcell hb6
  have hsz6 := hb6.size
  have K6 := Lib.hid ((K5.out.alloc K5.out.size (.cells #[.int .i64 (opOf l).1.kind, .int .i64 (opOf l).1.a, .int .i64 (opOf l).1.b, .int .i64 (opOf l).1.k, .int .i64 (opOf l).1.v] 23)).trans (hb6.mono (by simp; omega)))
  clear hb6
  try simp only [World.size_alloc] at hsz6 hc6 hf6
  have HR6 := Lib.hid (HR.out.below K6.out)
  go_wp2_with fail
  refine (refOps_calls _ _ _ _ HR6.out HL.out).mono ?_
  rintro e w7 ⟨v7, rfl, ho7, hb7⟩
  obtain ⟨A7, c7, rfl⟩ := ho7.slice
  have HO7 := Lib.hid ho7
  clear ho7
  have HO6b := Lib.hid (HO6.out.below hb7)
  have hsz7 := hb7.size
  have K7 := Lib.hid (K6.out.trans (hb7.mono (by omega)))
  clear hb7
  go_wp2_with fail
  refine (sameOps_calls _ (fun _ => True) _ _ _ _ (HO6b.out.row.mono fun _ _ _ => trivial) (HO7.out.row.mono fun _ _ _ => trivial)).mono ?_
  rintro e w8 ⟨rfl, hb8⟩
  have K8 := Lib.hid (K7.out.trans (hb8.mono (by omega)))
  clear hb8
  simp only [decide_true]
  go_wp2_with fail
  go_ret
  exact ⟨rfl, K8.out⟩
end Go.Proofs.Ytaaekhmklkidmaa
