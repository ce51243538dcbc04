/- The walk of LinePlain. -/
import Derived.Test.YtaaekhmklkidmaaLive
import Derived.Test.YtaaekhmklkidmaaOpR
namespace Go.Proofs.Ytaaekhmklkidmaa
open Go.RowKit
set_option linter.unusedSimpArgs false
set_option linter.unusedVariables false
theorem bcell {W w1 : World} (hb : Below W.heap.size W w1) : (∀ b o, b < W.heap.size → w1.cell? ⟨b, o, none⟩ = W.cell? ⟨b, o, none⟩) ∧ (∀ b o, b < W.heap.size → w1.frozen? ⟨b, o, none⟩ = W.frozen? ⟨b, o, none⟩) :=
  ⟨fun b o h => hb.cell (p := ⟨b, o, none⟩) h, fun b o h => hb.frozen (p := ⟨b, o, none⟩) h⟩
set_option maxHeartbeats 4000000 in
theorem linePlain_k1 (a b k v : Int) (w : World) : Calls Try.prog 4 #[.agg #[.int .i64 1, .int .i64 a, .int .i64 b, .int .i64 k, .int .i64 v]] w fun e w' => e = .returned (.bool true) ∧ Below w.heap.size w w' := by
  have e1 : plainV ⟨1, a, b, k, v⟩ = .tuple #[.agg #[.int .i64 1, .int .i64 0, .int .i64 0, .int .i64 0, .int .i64 0], .bool true] := rfl
  have e2 : plainV ⟨1, 0, 0, 0, 0⟩ = .tuple #[.agg #[.int .i64 1, .int .i64 0, .int .i64 0, .int .i64 0, .int .i64 0], .bool true] := rfl
  have E1 := Lib.hid e1
  have E2 := Lib.hid e2
  clear e1 e2
  go_enter Try.func4, Try.ntmps4
  go_wp2_with fail
  refine (live_calls _).mono ?_
  rintro e w1 ⟨rfl, hb1⟩
  obtain ⟨hc1, hf1⟩ := bcell hb1
  have hsz1 := hb1.size
  have HB1 := Lib.hid hb1
  clear hb1
  simp only [World.size_alloc] at hsz1 hc1 hf1
  have h01 : w.heap.size < w1.heap.size := by omega
  go_wp2_with fail
  refine (plain_calls ⟨1, a, b, k, v⟩ _).mono ?_
  rw [E1.out]
  rintro e w2 ⟨rfl, hb2⟩
  obtain ⟨hc2, hf2⟩ := bcell hb2
  have hsz2 := hb2.size
  have HB2 := Lib.hid hb2
  clear hb2
  have h02 : w.heap.size < w2.heap.size := by omega
  go_wp2_with fail
  refine (plain_calls ⟨1, 0, 0, 0, 0⟩ _).mono ?_
  rw [E2.out]
  rintro e w3 ⟨rfl, hb3⟩
  obtain ⟨hc3, hf3⟩ := bcell hb3
  have hsz3 := hb3.size
  have HB3 := Lib.hid hb3
  clear hb3
  simp only [World.size_alloc] at hsz3 hc3 hf3
  have h03 : w.heap.size < w3.heap.size := by omega
  have h23 : w2.heap.size < w3.heap.size := by omega
  have h02' : w.heap.size < w2.heap.size + 1 := by omega
  have g1 := ((Below.refl w.heap.size w).alloc (Nat.le_refl _) (.cells #[.int .i64 1, .int .i64 a, .int .i64 b, .int .i64 k, .int .i64 v] 23)).trans (HB1.out.mono (by simp))
  have g2 := g1.trans (HB2.out.mono (by omega))
  have g3 := (g2.alloc g2.size (.cells #[.int .i64 1, .int .i64 0, .int .i64 0, .int .i64 0, .int .i64 0] 23)).trans (HB3.out.mono (by simp; omega))
  have G := Lib.hid g3
  clear g1 g2 g3
  go_wp2
  all_goals
    go_ret
    exact ⟨rfl, G.out.alloc G.out.size _⟩
set_option maxHeartbeats 4000000 in
theorem linePlain_k2 (a b k v : Int) (w : World) : Calls Try.prog 4 #[.agg #[.int .i64 2, .int .i64 a, .int .i64 b, .int .i64 k, .int .i64 v]] w fun e w' => e = .returned (.bool true) ∧ Below w.heap.size w w' := by
  have e1 : plainV ⟨2, a, b, k, v⟩ = .tuple #[.agg #[.int .i64 2, .int .i64 a, .int .i64 b, .int .i64 0, .int .i64 0], .bool true] := rfl
  have e2 : plainV ⟨2, a, b, 0, 0⟩ = .tuple #[.agg #[.int .i64 2, .int .i64 a, .int .i64 b, .int .i64 0, .int .i64 0], .bool true] := rfl
  have E1 := Lib.hid e1
  have E2 := Lib.hid e2
  clear e1 e2
  go_enter Try.func4, Try.ntmps4
  go_wp2_with fail
  refine (live_calls _).mono ?_
  rintro e w1 ⟨rfl, hb1⟩
  obtain ⟨hc1, hf1⟩ := bcell hb1
  have hsz1 := hb1.size
  have HB1 := Lib.hid hb1
  clear hb1
  simp only [World.size_alloc] at hsz1 hc1 hf1
  have h01 : w.heap.size < w1.heap.size := by omega
  go_wp2_with fail
  refine (plain_calls ⟨2, a, b, k, v⟩ _).mono ?_
  rw [E1.out]
  rintro e w2 ⟨rfl, hb2⟩
  obtain ⟨hc2, hf2⟩ := bcell hb2
  have hsz2 := hb2.size
  have HB2 := Lib.hid hb2
  clear hb2
  have h02 : w.heap.size < w2.heap.size := by omega
  go_wp2_with fail
  refine (plain_calls ⟨2, a, b, 0, 0⟩ _).mono ?_
  rw [E2.out]
  rintro e w3 ⟨rfl, hb3⟩
  obtain ⟨hc3, hf3⟩ := bcell hb3
  have hsz3 := hb3.size
  have HB3 := Lib.hid hb3
  clear hb3
  simp only [World.size_alloc] at hsz3 hc3 hf3
  have h03 : w.heap.size < w3.heap.size := by omega
  have h23 : w2.heap.size < w3.heap.size := by omega
  have h02' : w.heap.size < w2.heap.size + 1 := by omega
  have g1 := ((Below.refl w.heap.size w).alloc (Nat.le_refl _) (.cells #[.int .i64 2, .int .i64 a, .int .i64 b, .int .i64 k, .int .i64 v] 23)).trans (HB1.out.mono (by simp))
  have g2 := g1.trans (HB2.out.mono (by omega))
  have g3 := (g2.alloc g2.size (.cells #[.int .i64 2, .int .i64 a, .int .i64 b, .int .i64 0, .int .i64 0] 23)).trans (HB3.out.mono (by simp; omega))
  have G := Lib.hid g3
  clear g1 g2 g3
  go_wp2
  all_goals
    go_ret
    exact ⟨rfl, G.out.alloc G.out.size _⟩
set_option maxHeartbeats 4000000 in
theorem linePlain_k9 (a b k v : Int) (w : World) : Calls Try.prog 4 #[.agg #[.int .i64 9, .int .i64 a, .int .i64 b, .int .i64 k, .int .i64 v]] w fun e w' => e = .returned (.bool true) ∧ Below w.heap.size w w' := by
  have e1 : plainV ⟨9, a, b, k, v⟩ = .tuple #[.agg #[.int .i64 9, .int .i64 a, .int .i64 b, .int .i64 0, .int .i64 0], .bool true] := rfl
  have e2 : plainV ⟨9, a, b, 0, 0⟩ = .tuple #[.agg #[.int .i64 9, .int .i64 a, .int .i64 b, .int .i64 0, .int .i64 0], .bool true] := rfl
  have E1 := Lib.hid e1
  have E2 := Lib.hid e2
  clear e1 e2
  go_enter Try.func4, Try.ntmps4
  go_wp2_with fail
  refine (live_calls _).mono ?_
  rintro e w1 ⟨rfl, hb1⟩
  obtain ⟨hc1, hf1⟩ := bcell hb1
  have hsz1 := hb1.size
  have HB1 := Lib.hid hb1
  clear hb1
  simp only [World.size_alloc] at hsz1 hc1 hf1
  have h01 : w.heap.size < w1.heap.size := by omega
  go_wp2_with fail
  refine (plain_calls ⟨9, a, b, k, v⟩ _).mono ?_
  rw [E1.out]
  rintro e w2 ⟨rfl, hb2⟩
  obtain ⟨hc2, hf2⟩ := bcell hb2
  have hsz2 := hb2.size
  have HB2 := Lib.hid hb2
  clear hb2
  have h02 : w.heap.size < w2.heap.size := by omega
  go_wp2_with fail
  refine (plain_calls ⟨9, a, b, 0, 0⟩ _).mono ?_
  rw [E2.out]
  rintro e w3 ⟨rfl, hb3⟩
  obtain ⟨hc3, hf3⟩ := bcell hb3
  have hsz3 := hb3.size
  have HB3 := Lib.hid hb3
  clear hb3
  simp only [World.size_alloc] at hsz3 hc3 hf3
  have h03 : w.heap.size < w3.heap.size := by omega
  have h23 : w2.heap.size < w3.heap.size := by omega
  have h02' : w.heap.size < w2.heap.size + 1 := by omega
  have g1 := ((Below.refl w.heap.size w).alloc (Nat.le_refl _) (.cells #[.int .i64 9, .int .i64 a, .int .i64 b, .int .i64 k, .int .i64 v] 23)).trans (HB1.out.mono (by simp))
  have g2 := g1.trans (HB2.out.mono (by omega))
  have g3 := (g2.alloc g2.size (.cells #[.int .i64 9, .int .i64 a, .int .i64 b, .int .i64 0, .int .i64 0] 23)).trans (HB3.out.mono (by simp; omega))
  have G := Lib.hid g3
  clear g1 g2 g3
  go_wp2
  all_goals
    go_ret
    exact ⟨rfl, G.out.alloc G.out.size _⟩
set_option maxHeartbeats 4000000 in
theorem linePlain_k4 (a b k v : Int) (w : World) : Calls Try.prog 4 #[.agg #[.int .i64 4, .int .i64 a, .int .i64 b, .int .i64 k, .int .i64 v]] w fun e w' => e = .returned (.bool true) ∧ Below w.heap.size w w' := by
  have e1 : plainV ⟨4, a, b, k, v⟩ = .tuple #[.agg #[.int .i64 4, .int .i64 a, .int .i64 0, .int .i64 k, .int .i64 v], .bool true] := rfl
  have e2 : plainV ⟨4, a, 0, k, v⟩ = .tuple #[.agg #[.int .i64 4, .int .i64 a, .int .i64 0, .int .i64 k, .int .i64 v], .bool true] := rfl
  have E1 := Lib.hid e1
  have E2 := Lib.hid e2
  clear e1 e2
  go_enter Try.func4, Try.ntmps4
  go_wp2_with fail
  refine (live_calls _).mono ?_
  rintro e w1 ⟨rfl, hb1⟩
  obtain ⟨hc1, hf1⟩ := bcell hb1
  have hsz1 := hb1.size
  have HB1 := Lib.hid hb1
  clear hb1
  simp only [World.size_alloc] at hsz1 hc1 hf1
  have h01 : w.heap.size < w1.heap.size := by omega
  go_wp2_with fail
  refine (plain_calls ⟨4, a, b, k, v⟩ _).mono ?_
  rw [E1.out]
  rintro e w2 ⟨rfl, hb2⟩
  obtain ⟨hc2, hf2⟩ := bcell hb2
  have hsz2 := hb2.size
  have HB2 := Lib.hid hb2
  clear hb2
  have h02 : w.heap.size < w2.heap.size := by omega
  go_wp2_with fail
  refine (plain_calls ⟨4, a, 0, k, v⟩ _).mono ?_
  rw [E2.out]
  rintro e w3 ⟨rfl, hb3⟩
  obtain ⟨hc3, hf3⟩ := bcell hb3
  have hsz3 := hb3.size
  have HB3 := Lib.hid hb3
  clear hb3
  simp only [World.size_alloc] at hsz3 hc3 hf3
  have h03 : w.heap.size < w3.heap.size := by omega
  have h23 : w2.heap.size < w3.heap.size := by omega
  have h02' : w.heap.size < w2.heap.size + 1 := by omega
  have g1 := ((Below.refl w.heap.size w).alloc (Nat.le_refl _) (.cells #[.int .i64 4, .int .i64 a, .int .i64 b, .int .i64 k, .int .i64 v] 23)).trans (HB1.out.mono (by simp))
  have g2 := g1.trans (HB2.out.mono (by omega))
  have g3 := (g2.alloc g2.size (.cells #[.int .i64 4, .int .i64 a, .int .i64 0, .int .i64 k, .int .i64 v] 23)).trans (HB3.out.mono (by simp; omega))
  have G := Lib.hid g3
  clear g1 g2 g3
  go_wp2
  all_goals
    go_ret
    exact ⟨rfl, G.out.alloc G.out.size _⟩
set_option maxHeartbeats 4000000 in
theorem linePlain_k5 (a b k v : Int) (w : World) : Calls Try.prog 4 #[.agg #[.int .i64 5, .int .i64 a, .int .i64 b, .int .i64 k, .int .i64 v]] w fun e w' => e = .returned (.bool true) ∧ Below w.heap.size w w' := by
  have e1 : plainV ⟨5, a, b, k, v⟩ = .tuple #[.agg #[.int .i64 5, .int .i64 a, .int .i64 0, .int .i64 k, .int .i64 0], .bool true] := rfl
  have e2 : plainV ⟨5, a, 0, k, 0⟩ = .tuple #[.agg #[.int .i64 5, .int .i64 a, .int .i64 0, .int .i64 k, .int .i64 0], .bool true] := rfl
  have E1 := Lib.hid e1
  have E2 := Lib.hid e2
  clear e1 e2
  go_enter Try.func4, Try.ntmps4
  go_wp2_with fail
  refine (live_calls _).mono ?_
  rintro e w1 ⟨rfl, hb1⟩
  obtain ⟨hc1, hf1⟩ := bcell hb1
  have hsz1 := hb1.size
  have HB1 := Lib.hid hb1
  clear hb1
  simp only [World.size_alloc] at hsz1 hc1 hf1
  have h01 : w.heap.size < w1.heap.size := by omega
  go_wp2_with fail
  refine (plain_calls ⟨5, a, b, k, v⟩ _).mono ?_
  rw [E1.out]
  rintro e w2 ⟨rfl, hb2⟩
  obtain ⟨hc2, hf2⟩ := bcell hb2
  have hsz2 := hb2.size
  have HB2 := Lib.hid hb2
  clear hb2
  have h02 : w.heap.size < w2.heap.size := by omega
  go_wp2_with fail
  refine (plain_calls ⟨5, a, 0, k, 0⟩ _).mono ?_
  rw [E2.out]
  rintro e w3 ⟨rfl, hb3⟩
  obtain ⟨hc3, hf3⟩ := bcell hb3
  have hsz3 := hb3.size
  have HB3 := Lib.hid hb3
  clear hb3
  simp only [World.size_alloc] at hsz3 hc3 hf3
  have h03 : w.heap.size < w3.heap.size := by omega
  have h23 : w2.heap.size < w3.heap.size := by omega
  have h02' : w.heap.size < w2.heap.size + 1 := by omega
  have g1 := ((Below.refl w.heap.size w).alloc (Nat.le_refl _) (.cells #[.int .i64 5, .int .i64 a, .int .i64 b, .int .i64 k, .int .i64 v] 23)).trans (HB1.out.mono (by simp))
  have g2 := g1.trans (HB2.out.mono (by omega))
  have g3 := (g2.alloc g2.size (.cells #[.int .i64 5, .int .i64 a, .int .i64 0, .int .i64 k, .int .i64 0] 23)).trans (HB3.out.mono (by simp; omega))
  have G := Lib.hid g3
  clear g1 g2 g3
  go_wp2
  all_goals
    go_ret
    exact ⟨rfl, G.out.alloc G.out.size _⟩
set_option maxHeartbeats 4000000 in
theorem linePlain_k3 (a b k v : Int) (w : World) : Calls Try.prog 4 #[.agg #[.int .i64 3, .int .i64 a, .int .i64 b, .int .i64 k, .int .i64 v]] w fun e w' => e = .returned (.bool true) ∧ Below w.heap.size w w' := by
  have e1 : plainV ⟨3, a, b, k, v⟩ = .tuple #[.agg #[.int .i64 3, .int .i64 a, .int .i64 0, .int .i64 0, .int .i64 0], .bool true] := rfl
  have e2 : plainV ⟨3, a, 0, 0, 0⟩ = .tuple #[.agg #[.int .i64 3, .int .i64 a, .int .i64 0, .int .i64 0, .int .i64 0], .bool true] := rfl
  have E1 := Lib.hid e1
  have E2 := Lib.hid e2
  clear e1 e2
  go_enter Try.func4, Try.ntmps4
  go_wp2_with fail
  refine (live_calls _).mono ?_
  rintro e w1 ⟨rfl, hb1⟩
  obtain ⟨hc1, hf1⟩ := bcell hb1
  have hsz1 := hb1.size
  have HB1 := Lib.hid hb1
  clear hb1
  simp only [World.size_alloc] at hsz1 hc1 hf1
  have h01 : w.heap.size < w1.heap.size := by omega
  go_wp2_with fail
  refine (plain_calls ⟨3, a, b, k, v⟩ _).mono ?_
  rw [E1.out]
  rintro e w2 ⟨rfl, hb2⟩
  obtain ⟨hc2, hf2⟩ := bcell hb2
  have hsz2 := hb2.size
  have HB2 := Lib.hid hb2
  clear hb2
  have h02 : w.heap.size < w2.heap.size := by omega
  go_wp2_with fail
  refine (plain_calls ⟨3, a, 0, 0, 0⟩ _).mono ?_
  rw [E2.out]
  rintro e w3 ⟨rfl, hb3⟩
  obtain ⟨hc3, hf3⟩ := bcell hb3
  have hsz3 := hb3.size
  have HB3 := Lib.hid hb3
  clear hb3
  simp only [World.size_alloc] at hsz3 hc3 hf3
  have h03 : w.heap.size < w3.heap.size := by omega
  have h23 : w2.heap.size < w3.heap.size := by omega
  have h02' : w.heap.size < w2.heap.size + 1 := by omega
  have g1 := ((Below.refl w.heap.size w).alloc (Nat.le_refl _) (.cells #[.int .i64 3, .int .i64 a, .int .i64 b, .int .i64 k, .int .i64 v] 23)).trans (HB1.out.mono (by simp))
  have g2 := g1.trans (HB2.out.mono (by omega))
  have g3 := (g2.alloc g2.size (.cells #[.int .i64 3, .int .i64 a, .int .i64 0, .int .i64 0, .int .i64 0] 23)).trans (HB3.out.mono (by simp; omega))
  have G := Lib.hid g3
  clear g1 g2 g3
  go_wp2
  all_goals
    go_ret
    exact ⟨rfl, G.out.alloc G.out.size _⟩
set_option maxHeartbeats 4000000 in
theorem linePlain_k6 (a b k v : Int) (w : World) : Calls Try.prog 4 #[.agg #[.int .i64 6, .int .i64 a, .int .i64 b, .int .i64 k, .int .i64 v]] w fun e w' => e = .returned (.bool true) ∧ Below w.heap.size w w' := by
  have e1 : plainV ⟨6, a, b, k, v⟩ = .tuple #[.agg #[.int .i64 6, .int .i64 a, .int .i64 0, .int .i64 0, .int .i64 0], .bool true] := rfl
  have e2 : plainV ⟨6, a, 0, 0, 0⟩ = .tuple #[.agg #[.int .i64 6, .int .i64 a, .int .i64 0, .int .i64 0, .int .i64 0], .bool true] := rfl
  have E1 := Lib.hid e1
  have E2 := Lib.hid e2
  clear e1 e2
  go_enter Try.func4, Try.ntmps4
  go_wp2_with fail
  refine (live_calls _).mono ?_
  rintro e w1 ⟨rfl, hb1⟩
  obtain ⟨hc1, hf1⟩ := bcell hb1
  have hsz1 := hb1.size
  have HB1 := Lib.hid hb1
  clear hb1
  simp only [World.size_alloc] at hsz1 hc1 hf1
  have h01 : w.heap.size < w1.heap.size := by omega
  go_wp2_with fail
  refine (plain_calls ⟨6, a, b, k, v⟩ _).mono ?_
  rw [E1.out]
  rintro e w2 ⟨rfl, hb2⟩
  obtain ⟨hc2, hf2⟩ := bcell hb2
  have hsz2 := hb2.size
  have HB2 := Lib.hid hb2
  clear hb2
  have h02 : w.heap.size < w2.heap.size := by omega
  go_wp2_with fail
  refine (plain_calls ⟨6, a, 0, 0, 0⟩ _).mono ?_
  rw [E2.out]
  rintro e w3 ⟨rfl, hb3⟩
  obtain ⟨hc3, hf3⟩ := bcell hb3
  have hsz3 := hb3.size
  have HB3 := Lib.hid hb3
  clear hb3
  simp only [World.size_alloc] at hsz3 hc3 hf3
  have h03 : w.heap.size < w3.heap.size := by omega
  have h23 : w2.heap.size < w3.heap.size := by omega
  have h02' : w.heap.size < w2.heap.size + 1 := by omega
  have g1 := ((Below.refl w.heap.size w).alloc (Nat.le_refl _) (.cells #[.int .i64 6, .int .i64 a, .int .i64 b, .int .i64 k, .int .i64 v] 23)).trans (HB1.out.mono (by simp))
  have g2 := g1.trans (HB2.out.mono (by omega))
  have g3 := (g2.alloc g2.size (.cells #[.int .i64 6, .int .i64 a, .int .i64 0, .int .i64 0, .int .i64 0] 23)).trans (HB3.out.mono (by simp; omega))
  have G := Lib.hid g3
  clear g1 g2 g3
  go_wp2
  all_goals
    go_ret
    exact ⟨rfl, G.out.alloc G.out.size _⟩
set_option maxHeartbeats 4000000 in
theorem linePlain_k7 (a b k v : Int) (w : World) : Calls Try.prog 4 #[.agg #[.int .i64 7, .int .i64 a, .int .i64 b, .int .i64 k, .int .i64 v]] w fun e w' => e = .returned (.bool true) ∧ Below w.heap.size w w' := by
  have e1 : plainV ⟨7, a, b, k, v⟩ = .tuple #[.agg #[.int .i64 7, .int .i64 a, .int .i64 0, .int .i64 0, .int .i64 0], .bool true] := rfl
  have e2 : plainV ⟨7, a, 0, 0, 0⟩ = .tuple #[.agg #[.int .i64 7, .int .i64 a, .int .i64 0, .int .i64 0, .int .i64 0], .bool true] := rfl
  have E1 := Lib.hid e1
  have E2 := Lib.hid e2
  clear e1 e2
  go_enter Try.func4, Try.ntmps4
  go_wp2_with fail
  refine (live_calls _).mono ?_
  rintro e w1 ⟨rfl, hb1⟩
  obtain ⟨hc1, hf1⟩ := bcell hb1
  have hsz1 := hb1.size
  have HB1 := Lib.hid hb1
  clear hb1
  simp only [World.size_alloc] at hsz1 hc1 hf1
  have h01 : w.heap.size < w1.heap.size := by omega
  go_wp2_with fail
  refine (plain_calls ⟨7, a, b, k, v⟩ _).mono ?_
  rw [E1.out]
  rintro e w2 ⟨rfl, hb2⟩
  obtain ⟨hc2, hf2⟩ := bcell hb2
  have hsz2 := hb2.size
  have HB2 := Lib.hid hb2
  clear hb2
  have h02 : w.heap.size < w2.heap.size := by omega
  go_wp2_with fail
  refine (plain_calls ⟨7, a, 0, 0, 0⟩ _).mono ?_
  rw [E2.out]
  rintro e w3 ⟨rfl, hb3⟩
  obtain ⟨hc3, hf3⟩ := bcell hb3
  have hsz3 := hb3.size
  have HB3 := Lib.hid hb3
  clear hb3
  simp only [World.size_alloc] at hsz3 hc3 hf3
  have h03 : w.heap.size < w3.heap.size := by omega
  have h23 : w2.heap.size < w3.heap.size := by omega
  have h02' : w.heap.size < w2.heap.size + 1 := by omega
  have g1 := ((Below.refl w.heap.size w).alloc (Nat.le_refl _) (.cells #[.int .i64 7, .int .i64 a, .int .i64 b, .int .i64 k, .int .i64 v] 23)).trans (HB1.out.mono (by simp))
  have g2 := g1.trans (HB2.out.mono (by omega))
  have g3 := (g2.alloc g2.size (.cells #[.int .i64 7, .int .i64 a, .int .i64 0, .int .i64 0, .int .i64 0] 23)).trans (HB3.out.mono (by simp; omega))
  have G := Lib.hid g3
  clear g1 g2 g3
  go_wp2
  all_goals
    go_ret
    exact ⟨rfl, G.out.alloc G.out.size _⟩
set_option maxHeartbeats 4000000 in
theorem linePlain_k8 (a b k v : Int) (w : World) : Calls Try.prog 4 #[.agg #[.int .i64 8, .int .i64 a, .int .i64 b, .int .i64 k, .int .i64 v]] w fun e w' => e = .returned (.bool true) ∧ Below w.heap.size w w' := by
  have e1 : plainV ⟨8, a, b, k, v⟩ = .tuple #[.agg #[.int .i64 8, .int .i64 a, .int .i64 0, .int .i64 0, .int .i64 0], .bool true] := rfl
  have e2 : plainV ⟨8, a, 0, 0, 0⟩ = .tuple #[.agg #[.int .i64 8, .int .i64 a, .int .i64 0, .int .i64 0, .int .i64 0], .bool true] := rfl
  have E1 := Lib.hid e1
  have E2 := Lib.hid e2
  clear e1 e2
  go_enter Try.func4, Try.ntmps4
  go_wp2_with fail
  refine (live_calls _).mono ?_
  rintro e w1 ⟨rfl, hb1⟩
  obtain ⟨hc1, hf1⟩ := bcell hb1
  have hsz1 := hb1.size
  have HB1 := Lib.hid hb1
  clear hb1
  simp only [World.size_alloc] at hsz1 hc1 hf1
  have h01 : w.heap.size < w1.heap.size := by omega
  go_wp2_with fail
  refine (plain_calls ⟨8, a, b, k, v⟩ _).mono ?_
  rw [E1.out]
  rintro e w2 ⟨rfl, hb2⟩
  obtain ⟨hc2, hf2⟩ := bcell hb2
  have hsz2 := hb2.size
  have HB2 := Lib.hid hb2
  clear hb2
  have h02 : w.heap.size < w2.heap.size := by omega
  go_wp2_with fail
  refine (plain_calls ⟨8, a, 0, 0, 0⟩ _).mono ?_
  rw [E2.out]
  rintro e w3 ⟨rfl, hb3⟩
  obtain ⟨hc3, hf3⟩ := bcell hb3
  have hsz3 := hb3.size
  have HB3 := Lib.hid hb3
  clear hb3
  simp only [World.size_alloc] at hsz3 hc3 hf3
  have h03 : w.heap.size < w3.heap.size := by omega
  have h23 : w2.heap.size < w3.heap.size := by omega
  have h02' : w.heap.size < w2.heap.size + 1 := by omega
  have g1 := ((Below.refl w.heap.size w).alloc (Nat.le_refl _) (.cells #[.int .i64 8, .int .i64 a, .int .i64 b, .int .i64 k, .int .i64 v] 23)).trans (HB1.out.mono (by simp))
  have g2 := g1.trans (HB2.out.mono (by omega))
  have g3 := (g2.alloc g2.size (.cells #[.int .i64 8, .int .i64 a, .int .i64 0, .int .i64 0, .int .i64 0] 23)).trans (HB3.out.mono (by simp; omega))
  have G := Lib.hid g3
  clear g1 g2 g3
  go_wp2
  all_goals
    go_ret
    exact ⟨rfl, G.out.alloc G.out.size _⟩
set_option maxHeartbeats 4000000 in
theorem linePlain_lo (kd a b k v : Int) (w : World) (hk : kd ≠ 1 ∧ kd ≠ 2 ∧ kd ≠ 3 ∧ kd ≠ 4 ∧ kd ≠ 5 ∧ kd ≠ 6 ∧ kd ≠ 7 ∧ kd ≠ 8 ∧ kd ≠ 9) (hd : kd < 1) : Calls Try.prog 4 #[.agg #[.int .i64 kd, .int .i64 a, .int .i64 b, .int .i64 k, .int .i64 v]] w fun e w' => e = .returned (.bool true) ∧ Below w.heap.size w w' := by
  have e1 : plainV ⟨kd, a, b, k, v⟩ = .tuple #[.agg #[.int .i64 0, .int .i64 0, .int .i64 0, .int .i64 0, .int .i64 0], .bool false] := by rw [plainV, plain_none hk]; rfl
  have e2 : plainV ⟨0, 0, 0, 0, 0⟩ = .tuple #[.agg #[.int .i64 0, .int .i64 0, .int .i64 0, .int .i64 0, .int .i64 0], .bool false] := rfl
  have E1 := Lib.hid e1
  have E2 := Lib.hid e2
  clear e1 e2 hk
  go_enter Try.func4, Try.ntmps4
  go_wp2_with fail
  refine (live_calls _).mono ?_
  rintro e w1 ⟨rfl, hb1⟩
  obtain ⟨hc1, hf1⟩ := bcell hb1
  have hsz1 := hb1.size
  have HB1 := Lib.hid hb1
  clear hb1
  simp only [World.size_alloc] at hsz1 hc1 hf1
  have h01 : w.heap.size < w1.heap.size := by omega
  go_wp2_with fail
  refine (plain_calls ⟨kd, a, b, k, v⟩ _).mono ?_
  rw [E1.out]
  rintro e w2 ⟨rfl, hb2⟩
  obtain ⟨hc2, hf2⟩ := bcell hb2
  have hsz2 := hb2.size
  have HB2 := Lib.hid hb2
  clear hb2
  have h02 : w.heap.size < w2.heap.size := by omega
  go_wp2_with fail
  refine (plain_calls ⟨0, 0, 0, 0, 0⟩ _).mono ?_
  rw [E2.out]
  rintro e w3 ⟨rfl, hb3⟩
  obtain ⟨hc3, hf3⟩ := bcell hb3
  have hsz3 := hb3.size
  have HB3 := Lib.hid hb3
  clear hb3
  simp only [World.size_alloc] at hsz3 hc3 hf3
  have h03 : w.heap.size < w3.heap.size := by omega
  have h23 : w2.heap.size < w3.heap.size := by omega
  have h02' : w.heap.size < w2.heap.size + 1 := by omega
  have g1 := ((Below.refl w.heap.size w).alloc (Nat.le_refl _) (.cells #[.int .i64 kd, .int .i64 a, .int .i64 b, .int .i64 k, .int .i64 v] 23)).trans (HB1.out.mono (by simp))
  have g2 := g1.trans (HB2.out.mono (by omega))
  have g3 := (g2.alloc g2.size (.cells #[.int .i64 0, .int .i64 0, .int .i64 0, .int .i64 0, .int .i64 0] 23)).trans (HB3.out.mono (by simp; omega))
  have G := Lib.hid g3
  clear g1 g2 g3
  go_wp2
  all_goals
    go_ret
    exact ⟨rfl, G.out.alloc G.out.size _⟩
set_option maxHeartbeats 4000000 in
theorem linePlain_hi (kd a b k v : Int) (w : World) (hk : kd ≠ 1 ∧ kd ≠ 2 ∧ kd ≠ 3 ∧ kd ≠ 4 ∧ kd ≠ 5 ∧ kd ≠ 6 ∧ kd ≠ 7 ∧ kd ≠ 8 ∧ kd ≠ 9) (hd1 : ¬ kd < 1) (hd : 9 < kd) : Calls Try.prog 4 #[.agg #[.int .i64 kd, .int .i64 a, .int .i64 b, .int .i64 k, .int .i64 v]] w fun e w' => e = .returned (.bool true) ∧ Below w.heap.size w w' := by
  have e1 : plainV ⟨kd, a, b, k, v⟩ = .tuple #[.agg #[.int .i64 0, .int .i64 0, .int .i64 0, .int .i64 0, .int .i64 0], .bool false] := by rw [plainV, plain_none hk]; rfl
  have e2 : plainV ⟨0, 0, 0, 0, 0⟩ = .tuple #[.agg #[.int .i64 0, .int .i64 0, .int .i64 0, .int .i64 0, .int .i64 0], .bool false] := rfl
  have E1 := Lib.hid e1
  have E2 := Lib.hid e2
  clear e1 e2 hk
  go_enter Try.func4, Try.ntmps4
  go_wp2_with fail
  refine (live_calls _).mono ?_
  rintro e w1 ⟨rfl, hb1⟩
  obtain ⟨hc1, hf1⟩ := bcell hb1
  have hsz1 := hb1.size
  have HB1 := Lib.hid hb1
  clear hb1
  simp only [World.size_alloc] at hsz1 hc1 hf1
  have h01 : w.heap.size < w1.heap.size := by omega
  go_wp2_with fail
  refine (plain_calls ⟨kd, a, b, k, v⟩ _).mono ?_
  rw [E1.out]
  rintro e w2 ⟨rfl, hb2⟩
  obtain ⟨hc2, hf2⟩ := bcell hb2
  have hsz2 := hb2.size
  have HB2 := Lib.hid hb2
  clear hb2
  have h02 : w.heap.size < w2.heap.size := by omega
  go_wp2_with fail
  refine (plain_calls ⟨0, 0, 0, 0, 0⟩ _).mono ?_
  rw [E2.out]
  rintro e w3 ⟨rfl, hb3⟩
  obtain ⟨hc3, hf3⟩ := bcell hb3
  have hsz3 := hb3.size
  have HB3 := Lib.hid hb3
  clear hb3
  simp only [World.size_alloc] at hsz3 hc3 hf3
  have h03 : w.heap.size < w3.heap.size := by omega
  have h23 : w2.heap.size < w3.heap.size := by omega
  have h02' : w.heap.size < w2.heap.size + 1 := by omega
  have g1 := ((Below.refl w.heap.size w).alloc (Nat.le_refl _) (.cells #[.int .i64 kd, .int .i64 a, .int .i64 b, .int .i64 k, .int .i64 v] 23)).trans (HB1.out.mono (by simp))
  have g2 := g1.trans (HB2.out.mono (by omega))
  have g3 := (g2.alloc g2.size (.cells #[.int .i64 0, .int .i64 0, .int .i64 0, .int .i64 0, .int .i64 0] 23)).trans (HB3.out.mono (by simp; omega))
  have G := Lib.hid g3
  clear g1 g2 g3
  go_wp2
  all_goals
    go_ret
    exact ⟨rfl, G.out.alloc G.out.size _⟩
theorem linePlain_walk (w : World) (o : OpD) (ok : o.ok) : Calls Try.prog 4 #[o.val] w fun e w' => e = .returned (.bool true) ∧ Below w.heap.size w w' := by
  obtain ⟨kd, a, b, k, v⟩ := o
  unfold OpD.val
  rcases kinds_cases kd with rfl | rfl | rfl | rfl | rfl | rfl | rfl | rfl | rfl | h
  · exact linePlain_k1 a b k v w
  · exact linePlain_k2 a b k v w
  · exact linePlain_k9 a b k v w
  · exact linePlain_k4 a b k v w
  · exact linePlain_k5 a b k v w
  · exact linePlain_k3 a b k v w
  · exact linePlain_k6 a b k v w
  · exact linePlain_k7 a b k v w
  · exact linePlain_k8 a b k v w
  · by_cases hd : kd < 1
    · exact linePlain_lo kd a b k v w h hd
    · exact linePlain_hi kd a b k v w h hd (by omega)
end Go.Proofs.Ytaaekhmklkidmaa
