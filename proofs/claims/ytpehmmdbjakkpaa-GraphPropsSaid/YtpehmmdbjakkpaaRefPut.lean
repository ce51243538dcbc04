/- The reference's put. -/
import Derived.Test.YtpehmmdbjakkpaaRefDrop
import Derived.Test.YtpehmmdbjakkpaaOwnSet
namespace Go.Proofs.Ytpehmmdbjakkpaa
open Go.RowKit Go.Shelf
set_option linter.unusedSimpArgs false
set_option linter.unusedVariables false
def loQ (k : Int) (p : P2) : Bool := decide (p.x < k)
def hiQ (k : Int) (p : P2) : Bool := decide (k < p.x)
theorem putP_eq (ps : List P2) (p : P2) : putP ps p.x p.y = ps.filter (loQ p.x) ++ [p] ++ ps.filter (hiQ p.x) := by
  rw [List.append_assoc]
  rfl
set_option maxRecDepth 20000 in
set_option maxHeartbeats 8000000 in
theorem put_calls (w : World) (S : Nat → Prop) (v : Value) (ps : List P2) (p : P2) (h : Row tP w S v ps) (hs : ps.length ≤ 1000000) : Calls Try.prog 88 #[v, .agg #[.int .i64 p.x, .int .i64 p.y]] w (RetOwn tP 47 w (putP ps p.x p.y)) := by
  obtain ⟨A, c, rfl⟩ := h.slice
  have H := Lib.hid h
  have HPE := Lib.hid (putP_eq ps p)
  have KB := Lib.hid (Below.heap1 w (.cells #[.int .i64 p.x, .int .i64 p.y] 47))
  have b0 : (w.alloc (.cells #[.int .i64 p.x, .int .i64 p.y] 47)).cell? ⟨w.heap.size, 0, none⟩ = some (.int .i64 p.x) := by simp [go_sem]
  have b1 : (w.alloc (.cells #[.int .i64 p.x, .int .i64 p.y] 47)).cell? ⟨w.heap.size, 1, none⟩ = some (.int .i64 p.y) := by simp [go_sem]
  have B0 := Lib.hid (And.intro b0 b1)
  clear h b0 b1
  go_enter Try.func88, Try.ntmps88
  go_wp2
  go_loopw [5, 12] (fun t q wr => ∃ j : Nat, j ≤ ps.length ∧ q = .int .i64 (j : Int) ∧ Hid (Own tP 47 wr (fun k => w.heap.size + 1 ≤ k) t ((ps.take j).filter (loQ p.x))) ∧ Hid (Below (w.heap.size + 1) (w.alloc (.cells #[.int .i64 p.x, .int .i64 p.y] 47)) wr)) (fun _ q _ => ps.length - (intOf q).toNat)
  case atStart => exact ⟨0, by omega, rfl, Own.nil _ _ _ _, Lib.hid (Below.refl _ _)⟩
  case round =>
    obtain ⟨wa, rfl⟩ : ∃ wa, wa = wr := ⟨wr, rfl⟩
    obtain ⟨j, hj, rfl, ho, hb⟩ := hrel
    have hwa := hb.out.size
    simp only [World.size_alloc] at hwa
    have KA := Lib.hid (KB.out.trans (hb.out.mono (by omega)))
    have a0 : wa.cell? ⟨w.heap.size, 0, none⟩ = some (.int .i64 p.x) := (hb.out.cell (p := ⟨w.heap.size, 0, none⟩) (by simp)).trans B0.out.1
    have a1 : wa.cell? ⟨w.heap.size, 1, none⟩ = some (.int .i64 p.y) := (hb.out.cell (p := ⟨w.heap.size, 1, none⟩) (by simp)).trans B0.out.2
    have g0 : w.heap.size < wa.heap.size := by omega
    by_cases hlt : j < ps.length
    case pos =>
      obtain ⟨x, hx⟩ := getElem?_of_lt hlt
      obtain ⟨be, oe, hAe, _, hbl, z0, z1⟩ := (H.out.below KA.out).atP hx
      have HSU := Lib.hid (filter_take_succ hx (loQ p.x))
      have hfl := filter_take_len ps j (loQ p.x)
      subst hAe
      clear hx
      have q1 : wa.heap.size < wa.heap.size + 1 := by omega
      have q2 : be < wa.heap.size + 1 := by omega
      have q3 : w.heap.size < wa.heap.size + 1 := by omega
      have KX := Lib.hid (Below.heap1 wa (.cells #[.int .i64 x.x, .int .i64 x.y] 47))
      have HBX := Lib.hid (hb.out.trans (KX.out.mono (by omega)))
      by_cases hn : x.x < p.x
      · have HF := Lib.hid (show (ps.take (j + 1)).filter (loQ p.x) = (ps.take j).filter (loQ p.x) ++ [x] by rw [HSU.out, if_pos (by simp [loQ, hn])])
        have HOA := Lib.hid (ho.out.below KX.out)
        go_wp2_with (at_builtin; refine wpList_own_appendS (ty := tP) (w := w) (S := fun k => w.heap.size + 1 ≤ k) (Sy := fun _ => False) (v := u5) (xs := (ps.take j).filter (loQ p.x)) (x := x) rfl _ _ 30 47 16 _ rfl elemPairs rfl ?hown rfl (by simp) rfl ?hB ?hge ?hSn ?hbytes ?hlen (fun _ h => h.elim) ?_)
        case hown => exact HOA.out
        case hB => exact KA.out.trans (KX.out.mono (by omega))
        case hge => exact fun k hk => by have := ho.out.1 k hk; omega
        case hSn => intro k hk; simp at hk; show _ ≤ k; omega
        case hbytes => omega
        case hlen => unfold maxLen; omega
        intro v2 w4 ho2 hb2 hge2 hg2
        have HO2 := Lib.hid ho2
        have HB4 := Lib.hid (HBX.out.grown hg2 (by simp; omega) (fun k hk => ho.out.1 k hk))
        clear ho2 hb2 hge2 hg2 a0 a1 z0 z1
        go_wp2
        go_roundw
        case rel => exact ⟨j + 1, by omega, by first | (go_num; done) | (go_num; omega), Lib.hid (by rw [HF.out]; exact HO2.out), HB4⟩
        case measure => simp [intOf]; omega
      · have HF := Lib.hid (show (ps.take (j + 1)).filter (loQ p.x) = (ps.take j).filter (loQ p.x) by rw [HSU.out, if_neg (by simp [loQ]; omega), List.append_nil])
        have HOA := Lib.hid (ho.out.below KX.out)
        go_wp2
        go_roundw
        case rel => exact ⟨j + 1, by omega, by first | (go_num; done) | (go_num; omega), Lib.hid (by rw [HF.out]; exact HOA.out), HBX⟩
        case measure => simp [intOf]; omega
    obtain rfl : j = ps.length := by omega
    have HO := Lib.hid (show Own tP 47 wa (fun k => w.heap.size + 1 ≤ k) u5 (ps.filter (loQ p.x)) by have h9 := ho.out; rw [List.take_length] at h9; exact h9)
    have hl0 := List.length_filter_le (loQ p.x) ps
    clear ho
    go_wp2_with (at_builtin; refine wpList_own_appendS (ty := tP) (w := w) (S := fun k => w.heap.size + 1 ≤ k) (Sy := fun _ => False) (v := u5) (xs := ps.filter (loQ p.x)) (x := p) rfl _ _ 30 47 16 _ rfl elemPairs rfl ?hown rfl (by simp) rfl ?hB ?hge ?hSn ?hbytes ?hlen (fun _ h => h.elim) ?_)
    case hown => exact HO.out
    case hB => exact KA.out
    case hge => exact fun k hk => by have := HO.out.1 k hk; omega
    case hSn => intro k hk; show _ ≤ k; omega
    case hbytes => omega
    case hlen => unfold maxLen; omega
    intro v2 w4 ho2 hb2 hge2 hg2
    have HO2 := Lib.hid ho2
    have s4 := hg2.size
    have HB4 := Lib.hid (hb.out.grown hg2 (by omega) (fun k hk => HO.out.1 k hk))
    have c0 : w4.cell? ⟨w.heap.size, 0, none⟩ = some (.int .i64 p.x) := (HB4.out.cell (p := ⟨w.heap.size, 0, none⟩) (by simp)).trans B0.out.1
    have C0 := Lib.hid c0
    clear ho2 hb2 hge2 hg2 a0 a1 hb KA c0
    go_wp2
    go_loopw [5, 32] (fun t q wr => ∃ j : Nat, j ≤ ps.length ∧ q = .int .i64 (j : Int) ∧ Hid (Own tP 47 wr (fun k => w.heap.size + 1 ≤ k) t (ps.filter (loQ p.x) ++ [p] ++ (ps.take j).filter (hiQ p.x))) ∧ Hid (Below (w.heap.size + 1) (w.alloc (.cells #[.int .i64 p.x, .int .i64 p.y] 47)) wr)) (fun _ q _ => ps.length - (intOf q).toNat)
    case atStart => exact ⟨0, by omega, rfl, Lib.hid (by simpa using HO2.out), HB4⟩
    case round =>
      obtain ⟨wb, rfl⟩ : ∃ wb, wb = wr := ⟨wr, rfl⟩
      obtain ⟨j, hj, rfl, ho, hb⟩ := hrel
      have hwb := hb.out.size
      simp only [World.size_alloc] at hwb
      have KA := Lib.hid (KB.out.trans (hb.out.mono (by omega)))
      have a0 : wb.cell? ⟨w.heap.size, 0, none⟩ = some (.int .i64 p.x) := (hb.out.cell (p := ⟨w.heap.size, 0, none⟩) (by simp)).trans B0.out.1
      have g0 : w.heap.size < wb.heap.size := by omega
      by_cases hlt : j < ps.length
      case neg =>
        obtain rfl : j = ps.length := by omega
        have HO3 := Lib.hid (show Own tP 47 wb (fun k => w.heap.size + 1 ≤ k) u5 (putP ps p.x p.y) by have h9 := ho.out; rw [List.take_length] at h9; rw [HPE.out]; exact h9)
        clear ho
        go_wp2
        go_ret
        exact RetOwn.mk (HO3.out.mono fun k hk _ => by omega) KA.out
      obtain ⟨x, hx⟩ := getElem?_of_lt hlt
      obtain ⟨be, oe, hAe, _, hbl, z0, z1⟩ := (H.out.below KA.out).atP hx
      have HSU := Lib.hid (filter_take_succ hx (hiQ p.x))
      have hfl := filter_take_len ps j (hiQ p.x)
      subst hAe
      clear hx
      have q1 : wb.heap.size < wb.heap.size + 1 := by omega
      have q2 : be < wb.heap.size + 1 := by omega
      have q3 : w.heap.size < wb.heap.size + 1 := by omega
      have KX := Lib.hid (Below.heap1 wb (.cells #[.int .i64 x.x, .int .i64 x.y] 47))
      have HBX := Lib.hid (hb.out.trans (KX.out.mono (by omega)))
      by_cases hn : p.x < x.x
      · have HF := Lib.hid (show (ps.take (j + 1)).filter (hiQ p.x) = (ps.take j).filter (hiQ p.x) ++ [x] by rw [HSU.out, if_pos (by simp [hiQ, hn])])
        have HOA := Lib.hid (ho.out.below KX.out)
        obtain ⟨ys, hys⟩ : ∃ ys, ys = ps.filter (loQ p.x) ++ [p] ++ (ps.take j).filter (hiQ p.x) := ⟨_, rfl⟩
        have hyl : ys.length ≤ 2 * ps.length + 1 := by rw [hys]; simp; omega
        rw [← hys] at HOA
        have HYS := Lib.hid hys
        clear hys
        go_wp2_with (at_builtin; refine wpList_own_appendS (ty := tP) (w := w) (S := fun k => w.heap.size + 1 ≤ k) (Sy := fun _ => False) (v := u5) (xs := ys) (x := x) rfl _ _ 30 47 16 _ rfl elemPairs rfl ?hown rfl (by simp) rfl ?hB ?hge ?hSn ?hbytes ?hlen (fun _ h => h.elim) ?_)
        case hown => exact HOA.out
        case hB => exact KA.out.trans (KX.out.mono (by omega))
        case hge => exact fun k hk => by have := ho.out.1 k hk; omega
        case hSn => intro k hk; simp at hk; show _ ≤ k; omega
        case hbytes => omega
        case hlen => unfold maxLen; omega
        intro v2 w4 ho2 hb2 hge2 hg2
        have HO2 := Lib.hid ho2
        have HB4 := Lib.hid (HBX.out.grown hg2 (by simp; omega) (fun k hk => ho.out.1 k hk))
        clear ho2 hb2 hge2 hg2 a0 z0 z1
        go_wp2
        go_roundw
        case rel => exact ⟨j + 1, by omega, by first | (go_num; done) | (go_num; omega), Lib.hid (by rw [HF.out, ← List.append_assoc, ← HYS.out]; exact HO2.out), HB4⟩
        case measure => simp [intOf]; omega
      · have HF := Lib.hid (show (ps.take (j + 1)).filter (hiQ p.x) = (ps.take j).filter (hiQ p.x) by rw [HSU.out, if_neg (by simp [hiQ]; omega), List.append_nil])
        have HOA := Lib.hid (ho.out.below KX.out)
        go_wp2
        go_roundw
        case rel => exact ⟨j + 1, by omega, by first | (go_num; done) | (go_num; omega), Lib.hid (by rw [HF.out]; exact HOA.out), HBX⟩
        case measure => simp [intOf]; omega
end Go.Proofs.Ytpehmmdbjakkpaa
