/- graph.without, at nodes and at edges, whatever the closure. -/
import Derived.Test.YtpehmmdbjakkpaaDelF
namespace Go.Proofs.Ytpehmmdbjakkpaa
open Go.RowKit Go.Shelf
set_option linter.unusedSimpArgs false
set_option linter.unusedVariables false
set_option maxRecDepth 20000 in
set_option maxHeartbeats 4000000 in
theorem withoutN_calls (w : World) (S T : Nat → Prop) (v : Value) (xs : List NV) (fid : Nat) (fr : Array Value) (p : NV → Bool) (eg : Enters Try.prog fid)
    (hf : ∀ (W : World) (x : NV), Kept w T W → Calls Try.prog fid (#[.agg #[.int .i64 x.id, .slice x.A x.n x.c]] ++ fr) W fun e W' => e = .returned (.bool (p x)) ∧ Below W.heap.size W W')
    (h : Row tNV w S v xs) (hT : ∀ k, T k → k < w.heap.size) (hlen : xs.length ≤ 1000000) : Calls Try.prog 79 #[v, .func (.func fid) #[] fr] w (RetOwn tNV 32 w (xs.filter fun x => !p x)) := by
  obtain ⟨A, c, rfl⟩ := h.slice
  have H := Lib.hid h
  have HF := Lib.hid hf
  have HT := Lib.hid hT
  have HEG := Lib.hid eg
  clear h hf eg hT
  go_enter Try.func79, Try.ntmps79
  go_wp2_with fail
  refine (cloneNodes_calls w S _ xs H.out hlen).mono ?_
  rintro e w1 ⟨v1, rfl, ho1, hb1⟩
  have H1 := Lib.hid ho1
  have K1 := Lib.hid hb1
  have s1 := hb1.size
  clear ho1 hb1
  go_wp2_with fail
  refine (deleteN_calls w w1 w.heap.size T v1 xs fid fr p HEG.out (fun W x hW => HF.out W x ((Kept.refl w T).below K1.out |>.trans hW)) H1.out (fun k hk hTk => by have h1 := H1.out.1 k hk; have h2 := HT.out k hTk; omega) K1.out s1 hlen).mono ?_
  rintro e w2 ⟨v2, rfl, ho2, _, hb2, _, _⟩
  have H2 := Lib.hid ho2
  have K2 := Lib.hid hb2
  clear ho2 hb2
  go_wp2
  go_ret
  exact RetOwn.mk H2.out K2.out
set_option maxRecDepth 20000 in
set_option maxHeartbeats 4000000 in
theorem withoutE_calls (w : World) (S T : Nat → Prop) (v : Value) (xs : List EdgeD) (fid : Nat) (fr : Array Value) (p : EdgeD → Bool) (eg : Enters Try.prog fid)
    (hf : ∀ (W : World) (x : EdgeD), Kept w T W → Calls Try.prog fid (#[.agg #[.int .i64 x.id, .int .i64 x.frm, .int .i64 x.to]] ++ fr) W fun e W' => e = .returned (.bool (p x)) ∧ Below W.heap.size W W')
    (h : Row tEdge w S v xs) (hT : ∀ k, T k → k < w.heap.size) (hlen : xs.length ≤ 1000000) : Calls Try.prog 83 #[v, .func (.func fid) #[] fr] w (RetOwn tEdge 40 w (xs.filter fun x => !p x)) := by
  obtain ⟨A, c, rfl⟩ := h.slice
  have H := Lib.hid h
  have HF := Lib.hid hf
  have HT := Lib.hid hT
  have HEG := Lib.hid eg
  clear h hf eg hT
  go_enter Try.func83, Try.ntmps83
  go_wp2_with fail
  refine (cloneEdges_calls w S _ xs H.out hlen).mono ?_
  rintro e w1 ⟨v1, rfl, ho1, hb1⟩
  have H1 := Lib.hid ho1
  have K1 := Lib.hid hb1
  have s1 := hb1.size
  clear ho1 hb1
  go_wp2_with fail
  refine (deleteE_calls w w1 w.heap.size T v1 xs fid fr p HEG.out (fun W x hW => HF.out W x ((Kept.refl w T).below K1.out |>.trans hW)) H1.out (fun k hk hTk => by have h1 := H1.out.1 k hk; have h2 := HT.out k hTk; omega) K1.out s1 hlen).mono ?_
  rintro e w2 ⟨v2, rfl, ho2, _, hb2, _, _⟩
  have H2 := Lib.hid ho2
  have K2 := Lib.hid hb2
  clear ho2 hb2
  go_wp2
  go_ret
  exact RetOwn.mk H2.out K2.out
end Go.Proofs.Ytpehmmdbjakkpaa
