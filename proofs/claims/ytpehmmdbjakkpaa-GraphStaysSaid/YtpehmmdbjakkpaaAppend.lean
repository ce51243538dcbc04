/- append of one element to the call's own slice, whose elements may lie anywhere else. -/
import Derived.Test.YtpehmmdbjakkpaaLib3
namespace Go.Proofs.Ytpehmmdbjakkpaa
open Go.RowKit
section
variable {P : Program} {α : Type} {ty : Ty α} {ops : Array Oper} {rest : List Oper} {o : Oper} {a : Act} {Q : Exit → Act → World → Prop}
theorem wpList_own_appendS {w W : World} {S Sy : Nat → Prop} {v : Value} {xs : List α} {x : α} {cs : Array Value} (hgd : o.guard = none) (s y : Operand) (t e : TypeId) (bytes : Nat) (z : Value)
    (ho : o.op = .call { callee := .builtin .append, args := #[s, y], argTypes := #[t, t] }) (he : ElemOf P t e ty.sz bytes z)
    {H : Nat} (hs : a.eval s = v) (hown : Own ty e W S v xs) (hx : a.eval y = .slice (some ⟨H, 0, none⟩) 1 1) (hH : W.heap.size = H) (hk : ty.K W Sy x cs.toList)
    (HB : Below w.heap.size w W) (hge : ∀ k, v.ownBlock = some k → w.heap.size ≤ k) (hSn : ∀ k, W.heap.size ≤ k → S k)
    (hbytes : (xs.length + 1) * bytes ≤ 140737488355328) (hlen : xs.length + 1 ≤ maxLen) (hin : ∀ k, Sy k → k < W.heap.size → S k ∧ v.ownBlock ≠ some k)
    (h : ∀ v' w', Own ty e w' S v' (xs ++ [x]) → Below w.heap.size w w' → (∀ k, v'.ownBlock = some k → w.heap.size ≤ k) → W.grownBy w' v.ownBlock → wpList P ops Q rest (a.put o.dst v') w') :
    wpList P ops Q (o :: rest) a (W.alloc (.cells cs e)) := by
  subst hH
  have hsz := HB.size
  have hlt := hown.lt
  have hb := Row.box ty W e (fun k => Sy k ∧ k < W.heap.size ∨ k = W.heap.size) (ty.mono (fun k h1 h2 => .inl ⟨h1, h2⟩) hk) (.inr rfl)
  have e0 : cs.toList.toArray = cs := by simp
  rw [e0] at hb
  refine wpList_own_append (W := W.alloc (.cells cs e)) (S := S) (v := v) (xs := xs) (ys := [x]) hgd s y t e bytes z ho he hs (hown.move (Same.of_alloc _ _ _)) _ 1 1 hx hb rfl hbytes hlen (by rw [World.size_alloc]; exact hSn _ (by omega)) ?_ ?_
  · intro k hk _
    rcases hk with ⟨h1, h2⟩ | rfl
    · exact hin k h1 h2
    · exact ⟨hSn _ (Nat.le_refl _), fun e => by have := hlt _ e; omega⟩
  · intro v' w' h1 h2 h3
    rw [World.size_alloc] at h3
    have hg : W.grownBy w' v.ownBlock := World.grownBy.trans (World.grownBy_alloc W _ _) h2
    exact h v' w' h1 (HB.grown hg hsz fun k hk => hge k hk) (fun k hk => by
      rcases h3 with h3 | h3
      · exact hge k (h3 ▸ hk)
      · rw [h3] at hk; injection hk with hk; omega) hg
end
end Go.Proofs.Ytpehmmdbjakkpaa
