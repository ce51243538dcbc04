/- The drawn region's rule, where the class is what stands at its own beginning. -/
import Derived.Test.YtpehmmdbjakkpaaSched
namespace Go.Proofs.Ytpehmmdbjakkpaa
open Go.RowKit
theorem wp_region_schedK {P : Program} {ops : Array Oper} {a : Act} {w : World} {id : Nat} {Q' : Exit → Act → World → Prop} (T : Nat → Prop) (s : List (Nat × Bool)) (hm : P.follows .mixedOrders = true) (hB : schedB ops s = true) (h : Kept w T w.drew → wpSched P ops (fun a w => Q' .normal a w) s (Kept w T) a w.drew) : (Code.region id ops true).wp P Q' a w :=
  wp_region_sched s (Kept w T) hm hB (h (Kept.refl w T).drew)
end Go.Proofs.Ytpehmmdbjakkpaa
