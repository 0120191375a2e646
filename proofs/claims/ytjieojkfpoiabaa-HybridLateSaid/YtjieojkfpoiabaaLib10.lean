/-
  A region that draws its order, and stores into blocks from N on.
-/
import Derived.Test.YtjieojkfpoiabaaLib9
namespace Go.Proofs.Ytjieojkfpoiabaa
open Go.RowKit

theorem wp_region_treeN {P : Program} {l : List Oper} {Q : Exit → Act → World → Prop} {id : Nat} {a : Act} {w : World} (N : Nat) (hm : P.follows .mixedOrders = true)
    (h : ∀ w', Below w.heap.size w w' → WT P N l Q l.length (Array.replicate l.length false) a w') : (Code.region id l.toArray true).wp P Q a w := by
  refine wp_region_any hm (wpAny_of_wpD (N := N) _ _ _ _ ?_)
  have := (h { w with drawn := w.drawn + 1 } (Below.refl _ _).drew).out
  simpa using this

end Go.Proofs.Ytjieojkfpoiabaa
