/-
  HybridMessages for any messages.
-/
import Derived.Test.YtjieojkfpoiabaaH4
import Derived.Test.YtjieojkfpoiabaaG2
namespace Go.Proofs.Ytjieojkfpoiabaa
open Go.RowKit

set_option maxRecDepth 100000 in
theorem HybridMessages_any (ms : List Msg) (a : Option Addr) (cap : Nat) (d u : Int) (w : World) (hlen : ms.length ≤ maxLen) (hr : Reads w a (ms.length * 3) (msgs ms)) :
    Calls Try.prog 5 #[.slice a ms.length cap, .agg #[.int .i64 d, .int .i64 u]] w fun e w' => e = .returned (.bool true) ∧ Below w.heap.size w w' := by
  by_cases hfew : ms.length ≤ 62
  · exact HybridMessages_few ms a cap d u w hfew hr
  · unfold maxLen at hlen
    clear hr
    go_enter Try.func5, Try.ntmps5
    go_wp2_with fail
    refine (awake_any _).mono ?_
    rintro e w1 ⟨rfl, hb⟩
    have HB := Lib.hid (bThen (bAlloc (bSelf w) (.cells #[.int .i64 d, .int .i64 u] 45)) hb)
    clear hb
    go_wp2_with fail
    go_ret
    exact ⟨rfl, HB.out⟩

end Go.Proofs.Ytjieojkfpoiabaa
