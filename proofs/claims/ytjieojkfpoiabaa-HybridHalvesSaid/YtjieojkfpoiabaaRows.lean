/-
  No cell of these rows narrows 'for every input' (looked for: loops, veiled, ifaces, maps, wideKeys, modest, calm, conditions, laid).
  DERIVED. THE GIVEN ROWS OF THIS SEAT. 7 by the template 'for every input the law returns true; each argument reads behind the call as it read before'; 0 by the template 'total and deterministic' (their statements: YtjieojkfpoiabaaTotals.lean).
  GIVEN WITH THE SEED: the statements are not yours to turn. If you find one false, say at which input.
  Laid BY PROGRAM, IN A SANDBOX (cutbox-rows.mjs): the forced cells as the released guide's own fill.sh prints them over the translation 019ebb91349bf6a5… (all of the seat's roots in one cut). By AI agents, Wed Nov 11 2026. No macro, syntax, notation, axiom, sorry.
-/
import Derived.Test.YtjieojkfpoiabaaChecked
import GoSem.Claim
import GoSem.ClaimJoined
import GoSem.ClaimMapViews
import Derived.JoinedTies
import Derived.KernelRfl
namespace Go.Proofs.Ytjieojkfpoiabaa
/- THE CELL 'sum', in the pinned program and in every row, IS THE sha256 OF THE DUMP (.gsa) THAT YtjieojkfpoiabaaProg.lean LOADS. Nothing in Lean hashes anything: it is a label: what it is worth is what the hold of that sum in a sandbox is worth. -/
noncomputable def Try.pinned : Pinned := { name := "ytjieojkfpoiabaa", sum := "019ebb91349bf6a544ed1d18417d4efaba70674df37881c07757cd6105175947", checked := Try.checked }
namespace Rows
def none {H : Type} : Left H := { results := [], args := [] }

/-- 'ductilitylaw08.HybridRuns': WHATEVER THE INPUT: true; the input reads as it did. -/
def hybridRunsSpec : ChangeSpec := { name := "hybridRuns", fn := fun _ => fun
  | [d1, d2, d3] => { results := [.lit (.bool true)], args := [d1, d2, d3] }
  | _ => none }
def hybridRunsRow : OpenClaim := { program := "ytjieojkfpoiabaa", sum := "019ebb91349bf6a544ed1d18417d4efaba70674df37881c07757cd6105175947", func := "ductility/ductilitylaw08.HybridRuns", spec := "hybridRuns", unfollowed := true, recurses := true, apart := false }
def HybridRunsSaid : Prop := hybridRunsRow.holds Try.pinned (OpenSpec.ofChange hybridRunsSpec)

/-- ITS FALSE NEIGHBOUR: 'it returns false'. Refute it at one input. -/
def hybridRunsWrong : ChangeSpec := { name := "hybridRuns", fn := fun _ => fun
  | [d1, d2, d3] => { results := [.lit (.bool false)], args := [d1, d2, d3] }
  | _ => none }
def HybridRunsWrongFalsely : Prop := hybridRunsRow.holds Try.pinned (OpenSpec.ofChange hybridRunsWrong)

/-- 'ductilitylaw08.HybridWhole': WHATEVER THE INPUT: true; the input reads as it did. -/
def hybridWholeSpec : ChangeSpec := { name := "hybridWhole", fn := fun _ => fun
  | [d1, d2, d3] => { results := [.lit (.bool true)], args := [d1, d2, d3] }
  | _ => none }
def hybridWholeRow : OpenClaim := { program := "ytjieojkfpoiabaa", sum := "019ebb91349bf6a544ed1d18417d4efaba70674df37881c07757cd6105175947", func := "ductility/ductilitylaw08.HybridWhole", spec := "hybridWhole", unfollowed := true, recurses := true, apart := false }
def HybridWholeSaid : Prop := hybridWholeRow.holds Try.pinned (OpenSpec.ofChange hybridWholeSpec)

/-- ITS FALSE NEIGHBOUR: 'it returns false'. Refute it at one input. -/
def hybridWholeWrong : ChangeSpec := { name := "hybridWhole", fn := fun _ => fun
  | [d1, d2, d3] => { results := [.lit (.bool false)], args := [d1, d2, d3] }
  | _ => none }
def HybridWholeWrongFalsely : Prop := hybridWholeRow.holds Try.pinned (OpenSpec.ofChange hybridWholeWrong)

/-- 'ductilitylaw08.HybridMessages': WHATEVER THE INPUT: true; the input reads as it did. -/
def hybridMessagesSpec : ChangeSpec := { name := "hybridMessages", fn := fun _ => fun
  | [d1, d2] => { results := [.lit (.bool true)], args := [d1, d2] }
  | _ => none }
def hybridMessagesRow : OpenClaim := { program := "ytjieojkfpoiabaa", sum := "019ebb91349bf6a544ed1d18417d4efaba70674df37881c07757cd6105175947", func := "ductility/ductilitylaw08.HybridMessages", spec := "hybridMessages", unfollowed := true, recurses := true, apart := false }
def HybridMessagesSaid : Prop := hybridMessagesRow.holds Try.pinned (OpenSpec.ofChange hybridMessagesSpec)

/-- ITS FALSE NEIGHBOUR: 'it returns false'. Refute it at one input. -/
def hybridMessagesWrong : ChangeSpec := { name := "hybridMessages", fn := fun _ => fun
  | [d1, d2] => { results := [.lit (.bool false)], args := [d1, d2] }
  | _ => none }
def HybridMessagesWrongFalsely : Prop := hybridMessagesRow.holds Try.pinned (OpenSpec.ofChange hybridMessagesWrong)

/-- 'ductilitylaw08.HybridLate': WHATEVER THE INPUT: true; the input reads as it did. -/
def hybridLateSpec : ChangeSpec := { name := "hybridLate", fn := fun _ => fun
  | [d1, d2, d3] => { results := [.lit (.bool true)], args := [d1, d2, d3] }
  | _ => none }
def hybridLateRow : OpenClaim := { program := "ytjieojkfpoiabaa", sum := "019ebb91349bf6a544ed1d18417d4efaba70674df37881c07757cd6105175947", func := "ductility/ductilitylaw08.HybridLate", spec := "hybridLate", unfollowed := true, recurses := true, apart := false }
def HybridLateSaid : Prop := hybridLateRow.holds Try.pinned (OpenSpec.ofChange hybridLateSpec)

/-- ITS FALSE NEIGHBOUR: 'it returns false'. Refute it at one input. -/
def hybridLateWrong : ChangeSpec := { name := "hybridLate", fn := fun _ => fun
  | [d1, d2, d3] => { results := [.lit (.bool false)], args := [d1, d2, d3] }
  | _ => none }
def HybridLateWrongFalsely : Prop := hybridLateRow.holds Try.pinned (OpenSpec.ofChange hybridLateWrong)

/-- 'ductilitylaw08.HybridTests': WHATEVER THE INPUT: true; the input reads as it did. -/
def hybridTestsSpec : ChangeSpec := { name := "hybridTests", fn := fun _ => fun
  | [d1, d2, d3] => { results := [.lit (.bool true)], args := [d1, d2, d3] }
  | _ => none }
def hybridTestsRow : OpenClaim := { program := "ytjieojkfpoiabaa", sum := "019ebb91349bf6a544ed1d18417d4efaba70674df37881c07757cd6105175947", func := "ductility/ductilitylaw08.HybridTests", spec := "hybridTests", unfollowed := true, recurses := true, apart := false }
def HybridTestsSaid : Prop := hybridTestsRow.holds Try.pinned (OpenSpec.ofChange hybridTestsSpec)

/-- ITS FALSE NEIGHBOUR: 'it returns false'. Refute it at one input. -/
def hybridTestsWrong : ChangeSpec := { name := "hybridTests", fn := fun _ => fun
  | [d1, d2, d3] => { results := [.lit (.bool false)], args := [d1, d2, d3] }
  | _ => none }
def HybridTestsWrongFalsely : Prop := hybridTestsRow.holds Try.pinned (OpenSpec.ofChange hybridTestsWrong)

/-- 'ductilitylaw08.HybridChains': WHATEVER THE INPUT: true; the input reads as it did. -/
def hybridChainsSpec : ChangeSpec := { name := "hybridChains", fn := fun _ => fun
  | [d1, d2, d3] => { results := [.lit (.bool true)], args := [d1, d2, d3] }
  | _ => none }
def hybridChainsRow : OpenClaim := { program := "ytjieojkfpoiabaa", sum := "019ebb91349bf6a544ed1d18417d4efaba70674df37881c07757cd6105175947", func := "ductility/ductilitylaw08.HybridChains", spec := "hybridChains", inPlace := ["math/bits.Sub64", "math/bits.Add64"], unfollowed := true, recurses := true, apart := false }
def HybridChainsSaid : Prop := hybridChainsRow.holds Try.pinned (OpenSpec.ofChange hybridChainsSpec)

/-- ITS FALSE NEIGHBOUR: 'it returns false'. Refute it at one input. -/
def hybridChainsWrong : ChangeSpec := { name := "hybridChains", fn := fun _ => fun
  | [d1, d2, d3] => { results := [.lit (.bool false)], args := [d1, d2, d3] }
  | _ => none }
def HybridChainsWrongFalsely : Prop := hybridChainsRow.holds Try.pinned (OpenSpec.ofChange hybridChainsWrong)

/-- 'ductilitylaw08.HybridHalves': WHATEVER THE INPUT: true; the input reads as it did. -/
def hybridHalvesSpec : ChangeSpec := { name := "hybridHalves", fn := fun _ => fun
  | [d1, d2] => { results := [.lit (.bool true)], args := [d1, d2] }
  | _ => none }
def hybridHalvesRow : OpenClaim := { program := "ytjieojkfpoiabaa", sum := "019ebb91349bf6a544ed1d18417d4efaba70674df37881c07757cd6105175947", func := "ductility/ductilitylaw08.HybridHalves", spec := "hybridHalves", inPlace := ["math/bits.Sub64", "math/bits.Add64"], unfollowed := true, recurses := true, apart := false }
def HybridHalvesSaid : Prop := hybridHalvesRow.holds Try.pinned (OpenSpec.ofChange hybridHalvesSpec)

/-- ITS FALSE NEIGHBOUR: 'it returns false'. Refute it at one input. -/
def hybridHalvesWrong : ChangeSpec := { name := "hybridHalves", fn := fun _ => fun
  | [d1, d2] => { results := [.lit (.bool false)], args := [d1, d2] }
  | _ => none }
def HybridHalvesWrongFalsely : Prop := hybridHalvesRow.holds Try.pinned (OpenSpec.ofChange hybridHalvesWrong)

/- THE SECOND FORM. 'bulk': how many values and letters a reading holds, each counted each time it is reached (what is shared counts as often as it is met; a slice's spare places count too). A statement '..UptoSaid' is the law's where the arguments, and the package variables that the reading takes, are together of bulk at most 1048576: NARROWER than '..Said'. Prove '..Said' where nothing that the law and all that it calls make is longer than what came in: it says more and counts as full. Else prove '..UptoSaid'. A law counts once. -/
mutual
def uptoBulk {H : Type} : DataW H → Nat
  | .lit (.string bytes) => bytes.length + 1
  | .lit _ => 1
  | .nil => 1
  | .ptr d => uptoBulk d + 1
  | .slice elems spare => uptoBulkAll elems + uptoBulkAll spare + 1
  | .agg parts => uptoBulkAll parts + 1
  | .iface _ d => uptoBulk d + 1
  | .map entries => uptoBulkEntries entries + 1
  | .held _ => 1
def uptoBulkAll {H : Type} : List (DataW H) → Nat
  | [] => 0
  | d :: r => uptoBulk d + uptoBulkAll r
def uptoBulkEntries {H : Type} : List (Lit × DataW H) → Nat
  | [] => 0
  | x :: r => uptoBulkEntry x + uptoBulkEntries r
def uptoBulkEntry {H : Type} : Lit × DataW H → Nat
  | (.string bytes, d) => bytes.length + uptoBulk d + 1
  | (_, d) => uptoBulk d + 1
 end
def uptoSmall : (H : Type) → List (DataW H) → Bool := fun _ ds => decide (uptoBulkAll ds ≤ 1048576)
def OpenSpec.upto (s : _root_.Go.ChangeSpec) : _root_.Go.OpenSpec := { _root_.Go.OpenSpec.ofChange s with cond := some uptoSmall }

/-- 'ductilitylaw08.HybridRuns', WHERE WHAT IT READS IS OF BULK AT MOST 1048576: true; the input reads as it did. -/
def hybridRunsUptoRow : OpenClaim := { program := "ytjieojkfpoiabaa", sum := "019ebb91349bf6a544ed1d18417d4efaba70674df37881c07757cd6105175947", func := "ductility/ductilitylaw08.HybridRuns", spec := "hybridRuns", unfollowed := true, recurses := true, apart := false, narrowed := true }
def HybridRunsUptoSaid : Prop := hybridRunsUptoRow.holds Try.pinned (OpenSpec.upto hybridRunsSpec)

/-- 'ductilitylaw08.HybridWhole', WHERE WHAT IT READS IS OF BULK AT MOST 1048576: true; the input reads as it did. -/
def hybridWholeUptoRow : OpenClaim := { program := "ytjieojkfpoiabaa", sum := "019ebb91349bf6a544ed1d18417d4efaba70674df37881c07757cd6105175947", func := "ductility/ductilitylaw08.HybridWhole", spec := "hybridWhole", unfollowed := true, recurses := true, apart := false, narrowed := true }
def HybridWholeUptoSaid : Prop := hybridWholeUptoRow.holds Try.pinned (OpenSpec.upto hybridWholeSpec)

/-- 'ductilitylaw08.HybridMessages', WHERE WHAT IT READS IS OF BULK AT MOST 1048576: true; the input reads as it did. -/
def hybridMessagesUptoRow : OpenClaim := { program := "ytjieojkfpoiabaa", sum := "019ebb91349bf6a544ed1d18417d4efaba70674df37881c07757cd6105175947", func := "ductility/ductilitylaw08.HybridMessages", spec := "hybridMessages", unfollowed := true, recurses := true, apart := false, narrowed := true }
def HybridMessagesUptoSaid : Prop := hybridMessagesUptoRow.holds Try.pinned (OpenSpec.upto hybridMessagesSpec)

/-- 'ductilitylaw08.HybridLate', WHERE WHAT IT READS IS OF BULK AT MOST 1048576: true; the input reads as it did. -/
def hybridLateUptoRow : OpenClaim := { program := "ytjieojkfpoiabaa", sum := "019ebb91349bf6a544ed1d18417d4efaba70674df37881c07757cd6105175947", func := "ductility/ductilitylaw08.HybridLate", spec := "hybridLate", unfollowed := true, recurses := true, apart := false, narrowed := true }
def HybridLateUptoSaid : Prop := hybridLateUptoRow.holds Try.pinned (OpenSpec.upto hybridLateSpec)

/-- 'ductilitylaw08.HybridTests', WHERE WHAT IT READS IS OF BULK AT MOST 1048576: true; the input reads as it did. -/
def hybridTestsUptoRow : OpenClaim := { program := "ytjieojkfpoiabaa", sum := "019ebb91349bf6a544ed1d18417d4efaba70674df37881c07757cd6105175947", func := "ductility/ductilitylaw08.HybridTests", spec := "hybridTests", unfollowed := true, recurses := true, apart := false, narrowed := true }
def HybridTestsUptoSaid : Prop := hybridTestsUptoRow.holds Try.pinned (OpenSpec.upto hybridTestsSpec)

/-- 'ductilitylaw08.HybridChains', WHERE WHAT IT READS IS OF BULK AT MOST 1048576: true; the input reads as it did. -/
def hybridChainsUptoRow : OpenClaim := { program := "ytjieojkfpoiabaa", sum := "019ebb91349bf6a544ed1d18417d4efaba70674df37881c07757cd6105175947", func := "ductility/ductilitylaw08.HybridChains", spec := "hybridChains", inPlace := ["math/bits.Sub64", "math/bits.Add64"], unfollowed := true, recurses := true, apart := false, narrowed := true }
def HybridChainsUptoSaid : Prop := hybridChainsUptoRow.holds Try.pinned (OpenSpec.upto hybridChainsSpec)

/-- 'ductilitylaw08.HybridHalves', WHERE WHAT IT READS IS OF BULK AT MOST 1048576: true; the input reads as it did. -/
def hybridHalvesUptoRow : OpenClaim := { program := "ytjieojkfpoiabaa", sum := "019ebb91349bf6a544ed1d18417d4efaba70674df37881c07757cd6105175947", func := "ductility/ductilitylaw08.HybridHalves", spec := "hybridHalves", inPlace := ["math/bits.Sub64", "math/bits.Add64"], unfollowed := true, recurses := true, apart := false, narrowed := true }
def HybridHalvesUptoSaid : Prop := hybridHalvesUptoRow.holds Try.pinned (OpenSpec.upto hybridHalvesSpec)

end Rows
end Go.Proofs.Ytjieojkfpoiabaa
