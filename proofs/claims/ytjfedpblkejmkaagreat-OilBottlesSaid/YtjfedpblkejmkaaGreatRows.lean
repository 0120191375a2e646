/-
  No cell of these rows narrows 'for every input' (looked for: loops, veiled, ifaces, maps, wideKeys, modest, calm, conditions, laid).
  DERIVED. THE GIVEN ROWS OF THIS SEAT. 11 by the template 'for every input the law returns true; each argument reads behind the call as it read before'; 0 by the template 'total and deterministic' (their statements: YtjfedpblkejmkaaGreatTotals.lean).
  GIVEN WITH THE SEED: the statements are not yours to turn. If you find one false, say at which input.
  Laid BY PROGRAM, IN A SANDBOX (cutbox-rows.mjs): the forced cells as the released guide's own fill.sh prints them over the translation e110ae594f6557c4… (all of the seat's roots in one cut). By AI agents, Wed Nov 11 2026. No macro, syntax, notation, axiom, sorry.
-/
import Derived.Test.YtjfedpblkejmkaaGreatChecked
import GoSem.Claim
import GoSem.ClaimJoined
import GoSem.ClaimMapViews
import Derived.JoinedTies
import Derived.KernelRfl
namespace Go.Proofs.YtjfedpblkejmkaaGreat
/- THE CELL 'sum', in the pinned program and in every row, IS THE sha256 OF THE DUMP (.gsa) THAT YtjfedpblkejmkaaGreatProg.lean LOADS. Nothing in Lean hashes anything: it is a label: what it is worth is what the hold of that sum in a sandbox is worth. -/
noncomputable def Tryz.pinned : Pinned := { name := "ytjfedpblkejmkaagreat", sum := "e110ae594f6557c4c85f4cf33d9ff62d88c0b2d9f9ca8425d03d6a023d776389", checked := Tryz.checked }
namespace Rows
def none {H : Type} : Left H := { results := [], args := [] }

/-- 'ductilitylaw03.OilColumns': WHATEVER THE INPUT: true; the input reads as it did. -/
def oilColumnsSpec : ChangeSpec := { name := "oilColumns", fn := fun _ => fun
  | [d1, d2, d3] => { results := [.lit (.bool true)], args := [d1, d2, d3] }
  | _ => none }
def oilColumnsRow : OpenClaim := { program := "ytjfedpblkejmkaagreat", sum := "e110ae594f6557c4c85f4cf33d9ff62d88c0b2d9f9ca8425d03d6a023d776389", func := "ductility/ductilitylaw03.OilColumns", spec := "oilColumns", unfollowed := true, recurses := true, plainKeys := false, apart := false }
def OilColumnsSaid : Prop := oilColumnsRow.holds Tryz.pinned (OpenSpec.ofChange oilColumnsSpec)

/-- ITS FALSE NEIGHBOUR: 'it returns false'. Refute it at one input. -/
def oilColumnsWrong : ChangeSpec := { name := "oilColumns", fn := fun _ => fun
  | [d1, d2, d3] => { results := [.lit (.bool false)], args := [d1, d2, d3] }
  | _ => none }
def OilColumnsWrongFalsely : Prop := oilColumnsRow.holds Tryz.pinned (OpenSpec.ofChange oilColumnsWrong)

/-- 'ductilitylaw03.OilRuns': WHATEVER THE INPUT: true; the input reads as it did. -/
def oilRunsSpec : ChangeSpec := { name := "oilRuns", fn := fun _ => fun
  | [d1, d2, d3] => { results := [.lit (.bool true)], args := [d1, d2, d3] }
  | _ => none }
def oilRunsRow : OpenClaim := { program := "ytjfedpblkejmkaagreat", sum := "e110ae594f6557c4c85f4cf33d9ff62d88c0b2d9f9ca8425d03d6a023d776389", func := "ductility/ductilitylaw03.OilRuns", spec := "oilRuns", unfollowed := true, recurses := true, plainKeys := false, apart := false }
def OilRunsSaid : Prop := oilRunsRow.holds Tryz.pinned (OpenSpec.ofChange oilRunsSpec)

/-- ITS FALSE NEIGHBOUR: 'it returns false'. Refute it at one input. -/
def oilRunsWrong : ChangeSpec := { name := "oilRuns", fn := fun _ => fun
  | [d1, d2, d3] => { results := [.lit (.bool false)], args := [d1, d2, d3] }
  | _ => none }
def OilRunsWrongFalsely : Prop := oilRunsRow.holds Tryz.pinned (OpenSpec.ofChange oilRunsWrong)

/-- 'ductilitylaw03.OilWitness': WHATEVER THE INPUT: true; the input reads as it did. -/
def oilWitnessSpec : ChangeSpec := { name := "oilWitness", fn := fun _ => fun
  | [d1, d2, d3] => { results := [.lit (.bool true)], args := [d1, d2, d3] }
  | _ => none }
def oilWitnessRow : OpenClaim := { program := "ytjfedpblkejmkaagreat", sum := "e110ae594f6557c4c85f4cf33d9ff62d88c0b2d9f9ca8425d03d6a023d776389", func := "ductility/ductilitylaw03.OilWitness", spec := "oilWitness", unfollowed := true, recurses := true, plainKeys := false, apart := false }
def OilWitnessSaid : Prop := oilWitnessRow.holds Tryz.pinned (OpenSpec.ofChange oilWitnessSpec)

/-- ITS FALSE NEIGHBOUR: 'it returns false'. Refute it at one input. -/
def oilWitnessWrong : ChangeSpec := { name := "oilWitness", fn := fun _ => fun
  | [d1, d2, d3] => { results := [.lit (.bool false)], args := [d1, d2, d3] }
  | _ => none }
def OilWitnessWrongFalsely : Prop := oilWitnessRow.holds Tryz.pinned (OpenSpec.ofChange oilWitnessWrong)

/-- 'ductilitylaw03.OilValves': WHATEVER THE INPUT: true; the input reads as it did. -/
def oilValvesSpec : ChangeSpec := { name := "oilValves", fn := fun _ => fun
  | [d1, d2, d3] => { results := [.lit (.bool true)], args := [d1, d2, d3] }
  | _ => none }
def oilValvesRow : OpenClaim := { program := "ytjfedpblkejmkaagreat", sum := "e110ae594f6557c4c85f4cf33d9ff62d88c0b2d9f9ca8425d03d6a023d776389", func := "ductility/ductilitylaw03.OilValves", spec := "oilValves", unfollowed := true, recurses := true, plainKeys := false, apart := false }
def OilValvesSaid : Prop := oilValvesRow.holds Tryz.pinned (OpenSpec.ofChange oilValvesSpec)

/-- ITS FALSE NEIGHBOUR: 'it returns false'. Refute it at one input. -/
def oilValvesWrong : ChangeSpec := { name := "oilValves", fn := fun _ => fun
  | [d1, d2, d3] => { results := [.lit (.bool false)], args := [d1, d2, d3] }
  | _ => none }
def OilValvesWrongFalsely : Prop := oilValvesRow.holds Tryz.pinned (OpenSpec.ofChange oilValvesWrong)

/-- 'ductilitylaw03.OilSafety': WHATEVER THE INPUT: true; the input reads as it did. -/
def oilSafetySpec : ChangeSpec := { name := "oilSafety", fn := fun _ => fun
  | [d1, d2, d3] => { results := [.lit (.bool true)], args := [d1, d2, d3] }
  | _ => none }
def oilSafetyRow : OpenClaim := { program := "ytjfedpblkejmkaagreat", sum := "e110ae594f6557c4c85f4cf33d9ff62d88c0b2d9f9ca8425d03d6a023d776389", func := "ductility/ductilitylaw03.OilSafety", spec := "oilSafety", unfollowed := true, recurses := true, plainKeys := false, apart := false }
def OilSafetySaid : Prop := oilSafetyRow.holds Tryz.pinned (OpenSpec.ofChange oilSafetySpec)

/-- ITS FALSE NEIGHBOUR: 'it returns false'. Refute it at one input. -/
def oilSafetyWrong : ChangeSpec := { name := "oilSafety", fn := fun _ => fun
  | [d1, d2, d3] => { results := [.lit (.bool false)], args := [d1, d2, d3] }
  | _ => none }
def OilSafetyWrongFalsely : Prop := oilSafetyRow.holds Tryz.pinned (OpenSpec.ofChange oilSafetyWrong)

/-- 'ductilitylaw03.OilPlants': WHATEVER THE INPUT: true; the input reads as it did. -/
def oilPlantsSpec : ChangeSpec := { name := "oilPlants", fn := fun _ => fun
  | [d1, d2, d3] => { results := [.lit (.bool true)], args := [d1, d2, d3] }
  | _ => none }
def oilPlantsRow : OpenClaim := { program := "ytjfedpblkejmkaagreat", sum := "e110ae594f6557c4c85f4cf33d9ff62d88c0b2d9f9ca8425d03d6a023d776389", func := "ductility/ductilitylaw03.OilPlants", spec := "oilPlants", unfollowed := true, recurses := true, plainKeys := false, apart := false }
def OilPlantsSaid : Prop := oilPlantsRow.holds Tryz.pinned (OpenSpec.ofChange oilPlantsSpec)

/-- ITS FALSE NEIGHBOUR: 'it returns false'. Refute it at one input. -/
def oilPlantsWrong : ChangeSpec := { name := "oilPlants", fn := fun _ => fun
  | [d1, d2, d3] => { results := [.lit (.bool false)], args := [d1, d2, d3] }
  | _ => none }
def OilPlantsWrongFalsely : Prop := oilPlantsRow.holds Tryz.pinned (OpenSpec.ofChange oilPlantsWrong)

/-- 'ductilitylaw03.OilSafe': WHATEVER THE INPUT: true; the input reads as it did. -/
def oilSafeSpec : ChangeSpec := { name := "oilSafe", fn := fun _ => fun
  | [d1, d2, d3] => { results := [.lit (.bool true)], args := [d1, d2, d3] }
  | _ => none }
def oilSafeRow : OpenClaim := { program := "ytjfedpblkejmkaagreat", sum := "e110ae594f6557c4c85f4cf33d9ff62d88c0b2d9f9ca8425d03d6a023d776389", func := "ductility/ductilitylaw03.OilSafe", spec := "oilSafe", unfollowed := true, recurses := true, plainKeys := false, apart := false }
def OilSafeSaid : Prop := oilSafeRow.holds Tryz.pinned (OpenSpec.ofChange oilSafeSpec)

/-- ITS FALSE NEIGHBOUR: 'it returns false'. Refute it at one input. -/
def oilSafeWrong : ChangeSpec := { name := "oilSafe", fn := fun _ => fun
  | [d1, d2, d3] => { results := [.lit (.bool false)], args := [d1, d2, d3] }
  | _ => none }
def OilSafeWrongFalsely : Prop := oilSafeRow.holds Tryz.pinned (OpenSpec.ofChange oilSafeWrong)

/-- 'ductilitylaw03.OilEvery': WHATEVER THE INPUT: true; the input reads as it did. -/
def oilEverySpec : ChangeSpec := { name := "oilEvery", fn := fun _ => fun
  | [d1, d2, d3] => { results := [.lit (.bool true)], args := [d1, d2, d3] }
  | _ => none }
def oilEveryRow : OpenClaim := { program := "ytjfedpblkejmkaagreat", sum := "e110ae594f6557c4c85f4cf33d9ff62d88c0b2d9f9ca8425d03d6a023d776389", func := "ductility/ductilitylaw03.OilEvery", spec := "oilEvery", unfollowed := true, recurses := true, plainKeys := false, apart := false }
def OilEverySaid : Prop := oilEveryRow.holds Tryz.pinned (OpenSpec.ofChange oilEverySpec)

/-- ITS FALSE NEIGHBOUR: 'it returns false'. Refute it at one input. -/
def oilEveryWrong : ChangeSpec := { name := "oilEvery", fn := fun _ => fun
  | [d1, d2, d3] => { results := [.lit (.bool false)], args := [d1, d2, d3] }
  | _ => none }
def OilEveryWrongFalsely : Prop := oilEveryRow.holds Tryz.pinned (OpenSpec.ofChange oilEveryWrong)

/-- 'ductilitylaw03.OilClasses': WHATEVER THE INPUT: true; the input reads as it did. -/
def oilClassesSpec : ChangeSpec := { name := "oilClasses", fn := fun _ => fun
  | [d1, d2, d3] => { results := [.lit (.bool true)], args := [d1, d2, d3] }
  | _ => none }
def oilClassesRow : OpenClaim := { program := "ytjfedpblkejmkaagreat", sum := "e110ae594f6557c4c85f4cf33d9ff62d88c0b2d9f9ca8425d03d6a023d776389", func := "ductility/ductilitylaw03.OilClasses", spec := "oilClasses", unfollowed := true, recurses := true, plainKeys := false, apart := false }
def OilClassesSaid : Prop := oilClassesRow.holds Tryz.pinned (OpenSpec.ofChange oilClassesSpec)

/-- ITS FALSE NEIGHBOUR: 'it returns false'. Refute it at one input. -/
def oilClassesWrong : ChangeSpec := { name := "oilClasses", fn := fun _ => fun
  | [d1, d2, d3] => { results := [.lit (.bool false)], args := [d1, d2, d3] }
  | _ => none }
def OilClassesWrongFalsely : Prop := oilClassesRow.holds Tryz.pinned (OpenSpec.ofChange oilClassesWrong)

/-- 'ductilitylaw03.OilPermitted': WHATEVER THE INPUT: true; the input reads as it did. -/
def oilPermittedSpec : ChangeSpec := { name := "oilPermitted", fn := fun _ => fun
  | [d1, d2, d3] => { results := [.lit (.bool true)], args := [d1, d2, d3] }
  | _ => none }
def oilPermittedRow : OpenClaim := { program := "ytjfedpblkejmkaagreat", sum := "e110ae594f6557c4c85f4cf33d9ff62d88c0b2d9f9ca8425d03d6a023d776389", func := "ductility/ductilitylaw03.OilPermitted", spec := "oilPermitted", unfollowed := true, recurses := true, plainKeys := false, apart := false }
def OilPermittedSaid : Prop := oilPermittedRow.holds Tryz.pinned (OpenSpec.ofChange oilPermittedSpec)

/-- ITS FALSE NEIGHBOUR: 'it returns false'. Refute it at one input. -/
def oilPermittedWrong : ChangeSpec := { name := "oilPermitted", fn := fun _ => fun
  | [d1, d2, d3] => { results := [.lit (.bool false)], args := [d1, d2, d3] }
  | _ => none }
def OilPermittedWrongFalsely : Prop := oilPermittedRow.holds Tryz.pinned (OpenSpec.ofChange oilPermittedWrong)

/-- 'ductilitylaw03.OilBottles': WHATEVER THE INPUT: true; the input reads as it did. -/
def oilBottlesSpec : ChangeSpec := { name := "oilBottles", fn := fun _ => fun
  | [d1, d2, d3] => { results := [.lit (.bool true)], args := [d1, d2, d3] }
  | _ => none }
def oilBottlesRow : OpenClaim := { program := "ytjfedpblkejmkaagreat", sum := "e110ae594f6557c4c85f4cf33d9ff62d88c0b2d9f9ca8425d03d6a023d776389", func := "ductility/ductilitylaw03.OilBottles", spec := "oilBottles", unfollowed := true, recurses := true, plainKeys := false, apart := false }
def OilBottlesSaid : Prop := oilBottlesRow.holds Tryz.pinned (OpenSpec.ofChange oilBottlesSpec)

/-- ITS FALSE NEIGHBOUR: 'it returns false'. Refute it at one input. -/
def oilBottlesWrong : ChangeSpec := { name := "oilBottles", fn := fun _ => fun
  | [d1, d2, d3] => { results := [.lit (.bool false)], args := [d1, d2, d3] }
  | _ => none }
def OilBottlesWrongFalsely : Prop := oilBottlesRow.holds Tryz.pinned (OpenSpec.ofChange oilBottlesWrong)

/- THE SECOND FORM. 'bulk': how many values and letters a reading holds, each counted each time it is reached (what is shared counts as often as it is met; a slice's spare places count too). A statement '..UptoSaid' is the law's where the arguments, and the package variables that the reading takes, are together of bulk at most 1048576: NARROWER than '..Said'. Prove '..Said' where nothing that the law and all that it calls make is longer than what came in: it says more and counts as full. Else prove '..UptoSaid'. A law counts once. -/
mutual
def uptoBulk {H : Type} : DataW H → Nat
  | .lit (.string bytes) => bytes.length + 1
  | .lit _ => 1
  | .nil => 1
  | .ptr d => uptoBulk d + 1
  | .slice elems spare => uptoBulkAll elems + uptoBulkAll spare + 1
  | .agg parts => uptoBulkAll parts + 1
  | .iface _ d => uptoBulk d + 1
  | .map entries => uptoBulkEntries entries + 1
  | .held _ => 1
def uptoBulkAll {H : Type} : List (DataW H) → Nat
  | [] => 0
  | d :: r => uptoBulk d + uptoBulkAll r
def uptoBulkEntries {H : Type} : List (Lit × DataW H) → Nat
  | [] => 0
  | x :: r => uptoBulkEntry x + uptoBulkEntries r
def uptoBulkEntry {H : Type} : Lit × DataW H → Nat
  | (.string bytes, d) => bytes.length + uptoBulk d + 1
  | (_, d) => uptoBulk d + 1
 end
def uptoSmall : (H : Type) → List (DataW H) → Bool := fun _ ds => decide (uptoBulkAll ds ≤ 1048576)
def OpenSpec.upto (s : _root_.Go.ChangeSpec) : _root_.Go.OpenSpec := { _root_.Go.OpenSpec.ofChange s with cond := some uptoSmall }

/-- 'ductilitylaw03.OilColumns', WHERE WHAT IT READS IS OF BULK AT MOST 1048576: true; the input reads as it did. -/
def oilColumnsUptoRow : OpenClaim := { program := "ytjfedpblkejmkaagreat", sum := "e110ae594f6557c4c85f4cf33d9ff62d88c0b2d9f9ca8425d03d6a023d776389", func := "ductility/ductilitylaw03.OilColumns", spec := "oilColumns", unfollowed := true, recurses := true, plainKeys := false, apart := false, narrowed := true }
def OilColumnsUptoSaid : Prop := oilColumnsUptoRow.holds Tryz.pinned (OpenSpec.upto oilColumnsSpec)

/-- 'ductilitylaw03.OilRuns', WHERE WHAT IT READS IS OF BULK AT MOST 1048576: true; the input reads as it did. -/
def oilRunsUptoRow : OpenClaim := { program := "ytjfedpblkejmkaagreat", sum := "e110ae594f6557c4c85f4cf33d9ff62d88c0b2d9f9ca8425d03d6a023d776389", func := "ductility/ductilitylaw03.OilRuns", spec := "oilRuns", unfollowed := true, recurses := true, plainKeys := false, apart := false, narrowed := true }
def OilRunsUptoSaid : Prop := oilRunsUptoRow.holds Tryz.pinned (OpenSpec.upto oilRunsSpec)

/-- 'ductilitylaw03.OilWitness', WHERE WHAT IT READS IS OF BULK AT MOST 1048576: true; the input reads as it did. -/
def oilWitnessUptoRow : OpenClaim := { program := "ytjfedpblkejmkaagreat", sum := "e110ae594f6557c4c85f4cf33d9ff62d88c0b2d9f9ca8425d03d6a023d776389", func := "ductility/ductilitylaw03.OilWitness", spec := "oilWitness", unfollowed := true, recurses := true, plainKeys := false, apart := false, narrowed := true }
def OilWitnessUptoSaid : Prop := oilWitnessUptoRow.holds Tryz.pinned (OpenSpec.upto oilWitnessSpec)

/-- 'ductilitylaw03.OilValves', WHERE WHAT IT READS IS OF BULK AT MOST 1048576: true; the input reads as it did. -/
def oilValvesUptoRow : OpenClaim := { program := "ytjfedpblkejmkaagreat", sum := "e110ae594f6557c4c85f4cf33d9ff62d88c0b2d9f9ca8425d03d6a023d776389", func := "ductility/ductilitylaw03.OilValves", spec := "oilValves", unfollowed := true, recurses := true, plainKeys := false, apart := false, narrowed := true }
def OilValvesUptoSaid : Prop := oilValvesUptoRow.holds Tryz.pinned (OpenSpec.upto oilValvesSpec)

/-- 'ductilitylaw03.OilSafety', WHERE WHAT IT READS IS OF BULK AT MOST 1048576: true; the input reads as it did. -/
def oilSafetyUptoRow : OpenClaim := { program := "ytjfedpblkejmkaagreat", sum := "e110ae594f6557c4c85f4cf33d9ff62d88c0b2d9f9ca8425d03d6a023d776389", func := "ductility/ductilitylaw03.OilSafety", spec := "oilSafety", unfollowed := true, recurses := true, plainKeys := false, apart := false, narrowed := true }
def OilSafetyUptoSaid : Prop := oilSafetyUptoRow.holds Tryz.pinned (OpenSpec.upto oilSafetySpec)

/-- 'ductilitylaw03.OilPlants', WHERE WHAT IT READS IS OF BULK AT MOST 1048576: true; the input reads as it did. -/
def oilPlantsUptoRow : OpenClaim := { program := "ytjfedpblkejmkaagreat", sum := "e110ae594f6557c4c85f4cf33d9ff62d88c0b2d9f9ca8425d03d6a023d776389", func := "ductility/ductilitylaw03.OilPlants", spec := "oilPlants", unfollowed := true, recurses := true, plainKeys := false, apart := false, narrowed := true }
def OilPlantsUptoSaid : Prop := oilPlantsUptoRow.holds Tryz.pinned (OpenSpec.upto oilPlantsSpec)

/-- 'ductilitylaw03.OilSafe', WHERE WHAT IT READS IS OF BULK AT MOST 1048576: true; the input reads as it did. -/
def oilSafeUptoRow : OpenClaim := { program := "ytjfedpblkejmkaagreat", sum := "e110ae594f6557c4c85f4cf33d9ff62d88c0b2d9f9ca8425d03d6a023d776389", func := "ductility/ductilitylaw03.OilSafe", spec := "oilSafe", unfollowed := true, recurses := true, plainKeys := false, apart := false, narrowed := true }
def OilSafeUptoSaid : Prop := oilSafeUptoRow.holds Tryz.pinned (OpenSpec.upto oilSafeSpec)

/-- 'ductilitylaw03.OilEvery', WHERE WHAT IT READS IS OF BULK AT MOST 1048576: true; the input reads as it did. -/
def oilEveryUptoRow : OpenClaim := { program := "ytjfedpblkejmkaagreat", sum := "e110ae594f6557c4c85f4cf33d9ff62d88c0b2d9f9ca8425d03d6a023d776389", func := "ductility/ductilitylaw03.OilEvery", spec := "oilEvery", unfollowed := true, recurses := true, plainKeys := false, apart := false, narrowed := true }
def OilEveryUptoSaid : Prop := oilEveryUptoRow.holds Tryz.pinned (OpenSpec.upto oilEverySpec)

/-- 'ductilitylaw03.OilClasses', WHERE WHAT IT READS IS OF BULK AT MOST 1048576: true; the input reads as it did. -/
def oilClassesUptoRow : OpenClaim := { program := "ytjfedpblkejmkaagreat", sum := "e110ae594f6557c4c85f4cf33d9ff62d88c0b2d9f9ca8425d03d6a023d776389", func := "ductility/ductilitylaw03.OilClasses", spec := "oilClasses", unfollowed := true, recurses := true, plainKeys := false, apart := false, narrowed := true }
def OilClassesUptoSaid : Prop := oilClassesUptoRow.holds Tryz.pinned (OpenSpec.upto oilClassesSpec)

/-- 'ductilitylaw03.OilPermitted', WHERE WHAT IT READS IS OF BULK AT MOST 1048576: true; the input reads as it did. -/
def oilPermittedUptoRow : OpenClaim := { program := "ytjfedpblkejmkaagreat", sum := "e110ae594f6557c4c85f4cf33d9ff62d88c0b2d9f9ca8425d03d6a023d776389", func := "ductility/ductilitylaw03.OilPermitted", spec := "oilPermitted", unfollowed := true, recurses := true, plainKeys := false, apart := false, narrowed := true }
def OilPermittedUptoSaid : Prop := oilPermittedUptoRow.holds Tryz.pinned (OpenSpec.upto oilPermittedSpec)

/-- 'ductilitylaw03.OilBottles', WHERE WHAT IT READS IS OF BULK AT MOST 1048576: true; the input reads as it did. -/
def oilBottlesUptoRow : OpenClaim := { program := "ytjfedpblkejmkaagreat", sum := "e110ae594f6557c4c85f4cf33d9ff62d88c0b2d9f9ca8425d03d6a023d776389", func := "ductility/ductilitylaw03.OilBottles", spec := "oilBottles", unfollowed := true, recurses := true, plainKeys := false, apart := false, narrowed := true }
def OilBottlesUptoSaid : Prop := oilBottlesUptoRow.holds Tryz.pinned (OpenSpec.upto oilBottlesSpec)

end Rows
end Go.Proofs.YtjfedpblkejmkaaGreat
