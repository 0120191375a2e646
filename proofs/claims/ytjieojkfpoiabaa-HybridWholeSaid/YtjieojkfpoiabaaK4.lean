/-
  HybridWhole for any input: the early returns.
-/
import Derived.Test.YtjieojkfpoiabaaK3
namespace Go.Proofs.Ytjieojkfpoiabaa
open Go.RowKit

set_option maxHeartbeats 4000000 in
set_option maxRecDepth 100000 in
theorem Whole_e1 (x : HT) (zs : List Int) (a : Option Addr) (cap : Nat) (off : Int) (w : World) (hlen : zs.length ≤ maxLen) (hf : ¬ zs.length ≤ 40) :
    Calls Try.prog 4 #[.agg x.cells, .slice a zs.length cap, .int .i64 off] w fun e w' => e = .returned (.bool true) ∧ Below w.heap.size w w' := by
  unfold maxLen at hlen
  go_enter Try.func4, Try.ntmps4
  go_wp2_with fail
  refine (awake_any _).mono ?_
  rintro e w1 ⟨rfl, hb⟩
  have HB := Lib.hid (bThen (bAlloc (bSelf w) (.cells x.cells 25)) hb)
  clear hb
  have hf1 : decide ((40 : Int) < (zs.length : Int)) = true := decide_eq_true (by omega)
  go_wp2_with fail
  go_ret
  exact ⟨rfl, HB.out⟩

set_option maxHeartbeats 4000000 in
set_option maxRecDepth 100000 in
theorem Whole_e2 (x : HT) (zs : List Int) (a : Option Addr) (cap : Nat) (off : Int) (w : World) (hfew : zs.length ≤ 40) (hE : testE x ≠ 0) (hr : Reads w a zs.length (ints zs)) :
    Calls Try.prog 4 #[.agg x.cells, .slice a zs.length cap, .int .i64 off] w fun e w' => e = .returned (.bool true) ∧ Below w.heap.size w w' := by
  have HR0 := Lib.hid hr
  clear hr
  have hf1 : decide ((40 : Int) < (zs.length : Int)) = false := decide_eq_false (by omega)
  have HTE := Lib.hid (fun (W : World) => TestErr_any x W)
  obtain ⟨te, teE⟩ : ∃ v, testE x = v := ⟨_, rfl⟩
  rw [teE] at HTE hE
  clear teE
  have hte1 : (te != 0) = true := by simpa using hE
  go_enter Try.func4, Try.ntmps4
  go_wp2_with fail
  refine (awake_any _).mono ?_
  rintro e w1 ⟨rfl, hb⟩
  have HB := Lib.hid (bThen (bAlloc (bSelf w) (.cells x.cells 25)) hb)
  have K0 := Lib.hid ((Blk.new w x.cells 25).to hb)
  have HR := Lib.hid ((HR0.out.alloc (.cells x.cells 25)).to hb)
  clear hb
  obtain ⟨-, k0, -⟩ := K0.out
  go_wp2_with fail
  refine (HTE.out _).mono ?_
  rintro e w2 ⟨rfl, hb⟩
  replace K0 := Lib.hid (K0.out.to hb)
  replace HB := Lib.hid (bThen HB.out hb)
  replace HR := Lib.hid (HR.out.to hb)
  clear hb k0
  go_wp2_with fail
  go_ret
  exact ⟨rfl, HB.out⟩

set_option maxHeartbeats 4000000 in
set_option maxRecDepth 100000 in
theorem Whole_e3 (x : HT) (zs : List Int) (a : Option Addr) (cap : Nat) (off : Int) (w : World) (hfew : zs.length ≤ 40) (hT : testE x = 0) (hE : forcesE x zs ≠ 0) (hr : Reads w a zs.length (ints zs)) :
    Calls Try.prog 4 #[.agg x.cells, .slice a zs.length cap, .int .i64 off] w fun e w' => e = .returned (.bool true) ∧ Below w.heap.size w w' := by
  have HR0 := Lib.hid hr
  clear hr
  have hf1 : decide ((40 : Int) < (zs.length : Int)) = false := decide_eq_false (by omega)
  have HTE := Lib.hid (fun (W : World) => TestErr_any x W)
  rw [hT] at HTE
  have HFE := Lib.hid (fun (W : World) h => ForcesErr_any x zs a cap W (by unfold maxLen; omega) h)
  obtain ⟨fe, feE⟩ : ∃ v, forcesE x zs = v := ⟨_, rfl⟩
  rw [feE] at HFE hE
  clear feE
  have hfe1 : (fe != 0) = true := by simpa using hE
  go_enter Try.func4, Try.ntmps4
  go_wp2_with fail
  refine (awake_any _).mono ?_
  rintro e w1 ⟨rfl, hb⟩
  have HB := Lib.hid (bThen (bAlloc (bSelf w) (.cells x.cells 25)) hb)
  have K0 := Lib.hid ((Blk.new w x.cells 25).to hb)
  have HR := Lib.hid ((HR0.out.alloc (.cells x.cells 25)).to hb)
  clear hb
  obtain ⟨-, k0, -⟩ := K0.out
  go_wp2_with fail
  refine (HTE.out _).mono ?_
  rintro e w2 ⟨rfl, hb⟩
  replace K0 := Lib.hid (K0.out.to hb)
  replace HB := Lib.hid (bThen HB.out hb)
  replace HR := Lib.hid (HR.out.to hb)
  clear hb k0
  obtain ⟨-, k0, -⟩ := K0.out
  go_wp2_with fail
  refine (HFE.out _ HR.out).mono ?_
  rintro e w3 ⟨rfl, hb⟩
  replace K0 := Lib.hid (K0.out.to hb)
  replace HB := Lib.hid (bThen HB.out hb)
  replace HR := Lib.hid (HR.out.to hb)
  clear hb k0
  go_wp2_with fail
  go_ret
  exact ⟨rfl, HB.out⟩

set_option maxHeartbeats 4000000 in
set_option maxRecDepth 100000 in
theorem Whole_e4 (x : HT) (zs : List Int) (a : Option Addr) (cap : Nat) (off : Int) (w : World) (hfew : zs.length ≤ 40) (hT : testE x = 0) (hF : forcesE x zs = 0) (hE : offE off ≠ 0) (hr : Reads w a zs.length (ints zs)) :
    Calls Try.prog 4 #[.agg x.cells, .slice a zs.length cap, .int .i64 off] w fun e w' => e = .returned (.bool true) ∧ Below w.heap.size w w' := by
  have HR0 := Lib.hid hr
  clear hr
  have hf1 : decide ((40 : Int) < (zs.length : Int)) = false := decide_eq_false (by omega)
  have HTE := Lib.hid (fun (W : World) => TestErr_any x W)
  rw [hT] at HTE
  have HFE := Lib.hid (fun (W : World) h => ForcesErr_any x zs a cap W (by unfold maxLen; omega) h)
  rw [hF] at HFE
  have HOF := Lib.hid (fun (W : World) => OffErr_any off W)
  obtain ⟨oe, oeE⟩ : ∃ v, offE off = v := ⟨_, rfl⟩
  rw [oeE] at HOF hE
  clear oeE
  have hoe1 : (oe != 0) = true := by simpa using hE
  go_enter Try.func4, Try.ntmps4
  go_wp2_with fail
  refine (awake_any _).mono ?_
  rintro e w1 ⟨rfl, hb⟩
  have HB := Lib.hid (bThen (bAlloc (bSelf w) (.cells x.cells 25)) hb)
  have K0 := Lib.hid ((Blk.new w x.cells 25).to hb)
  have HR := Lib.hid ((HR0.out.alloc (.cells x.cells 25)).to hb)
  clear hb
  obtain ⟨-, k0, -⟩ := K0.out
  go_wp2_with fail
  refine (HTE.out _).mono ?_
  rintro e w2 ⟨rfl, hb⟩
  replace K0 := Lib.hid (K0.out.to hb)
  replace HB := Lib.hid (bThen HB.out hb)
  replace HR := Lib.hid (HR.out.to hb)
  clear hb k0
  obtain ⟨-, k0, -⟩ := K0.out
  go_wp2_with fail
  refine (HFE.out _ HR.out).mono ?_
  rintro e w3 ⟨rfl, hb⟩
  replace K0 := Lib.hid (K0.out.to hb)
  replace HB := Lib.hid (bThen HB.out hb)
  replace HR := Lib.hid (HR.out.to hb)
  clear hb k0
  go_wp2_with (go_at_call 18; refine (HOF.out _).mono ?_; rintro e w' ⟨rfl, rfl⟩)
  go_ret
  exact ⟨rfl, HB.out⟩

theorem HybridWhole_any (x : HT) (zs : List Int) (a : Option Addr) (cap : Nat) (off : Int) (w : World) (hlen : zs.length ≤ maxLen) (hcap : zs.length ≤ cap) (hr : Reads w a zs.length (ints zs)) :
    Calls Try.prog 4 #[.agg x.cells, .slice a zs.length cap, .int .i64 off] w fun e w' => e = .returned (.bool true) ∧ Below w.heap.size w w' := by
  by_cases hfew : zs.length ≤ 40
  · by_cases hT : testE x = 0
    · by_cases hF : forcesE x zs = 0
      · by_cases hO : offE off = 0
        · obtain ⟨h1, h2⟩ := offE_zero hO
          exact HybridWhole_good x zs a cap off w (testE_zero hT) hfew hF h1 h2 hcap hr
        · exact Whole_e4 x zs a cap off w hfew hT hF hO hr
      · exact Whole_e3 x zs a cap off w hfew hT hF hr
    · exact Whole_e2 x zs a cap off w hfew hT hr
  · exact Whole_e1 x zs a cap off w hlen hfew

end Go.Proofs.Ytjieojkfpoiabaa
