/-
  CheckTest of package hybrid, TestErr of its reference.
-/
import Derived.Test.YtjieojkfpoiabaaA1
import Derived.Deep.DeepCutAuto
namespace Go.Proofs.Ytjieojkfpoiabaa
open Go.RowKit

/-- A test, as data. -/
structure HT where
  m : Int
  d : Int
  c : Int
  s : Int
  dl : Int
  cp : Bool
  b : Int
  lo : Int
  hi : Int

abbrev HT.cells (x : HT) : Array Value := #[.int .i64 x.m, .int .i64 x.d, .int .i64 x.c, .int .i64 x.s, .int .i64 x.dl, .bool x.cp, .int .i64 x.b, .int .i64 x.lo, .int .i64 x.hi]

def rightB (x : HT) : Bool :=
  decide (1 ≤ x.m ∧ x.m ≤ 1000 ∧ 0 ≤ x.d ∧ x.d ≤ 1000 ∧ 0 ≤ x.c ∧ x.c ≤ 1000 ∧ 0 ≤ x.s ∧ x.s ≤ 1000 ∧ 0 ≤ x.dl ∧ x.dl ≤ 2 ∧ 0 ≤ x.b ∧ x.b ≤ 3 ∧ -1000 ≤ x.lo ∧ x.lo ≤ 1000 ∧ -1000 ≤ x.hi ∧ x.hi ≤ 1000)

theorem rightB_of {x : HT} {b : Bool} (h : (b = true) ↔ (1 ≤ x.m ∧ x.m ≤ 1000 ∧ 0 ≤ x.d ∧ x.d ≤ 1000 ∧ 0 ≤ x.c ∧ x.c ≤ 1000 ∧ 0 ≤ x.s ∧ x.s ≤ 1000 ∧ 0 ≤ x.dl ∧ x.dl ≤ 2 ∧ 0 ≤ x.b ∧ x.b ≤ 3 ∧ -1000 ≤ x.lo ∧ x.lo ≤ 1000 ∧ -1000 ≤ x.hi ∧ x.hi ≤ 1000)) : b = rightB x := by
  unfold rightB; rw [Bool.eq_iff_iff, decide_eq_true_iff]; exact h

theorem notRightB_of {x : HT} {b : Bool} (h : (b = true) ↔ ¬ (1 ≤ x.m ∧ x.m ≤ 1000 ∧ 0 ≤ x.d ∧ x.d ≤ 1000 ∧ 0 ≤ x.c ∧ x.c ≤ 1000 ∧ 0 ≤ x.s ∧ x.s ≤ 1000 ∧ 0 ≤ x.dl ∧ x.dl ≤ 2 ∧ 0 ≤ x.b ∧ x.b ≤ 3 ∧ -1000 ≤ x.lo ∧ x.lo ≤ 1000 ∧ -1000 ≤ x.hi ∧ x.hi ≤ 1000)) : b = !rightB x := by
  unfold rightB; rw [Bool.eq_iff_iff, h]; simp only [Bool.not_eq_true', decide_eq_false_iff_not]

/-- The error of a test. -/
def testE (x : HT) : Int := firstE [unl (rightB x) 2, unl (decide (x.lo ≤ x.hi)) 9, unl (decide (wrap64 (x.hi - x.lo) < 9)) 8]
theorem testE_bad {x : HT} (h : rightB x = false) : testE x = 2 := by simp [testE, firstE, unl, h]
theorem testE_ord {x : HT} (h : rightB x = true) (h2 : x.hi < x.lo) : testE x = 9 := by
  have : decide (x.lo ≤ x.hi) = false := by simp; omega
  simp [testE, firstE, unl, h, this]
theorem testE_large {x : HT} (h : rightB x = true) (h2 : x.lo ≤ x.hi) (h3 : 9 ≤ wrap64 (x.hi - x.lo)) : testE x = 8 := by
  have h4 : decide (x.lo ≤ x.hi) = true := by simpa using h2
  have h5 : decide (wrap64 (x.hi - x.lo) < 9) = false := by simp; omega
  simp only [testE, firstE, unl, h, h4, h5]; rfl
theorem testE_ok {x : HT} (h : rightB x = true) (h2 : x.lo ≤ x.hi) (h3 : wrap64 (x.hi - x.lo) < 9) : testE x = 0 := by
  have h4 : decide (x.lo ≤ x.hi) = true := by simpa using h2
  have h5 : decide (wrap64 (x.hi - x.lo) < 9) = true := by simpa using h3
  simp only [testE, firstE, unl, h, h4, h5]; rfl
/-- What a valid test is. -/
structure HT.ok (x : HT) : Prop where
  m1 : 1 ≤ x.m
  m2 : x.m ≤ 1000
  d1 : 0 ≤ x.d
  d2 : x.d ≤ 1000
  c1 : 0 ≤ x.c
  c2 : x.c ≤ 1000
  s1 : 0 ≤ x.s
  s2 : x.s ≤ 1000
  dl1 : 0 ≤ x.dl
  dl2 : x.dl ≤ 2
  b1 : 0 ≤ x.b
  b2 : x.b ≤ 3
  lo1 : -1000 ≤ x.lo
  lo2 : x.lo ≤ 1000
  hi1 : -1000 ≤ x.hi
  hi2 : x.hi ≤ 1000
  ord : x.lo ≤ x.hi
  few : x.hi - x.lo < 9
theorem testE_zero {x : HT} (h : testE x = 0) : x.ok := by
  cases hr : rightB x with
  | false => rw [testE_bad hr] at h; omega
  | true =>
    by_cases h2 : x.lo ≤ x.hi
    · by_cases h3 : wrap64 (x.hi - x.lo) < 9
      · unfold rightB at hr
        rw [decide_eq_true_iff] at hr
        have h4 : wrap64 (x.hi - x.lo) = x.hi - x.lo := IntWalk.wrap64_in _ ⟨by omega, by omega⟩
        rw [h4] at h3
        obtain ⟨a1, a2, a3, a4, a5, a6, a7, a8, a9, a10, a11, a12, a13, a14, a15, a16⟩ := hr
        exact ⟨a1, a2, a3, a4, a5, a6, a7, a8, a9, a10, a11, a12, a13, a14, a15, a16, h2, h3⟩
      · rw [testE_large hr h2 (by omega)] at h; omega
    · rw [testE_ord hr (by omega)] at h; omega

set_option maxHeartbeats 1600000 in
set_option maxRecDepth 100000 in
theorem CheckTest_any (x : HT) (w : World) :
    Calls Try.prog 35 #[.agg x.cells] w fun e w' => e = .returned (.int .i64 (testE x)) ∧ Below w.heap.size w w' := by
  go_enter Try.func35, Try.ntmps35
  go_upto_region 2 with (fail)
  go_cut [4] (fun s4 w' => s4 = .bool (rightB x) ∧ w' = w.alloc (.cells x.cells 25))
  case first =>
    go_wp2_with (first | (go_at_call 77; refine (within_any _ _ _ _).mono ?_; rintro e w' ⟨rfl, rfl⟩) | (go_at_call 87; refine (isPart_any _ _).mono ?_; rintro e w' ⟨rfl, rfl⟩) | (go_at_call 88; refine (sized_any _ _ _ (by omega) (by omega)).mono ?_; rintro e w' ⟨rfl, rfl⟩))
    all_goals (go_meet; case rel => exact ⟨congrArg Value.bool (rightB_of (by simp; try omega)), rfl⟩)
  case rest =>
    obtain ⟨rfl, rfl⟩ := hcut
    go_wp2_with (fail)
    refine wp_region_quiet_tail 19 (fun w' => Below (w.heap.size + 1) (w.alloc (.cells x.cells 25)) w') (by kernel_rfl) (by kernel_rfl) (Below.refl _ _).drew ?_
    simp only [List.take_succ_cons, List.take_zero, List.drop_succ_cons, List.drop_zero]
    repeat (first | (refine wpQuiet_no (by rfl) ?_; (simp only [Act.put, List.setIfInBounds_toArray, List.set_cons_zero, List.set_cons_succ])) | (refine wpQuiet_yes (by rfl) ?_; apply Exists.intro; refine ⟨fun w1 hb1 => ?_, ?_⟩; (focus ((have hcf := bcell hb1; obtain ⟨hc1, hf1⟩ := hcf; have hb1 := Lib.hid hb1; go_simp); (try (go_bits; try go_simp)); (first | done | (((go_at_call 76); refine (unless_any _ _ _).mono ?_; rintro e w' ⟨rfl, rfl⟩; exact ⟨rfl, hb1.out⟩)) | (with_reducible rfl) | exact rfl))); (simp only [Act.put, List.setIfInBounds_toArray, List.set_cons_zero, List.set_cons_succ])))
    refine wpQuiet_nil ?_
    intro w1 hb1
    have hb1 := Lib.hid hb1
    go_wp2_with (go_at_call 73; refine (first3_new _ _ _ _ _ (by simp)).mono ?_; rintro e w' ⟨rfl, rfl⟩)
    go_ret
    exact ⟨rfl, (((Below.refl _ _).alloc (Nat.le_refl _) _).trans (hb1.out.mono (by omega))).alloc (by have := hb1.out.size; simp at this; omega) _⟩

set_option maxHeartbeats 1600000 in
set_option maxRecDepth 100000 in
theorem TestErr_any (x : HT) (w : World) :
    Calls Try.prog 14 #[.agg x.cells] w fun e w' => e = .returned (.int .i64 (testE x)) ∧ Below w.heap.size w w' := by
  go_enter Try.func14, Try.ntmps14
  go_upto_region 2 with (fail)
  go_cut [62] (fun s62 w' => s62 = .bool (!rightB x) ∧ w' = w.alloc (.cells x.cells 25))
  case first =>
    go_wp2_with (go_at_call 33; refine (bWithin_any _ _ _ _).mono ?_; rintro e w' ⟨rfl, rfl⟩)
    all_goals (go_meet; case rel => exact ⟨congrArg Value.bool (notRightB_of (by simp; try omega)), rfl⟩)
  case rest =>
    obtain ⟨rfl, rfl⟩ := hcut
    go_wp2_with (fail)
    all_goals (go_ret; refine ⟨?_, (Below.refl _ _).alloc (Nat.le_refl _) _⟩)
    · exact ret_int (testE_bad (by simp_all)).symm
    · exact ret_int (testE_ord (by simp_all) (by assumption)).symm
    · exact ret_int (testE_large (by simp_all) (by assumption) (by assumption)).symm
    · exact ret_int (testE_ok (by simp_all) (by assumption) (by assumption)).symm
end Go.Proofs.Ytjieojkfpoiabaa
