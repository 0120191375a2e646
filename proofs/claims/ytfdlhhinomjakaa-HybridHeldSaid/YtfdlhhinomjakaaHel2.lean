/-
  Texts of this claim, in their build order: A2 A3 A4.
-/
import Derived.Test.YtfdlhhinomjakaaHel1
import Derived.Deep.DeepCutAuto
import Derived.Test.YtfdlhhinomjakaaHel0

namespace Go.Proofs.Ytfdlhhinomjakaa
section
set_option maxRecDepth 100000
set_option maxHeartbeats 1600000
open Go.RowKit

/-- A test, as data. -/
structure HT where
  m : Int
  d : Int
  c : Int
  s : Int
  dl : Int
  cp : Bool
  b : Int
  lo : Int
  hi : Int

abbrev HT.cells (x : HT) : Array Value := #[.int .i64 x.m, .int .i64 x.d, .int .i64 x.c, .int .i64 x.s, .int .i64 x.dl, .bool x.cp, .int .i64 x.b, .int .i64 x.lo, .int .i64 x.hi]

def rightB (x : HT) : Bool :=
  decide (1 ≤ x.m ∧ x.m ≤ 1000 ∧ 0 ≤ x.d ∧ x.d ≤ 1000 ∧ 0 ≤ x.c ∧ x.c ≤ 1000 ∧ 0 ≤ x.s ∧ x.s ≤ 1000 ∧ 0 ≤ x.dl ∧ x.dl ≤ 2 ∧ 0 ≤ x.b ∧ x.b ≤ 3 ∧ -1000 ≤ x.lo ∧ x.lo ≤ 1000 ∧ -1000 ≤ x.hi ∧ x.hi ≤ 1000)

theorem rightB_of {x : HT} {b : Bool} (h : (b = true) ↔ (1 ≤ x.m ∧ x.m ≤ 1000 ∧ 0 ≤ x.d ∧ x.d ≤ 1000 ∧ 0 ≤ x.c ∧ x.c ≤ 1000 ∧ 0 ≤ x.s ∧ x.s ≤ 1000 ∧ 0 ≤ x.dl ∧ x.dl ≤ 2 ∧ 0 ≤ x.b ∧ x.b ≤ 3 ∧ -1000 ≤ x.lo ∧ x.lo ≤ 1000 ∧ -1000 ≤ x.hi ∧ x.hi ≤ 1000)) : b = rightB x := by
  unfold rightB; rw [Bool.eq_iff_iff, decide_eq_true_iff]; exact h

theorem notRightB_of {x : HT} {b : Bool} (h : (b = true) ↔ ¬ (1 ≤ x.m ∧ x.m ≤ 1000 ∧ 0 ≤ x.d ∧ x.d ≤ 1000 ∧ 0 ≤ x.c ∧ x.c ≤ 1000 ∧ 0 ≤ x.s ∧ x.s ≤ 1000 ∧ 0 ≤ x.dl ∧ x.dl ≤ 2 ∧ 0 ≤ x.b ∧ x.b ≤ 3 ∧ -1000 ≤ x.lo ∧ x.lo ≤ 1000 ∧ -1000 ≤ x.hi ∧ x.hi ≤ 1000)) : b = !rightB x := by
  unfold rightB; rw [Bool.eq_iff_iff, h]; simp only [Bool.not_eq_true', decide_eq_false_iff_not]

/-- The error of a test. -/
def testE (x : HT) : Int := firstE [unl (rightB x) 2, unl (decide (x.lo ≤ x.hi)) 9, unl (decide (wrap64 (x.hi - x.lo) < 9)) 8]
theorem testE_bad {x : HT} (h : rightB x = false) : testE x = 2 := by simp [testE, firstE, unl, h]
theorem testE_ord {x : HT} (h : rightB x = true) (h2 : x.hi < x.lo) : testE x = 9 := by
  have : decide (x.lo ≤ x.hi) = false := by simp; omega
  simp [testE, firstE, unl, h, this]
theorem testE_large {x : HT} (h : rightB x = true) (h2 : x.lo ≤ x.hi) (h3 : 9 ≤ wrap64 (x.hi - x.lo)) : testE x = 8 := by
  have h4 : decide (x.lo ≤ x.hi) = true := by simpa using h2
  have h5 : decide (wrap64 (x.hi - x.lo) < 9) = false := by simp; omega
  simp only [testE, firstE, unl, h, h4, h5]; rfl
theorem testE_ok {x : HT} (h : rightB x = true) (h2 : x.lo ≤ x.hi) (h3 : wrap64 (x.hi - x.lo) < 9) : testE x = 0 := by
  have h4 : decide (x.lo ≤ x.hi) = true := by simpa using h2
  have h5 : decide (wrap64 (x.hi - x.lo) < 9) = true := by simpa using h3
  simp only [testE, firstE, unl, h, h4, h5]; rfl
/-- What a valid test is. -/
structure HT.ok (x : HT) : Prop where
  m1 : 1 ≤ x.m
  m2 : x.m ≤ 1000
  d1 : 0 ≤ x.d
  d2 : x.d ≤ 1000
  c1 : 0 ≤ x.c
  c2 : x.c ≤ 1000
  s1 : 0 ≤ x.s
  s2 : x.s ≤ 1000
  dl1 : 0 ≤ x.dl
  dl2 : x.dl ≤ 2
  b1 : 0 ≤ x.b
  b2 : x.b ≤ 3
  lo1 : -1000 ≤ x.lo
  lo2 : x.lo ≤ 1000
  hi1 : -1000 ≤ x.hi
  hi2 : x.hi ≤ 1000
  ord : x.lo ≤ x.hi
  few : x.hi - x.lo < 9
theorem testE_zero {x : HT} (h : testE x = 0) : x.ok := by
  cases hr : rightB x with
  | false => rw [testE_bad hr] at h; omega
  | true =>
    by_cases h2 : x.lo ≤ x.hi
    · by_cases h3 : wrap64 (x.hi - x.lo) < 9
      · unfold rightB at hr
        rw [decide_eq_true_iff] at hr
        have h4 : wrap64 (x.hi - x.lo) = x.hi - x.lo := IntWalk.wrap64_in _ ⟨by omega, by omega⟩
        rw [h4] at h3
        obtain ⟨a1, a2, a3, a4, a5, a6, a7, a8, a9, a10, a11, a12, a13, a14, a15, a16⟩ := hr
        exact ⟨a1, a2, a3, a4, a5, a6, a7, a8, a9, a10, a11, a12, a13, a14, a15, a16, h2, h3⟩
      · rw [testE_large hr h2 (by omega)] at h; omega
    · rw [testE_ord hr (by omega)] at h; omega

theorem CheckTest_any (x : HT) (w : World) :
    Calls Try.prog 28 #[.agg x.cells] w fun e w' => e = .returned (.int .i64 (testE x)) ∧ Below w.heap.size w w' := by
  go_enter Try.func28, Try.ntmps28
  go_upto_region 2 with (fail)
  go_cut [4] (fun s4 w' => s4 = .bool (rightB x) ∧ w' = w.alloc (.cells x.cells 25))
  case first =>
    go_wp2_with (first | (go_at_call 44; refine (within_any _ _ _ _).mono ?_; rintro e w' ⟨rfl, rfl⟩) | (go_at_call 52; refine (isPart_any _ _).mono ?_; rintro e w' ⟨rfl, rfl⟩) | (go_at_call 53; refine (sized_any _ _ _ (by omega) (by omega)).mono ?_; rintro e w' ⟨rfl, rfl⟩))
    all_goals (go_meet; case rel => exact ⟨congrArg Value.bool (rightB_of (by simp; try omega)), rfl⟩)
  case rest =>
    obtain ⟨rfl, rfl⟩ := hcut
    go_wp2_with (fail)
    refine wp_region_quiet_tail 19 (fun w' => Below (w.heap.size + 1) (w.alloc (.cells x.cells 25)) w') (by kernel_rfl) (by kernel_rfl) (Below.refl _ _).drew ?_
    simp only [List.take_succ_cons, List.take_zero, List.drop_succ_cons, List.drop_zero]
    repeat (first | (refine wpQuiet_no (by rfl) ?_; (simp only [Act.put, zzT, zzO, zzS])) | (refine wpQuiet_yes (by rfl) ?_; apply Exists.intro; refine ⟨fun w1 hb1 => ?_, ?_⟩; (focus ((have hcf := bcell hb1; obtain ⟨hc1, hf1⟩ := hcf; have hb1 := zH hb1; go_simp); (try (go_bits; try go_simp)); (first | done | (((go_at_call 33); refine (unless_any _ _ _).mono ?_; rintro e w' ⟨rfl, rfl⟩; exact ⟨rfl, hb1.out⟩)) | (with_reducible rfl) | exact rfl))); (simp only [Act.put, zzT, zzO, zzS])))
    refine wpQuiet_nil ?_
    intro w1 hb1
    have hb1 := zH hb1
    go_wp2_with (go_at_call 36; refine (first3_new _ _ _ _ _ (by simp)).mono ?_; rintro e w' ⟨rfl, rfl⟩)
    go_ret
    exact ⟨rfl, (((Below.refl _ _).alloc (Nat.le_refl _) _).trans (hb1.out.mono (by omega))).alloc (by have := hb1.out.size; simp at this; omega) _⟩

theorem TestErr_any (x : HT) (w : World) :
    Calls Try.prog 5 #[.agg x.cells] w fun e w' => e = .returned (.int .i64 (testE x)) ∧ Below w.heap.size w w' := by
  go_enter Try.func5, Try.ntmps5
  go_upto_region 2 with (fail)
  go_cut [62] (fun s62 w' => s62 = .bool (!rightB x) ∧ w' = w.alloc (.cells x.cells 25))
  case first =>
    go_wp2_with (go_at_call 20; refine (bWithin_any _ _ _ _).mono ?_; rintro e w' ⟨rfl, rfl⟩)
    all_goals (go_meet; case rel => exact ⟨congrArg Value.bool (notRightB_of (by simp; try omega)), rfl⟩)
  case rest =>
    obtain ⟨rfl, rfl⟩ := hcut
    go_wp2_with (fail)
    all_goals (go_ret; refine ⟨?_, (Below.refl _ _).alloc (Nat.le_refl _) _⟩)
    · exact ret_int (testE_bad (by simp_all)).symm
    · exact ret_int (testE_ord (by simp_all) (by assumption)).symm
    · exact ret_int (testE_large (by simp_all) (by assumption) (by assumption)).symm
    · exact ret_int (testE_ok (by simp_all) (by assumption) (by assumption)).symm
end
section
set_option maxHeartbeats 400000
open Go.RowKit

theorem each_int (zs : List Int) (a : Option Addr) (cap fid : Nat) (q : Addr) (w : World) (err : Nat → Int) (I : Nat → World → Prop) (hlen : zs.length ≤ maxLen)
    (hcf : ∀ args w, Sem.run Try.prog (callFunc fid args) w = .ok (.enter fid args) w)
    (h0 : I 0 w) (hrd : ∀ k w', k < zs.length → I k w' → Reads w' a zs.length (ints zs))
    (hst : ∀ k w', k < zs.length → I k w' → Calls Try.prog fid #[.int .i64 k, .int .i64 (gi zs k), .pointer (some q)] w' fun e w'' => e = .returned (.int .i64 (err k)) ∧ I (k + 1) w'') :
    Calls Try.prog 59 #[.slice a zs.length cap, .func (.func fid) #[] #[.pointer (some q)]] w
      fun e w' => e = .returned (.tuple #[.int .i64 (eachR err 0 zs.length).1, .int .i64 (eachR err 0 zs.length).2]) ∧ ∃ k, k ≤ zs.length ∧ I k w' := by
  unfold maxLen at hlen
  have HRD := zH hrd
  have HST := zH hst
  have H0 := zH h0
  clear hrd hst h0
  go_enter Try.func59, Try.ntmps59
  go_wp2_with fail
  go_loopw [6, 7, 8, 11] (fun _ _ _ i wr => ∃ k : Nat, k ≤ zs.length ∧ i = .int .i64 k ∧ Hid (eachR err 0 zs.length = eachR err k (zs.length - k)) ∧ Hid (I k wr)) (fun _ _ _ i _ => zs.length - (intOf i).toNat)
  case atStart => exact ⟨0, Nat.zero_le _, rfl, zH rfl, H0⟩
  case round =>
    obtain ⟨k, hk, rfl, hr, hI⟩ := hrel
    by_cases hlt : k < zs.length
    · obtain ⟨b, off, rfl, hb, hc⟩ := (HRD.out k _ hlt hI.out).at hlt
      have h1 : wr.cell? ⟨b, off + k, none⟩ = some (.int .i64 (gi zs k)) := hc k hlt
      clear hc
      by_cases hz : err k = 0
      · have hz' : (err k != 0) = false := by simpa using hz
        have HZ := zH hz
        clear hz
        go_wp2_with fail
        refine (HST.out k _ hlt hI.out).mono ?_
        rintro e w' ⟨rfl, hI'⟩
        have hI' := zH hI'
        go_wp2_with fail
        go_roundw
        case rel => exact ⟨k + 1, by omega, by go_num, hr.out.trans (eachR_step hlt HZ.out), hI'⟩
        case measure => simp [intOf]; omega
      · have hz' : (err k != 0) = true := by simpa using hz
        have HZ := zH hz
        clear hz
        go_wp2_with fail
        refine (HST.out k _ hlt hI.out).mono ?_
        rintro e w' ⟨rfl, hI'⟩
        have hI' := zH hI'
        go_wp2_with fail
        go_ret2
        exact ⟨by rw [hr.out, eachR_stop hlt HZ.out]; rfl, k + 1, by omega, hI'⟩
    · have : k = zs.length := by omega
      subst this
      go_wp2
      go_ret2
      exact ⟨by rw [hr.out, Nat.sub_self]; rfl, zs.length, Nat.le_refl _, hI⟩

theorem forcesErr1_any (x : HT) (n k : Int) (p : Nat) (w : World)
    (hlo : w.cell? ⟨p, 7, none⟩ = some (.int .i64 x.lo)) (hhi : w.cell? ⟨p, 8, none⟩ = some (.int .i64 x.hi)) :
    Calls Try.prog 63 #[.int .i64 k, .int .i64 n, .pointer (some ⟨p, 0, none⟩)] w fun e w' => e = .returned (.int .i64 (unl (decide (x.lo ≤ n) && decide (n ≤ x.hi)) 2)) ∧ w = w' := by
  go_enter Try.func63, Try.ntmps63
  go_wp2_with (first | (go_at_call 44; refine (within_any _ _ _ _).mono ?_; rintro e w' ⟨rfl, rfl⟩) | (go_at_call 33; refine (unless_any _ _ _).mono ?_; rintro e w' ⟨rfl, rfl⟩))
  go_ret
  exact ⟨rfl, rfl⟩

/-- The error of a force, and of forces. -/
def forceE (x : HT) (zs : List Int) (k : Nat) : Int := unl (decide (x.lo ≤ gi zs k) && decide (gi zs k ≤ x.hi)) 2
def forcesE (x : HT) (zs : List Int) : Int := firstE [unl (decide ((zs.length : Int) ≤ 60)) 8, (eachR (forceE x zs) 0 zs.length).2]

theorem forcesErr_any (x : HT) (zs : List Int) (a : Option Addr) (cap : Nat) (w : World) (hlen : zs.length ≤ maxLen) (hr : Reads w a zs.length (ints zs)) :
    Calls Try.prog 45 #[.agg x.cells, .slice a zs.length cap] w fun e w' => e = .returned (.int .i64 (forcesE x zs)) ∧ Below w.heap.size w w' := by
  have HL := zH hlen
  unfold maxLen at hlen
  have hR := zH hr
  clear hr
  go_enter Try.func45, Try.ntmps45
  go_wp2_with fail
  refine (each_int zs a cap 63 _ _ (forceE x zs) (fun _ w' => w' = w.alloc (.cells x.cells 25)) HL.out (by intro args w; go_simp) rfl (fun k w' hk hw => by subst hw; exact hR.out.alloc _) (fun k w' hk hw => by
    subst hw
    refine (forcesErr1_any x _ _ _ _ (by simp [World.cell?_alloc_new]) (by simp [World.cell?_alloc_new])).mono ?_
    rintro e w' ⟨rfl, rfl⟩
    exact ⟨rfl, rfl⟩)).mono ?_
  rintro e w' ⟨rfl, k, hk, rfl⟩
  go_wp2_with (first | (go_at_call 33; refine (unless_any _ _ _).mono ?_; rintro e w' ⟨rfl, rfl⟩))
  refine (first2_new _ _ _ _ (by simp)).mono ?_; rintro e w' ⟨rfl, rfl⟩
  go_wp2_with fail
  go_ret
  exact ⟨rfl, ((Below.refl _ _).alloc (Nat.le_refl _) _).alloc (by simp) _⟩
end
section
open Go.RowKit

/-- Is a force out? -/
def outB (x : HT) (zs : List Int) (k : Nat) : Bool := !decide (x.lo ≤ gi zs k) || !decide (gi zs k ≤ x.hi)
theorem forceE_out {x : HT} {zs : List Int} {k : Nat} (h : outB x zs k = true) : forceE x zs k = 2 := by
  unfold outB at h; unfold forceE
  rw [← Bool.not_and] at h
  cases hb : (decide (x.lo ≤ gi zs k) && decide (gi zs k ≤ x.hi))
  · rfl
  · rw [hb] at h; cases h
theorem forceE_in {x : HT} {zs : List Int} {k : Nat} (h : outB x zs k = false) : forceE x zs k = 0 := by
  unfold outB at h; unfold forceE
  rw [← Bool.not_and] at h
  cases hb : (decide (x.lo ≤ gi zs k) && decide (gi zs k ≤ x.hi))
  · rw [hb] at h; cases h
  · rfl
theorem forcesE_many {x : HT} {zs : List Int} (h : 60 < (zs.length : Int)) : forcesE x zs = 8 := by
  have : decide ((zs.length : Int) ≤ 60) = false := by simp; omega
  simp only [forcesE, firstE, unl, this]; rfl
theorem forcesE_few {x : HT} {zs : List Int} (h : (zs.length : Int) ≤ 60) : forcesE x zs = (eachR (forceE x zs) 0 zs.length).2 := by
  have : decide ((zs.length : Int) ≤ 60) = true := by simpa using h
  simp only [forcesE, firstE, unl, this, if_true]
  by_cases h0 : (eachR (forceE x zs) 0 zs.length).2 = 0 <;> simp [h0]

set_option maxHeartbeats 400000 in
set_option maxRecDepth 100000 in
theorem ForcesErr_any (x : HT) (zs : List Int) (a : Option Addr) (cap : Nat) (w : World) (hlen : zs.length ≤ maxLen) (hr : Reads w a zs.length (ints zs)) :
    Calls Try.prog 6 #[.agg x.cells, .slice a zs.length cap] w fun e w' => e = .returned (.int .i64 (forcesE x zs)) ∧ Below w.heap.size w w' := by
  unfold maxLen at hlen
  have hR := zH hr
  clear hr
  by_cases hm : 60 < (zs.length : Int)
  · go_enter Try.func6, Try.ntmps6
    go_wp2
    go_ret
    exact ⟨ret_int (forcesE_many hm).symm, (Below.refl _ _).alloc (Nat.le_refl _) _⟩
  · have hm' : (zs.length : Int) ≤ 60 := by omega
    clear hm
    go_enter Try.func6, Try.ntmps6
    go_wp2_with fail
    go_loopw [5] (fun i wr => ∃ k : Nat, k ≤ zs.length ∧ i = .int .i64 k ∧ Hid (eachR (forceE x zs) 0 zs.length = eachR (forceE x zs) k (zs.length - k)) ∧ Hid (Below (w.heap.size + 1) (w.alloc (.cells x.cells 25)) wr)) (fun i _ => zs.length - (intOf i).toNat)
    case atStart => exact ⟨0, Nat.zero_le _, rfl, zH rfl, zH (Below.refl _ _)⟩
    case round =>
      obtain ⟨k, hk, rfl, hr, hI⟩ := hrel
      by_cases hlt : k < zs.length
      · have hcx := bcell hI.out
        obtain ⟨hcx, hfx⟩ := hcx
        clear hfx
        obtain ⟨b, off, rfl, hb, hc⟩ := ((hR.out.alloc (.cells x.cells 25)).below hI.out (by simp)).at hlt
        have h1 : wr.cell? ⟨b, off + k, none⟩ = some (.int .i64 (gi zs k)) := hc k hlt
        clear hc
        have h2 : wr.cell? ⟨w.heap.size, 7, none⟩ = some (.int .i64 x.lo) := by rw [hcx _ _ (by omega)]; simp [World.cell?_alloc_new]
        have h3 : wr.cell? ⟨w.heap.size, 8, none⟩ = some (.int .i64 x.hi) := by rw [hcx _ _ (by omega)]; simp [World.cell?_alloc_new]
        have hsz : w.heap.size < wr.heap.size := by have := hI.out.size; simp at this; omega
        clear hcx
        go_wp2_with fail
        go_cut [26] (fun s26 w' => s26 = .bool (outB x zs k) ∧ Hid (Below wr.heap.size wr w'))
        case first =>
          refine wp_region_quiet_all (fun w' => Below (wr.heap.size) (wr) w') (by kernel_rfl) (by kernel_rfl) (Below.refl _ _).drew ?_
          repeat (first | (refine wpQuiet_no (by rfl) ?_; (simp only [Act.put, zzT, zzO, zzS])) | (refine wpQuiet_yes (by rfl) ?_; apply Exists.intro; refine ⟨fun w1 hb1 => ?_, ?_⟩; (focus ((have hcf := bcell hb1; obtain ⟨hc1, hf1⟩ := hcf; have hb1 := zH hb1; go_simp); (try (go_bits; try go_simp)); (first | done | (((go_at_call 20); refine (bWithin_any _ _ _ _).mono ?_; rintro e w' ⟨rfl, rfl⟩; exact ⟨rfl, hb1.out⟩)) | (with_reducible rfl) | exact rfl))); (simp only [Act.put, zzT, zzO, zzS])))
          refine wpQuiet_nil ?_
          intro w1 hb1
          have hcf := bcell hb1
          obtain ⟨hc1, hf1⟩ := hcf
          have hb1 := zH hb1
          go_wp2_with fail
          go_meet
          case rel => exact ⟨rfl, hb1⟩
        case rest =>
          obtain ⟨rfl, hb2⟩ := hcut
          cases ho : outB x zs k
          all_goals have HO := zH ho; clear ho
          · go_wp2_with fail
            go_roundw
            case rel => exact ⟨k + 1, by omega, by go_num, hr.out.trans (eachR_step hlt (forceE_in HO.out)), zH (hI.out.trans (hb2.out.mono (by omega)))⟩
            case measure => simp [intOf]; omega
          · go_wp2_with fail
            go_ret
            exact ⟨ret_int (by rw [forcesE_few hm', hr.out, eachR_stop hlt (by rw [forceE_out HO.out]; decide), forceE_out HO.out]), (((Below.refl _ _).alloc (Nat.le_refl _) _).trans (hI.out.mono (by omega))).trans (hb2.out.mono (by omega))⟩
      · have : k = zs.length := by omega
        subst this
        go_wp2
        go_ret
        exact ⟨ret_int (by rw [forcesE_few hm', hr.out, Nat.sub_self]; rfl), (((Below.refl _ _).alloc (Nat.le_refl _) _).trans (hI.out.mono (by omega)))⟩
end
end Go.Proofs.Ytfdlhhinomjakaa
