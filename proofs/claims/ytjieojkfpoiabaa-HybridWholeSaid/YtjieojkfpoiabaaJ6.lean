/-
  The statement HybridTests: the walk.
-/
import Derived.Test.YtjieojkfpoiabaaJ5
import Derived.Test.YtjieojkfpoiabaaE6
namespace Go.Proofs.Ytjieojkfpoiabaa
open Go.RowKit

/-- The whole that WholeOf answers. -/
def whZ (x : HT) : HT := if wholeE x = 0 then x.whole else ht0
theorem wholeE_zero {x : HT} (h : wholeE x = 0) : testE x = 0 ∧ x.c + x.s ≤ 1000 := by
  unfold wholeE at h
  by_cases hE : testE x = 0
  · rw [if_pos hE] at h
    by_cases hl : 1000 < x.c + x.s
    · rw [if_pos hl] at h; cases h
    · exact ⟨hE, by omega⟩
  · rw [if_neg hE] at h; exact absurd h hE
theorem WholeOf_any (x : HT) (w : World) :
    Calls Try.prog 20 #[.agg x.cells] w fun e w' => e = .returned (.tuple #[.agg (whZ x).cells, .int .i64 (wholeE x)]) ∧ Below w.heap.size w w' := by
  unfold whZ
  by_cases hE : testE x = 0
  · by_cases hl : 1000 < x.c + x.s
    · rw [wholeE_large hE hl]; exact WholeOf_large x w hE hl
    · rw [wholeE_ok hE (by omega)]; exact WholeOf_ok x w hE (by omega)
  · rw [wholeE_bad hE, if_neg hE]; exact WholeOf_bad x w hE

/-- What the last test of HybridTests wants, where test and state are valid. -/
structure TLast (x : HT) (zs : List Int) (a : Option Addr) (cap : Nat) (f : Int) (cv av ne : Int) (NZ : List Int) : Prop where
  cmd : ∀ W, Reads W a zs.length (ints zs) → Calls Try.prog 44 #[.agg x.cells, .slice a zs.length cap, .int .i64 0] W fun e w' => e = .returned (.int .i64 cv) ∧ Below W.heap.size W w'
  act : ∀ W, Reads W a zs.length (ints zs) → Calls Try.prog 45 #[.agg x.cells, .slice a zs.length cap] W fun e w' => e = .returned (.int .i64 av) ∧ Below W.heap.size W w'
  nxt : ∀ W, Reads W a zs.length (ints zs) → Calls Try.prog 43 #[.agg x.cells, .slice a zs.length cap, .int .i64 f] W fun e w' => ∃ a' cap', e = .returned (.tuple #[.slice a' NZ.length cap', .int .i64 ne]) ∧ NZ.length ≤ cap' ∧ Reads w' a' NZ.length (ints NZ) ∧ Below W.heap.size W w'

set_option maxHeartbeats 8000000 in
set_option maxRecDepth 100000 in
theorem HybridTests_few (x : HT) (zs : List Int) (a : Option Addr) (cap : Nat) (f : Int) (w : World) (hfew : zs.length ≤ 6) (hcap : zs.length ≤ cap) (hr : Reads w a zs.length (ints zs)) :
    Calls Try.prog 7 #[.agg x.cells, .slice a zs.length cap, .int .i64 f] w fun e w' => e = .returned (.bool true) ∧ Below w.heap.size w w' := by
  have HR0 := Lib.hid hr
  clear hr
  have HCP := Lib.hid (fun (W : World) h => CopyInts_any zs a cap W (by omega) h)
  have HCT := Lib.hid (fun (W : World) => CheckTest_any x W)
  have HTE := Lib.hid (fun (W : World) => TestErr_any x W)
  have HCS := Lib.hid (fun (a : Option Addr) (cap : Nat) (W : World) h => CheckState_any x zs a cap W (by unfold maxLen; omega) h)
  have HCO := Lib.hid (fun (a : Option Addr) (cap : Nat) (W : World) h => CommandOf_any x zs a cap W (by unfold maxLen; omega) h)
  have HAC := Lib.hid (fun (a : Option Addr) (cap : Nat) (W : World) h => ActuatorsAt_any x zs a cap W (by unfold maxLen; omega) h)
  have HNO := Lib.hid (fun (a : Option Addr) (cap : Nat) (W : World) h => NextOf_any x zs a cap f W (by unfold maxLen; omega) h)
  unfold NofPost at HNO
  have HWO := Lib.hid (fun (W : World) => WholeOf_any x W)
  have HWE := Lib.hid (fun (W : World) => WholeErr_any x W)
  have HST : Hid (testE x = 0 → ∀ W, Reads W a zs.length (ints zs) → Calls Try.prog 42 #[.agg x.cells, .slice a zs.length cap] W fun e w' => e = .returned (.int .i64 (checkE x zs)) ∧ Below W.heap.size W w') := Lib.hid (fun hE W h => by
    have := StateErr_any x zs a cap W (testE_zero hE) (by omega) h
    rw [checkE, if_pos hE]; exact this)
  have HWC : Hid ((¬ wholeE x = 0 ∧ whZ x = ht0) ∨ (wholeE x = 0 ∧ whZ x = x.whole ∧ x.ok)) := Lib.hid (by
    by_cases h : wholeE x = 0
    · exact .inr ⟨h, if_pos h, testE_zero (wholeE_zero h).1⟩
    · exact .inl ⟨h, if_neg h⟩)
  have HCC : Hid ((¬ testE x = 0 ∧ checkE x zs = testE x) ∨ testE x = 0) := Lib.hid (by
    by_cases h : testE x = 0
    · exact .inr h
    · exact .inl ⟨h, if_neg h⟩)
  have HEND : Hid ((¬ checkE x zs = 0 ∧ (if checkE x zs = 0 then cmdV x zs 0 else 0) = 0 ∧ (if checkE x zs = 0 then cmdV x zs x.dl.toNat else 0) = 0 ∧ nofZ x zs f = [] ∧ nofAll x zs f = checkE x zs) ∨
      (checkE x zs = 0 ∧ (nofZ x zs f).length ≤ 10 ∧ TLast x zs a cap f (if checkE x zs = 0 then cmdV x zs 0 else 0) (if checkE x zs = 0 then cmdV x zs x.dl.toNat else 0) (nofAll x zs f) (nofZ x zs f))) := Lib.hid (by
    by_cases h : checkE x zs = 0
    · obtain ⟨hx, hs⟩ := checkE_zero h
      have hlz := hs.len
      have d1 := hx.dl1
      have e1 : nofAll x zs f = nextE x zs f := if_pos h
      have e2 : nofZ x zs f = nextZ x zs f := if_pos h
      refine .inr ⟨h, ?_, ?_⟩
      · rw [e2]
        unfold nextZ
        split
        · unfold nextR; simp; omega
        · simp
      · rw [if_pos h, if_pos h, e1, e2]
        exact ⟨fun W hr => rCommand_any x zs a cap 0 0 W rfl hx hs (by omega) hr, fun W hr => rActuators_any x zs a cap W hx hs hr, fun W hr => NextErr_any x zs a cap f W hx hs hr hcap⟩
    · exact .inl ⟨h, if_neg h, if_neg h, if_neg h, if_neg h⟩)
  obtain ⟨te, hte⟩ : ∃ te, testE x = te := ⟨_, rfl⟩
  obtain ⟨ce, hce⟩ : ∃ ce, checkE x zs = ce := ⟨_, rfl⟩
  obtain ⟨cv, hcv⟩ : ∃ cv, (if checkE x zs = 0 then cmdV x zs 0 else 0) = cv := ⟨_, rfl⟩
  obtain ⟨av, hav⟩ : ∃ av, (if checkE x zs = 0 then cmdV x zs x.dl.toNat else 0) = av := ⟨_, rfl⟩
  obtain ⟨NZ, hNZ⟩ : ∃ NZ, nofZ x zs f = NZ := ⟨_, rfl⟩
  obtain ⟨ne, hne⟩ : ∃ ne, nofAll x zs f = ne := ⟨_, rfl⟩
  obtain ⟨wk, hwk⟩ : ∃ wk, wholeE x = wk := ⟨_, rfl⟩
  obtain ⟨WA, hWA⟩ : ∃ WA, whZ x = WA := ⟨_, rfl⟩
  rw [hcv] at HCO HEND
  rw [hav] at HAC HEND
  rw [hNZ, hne] at HNO HEND
  rw [hce] at HCO HAC HCS HST HCC HEND
  rw [hte] at HCT HTE HST HCC
  rw [hwk] at HWO HWE HWC
  rw [hWA] at HWO HWC
  clear hte hce hcv hav hNZ hne hwk hWA
  go_enter Try.func7, Try.ntmps7
  go_wp2_with fail
  refine (awake_any _).mono ?_
  rintro e w1 ⟨rfl, hb⟩
  have K0 := Lib.hid ((Blk.new w x.cells 25).to hb)
  have HB := Lib.hid (bThen (bAlloc (bSelf w) (.cells x.cells 25)) hb)
  have HR := Lib.hid ((HR0.out.alloc (.cells x.cells 25)).to hb)
  clear hb
  have hK0 := K0.out.1
  go_wp2_with fail
  go_cut [7, 8] (fun s7 s8 wc => s7 = .int .i64 te ∧ s8 = .int .i64 ce ∧ Hid (Below w1.heap.size w1 wc))
  case first =>
    refine wp_region_tree (by kernel_rfl) (fun wd hwd => ?_)
    have T := Lib.hid hwd
    clear hwd
    refine WT_yes 0 rfl (by kernel_rfl) (fun _ _ _ _ _ h => h) (by rfl) ?_; apply Exists.intro; refine ⟨fun w1 hb1 => ?_, ?_⟩; (focus (((obtain ⟨-, k0, -⟩ := (K0.out.to T.out).below hb1 hK0); have hb1 := Lib.hid hb1; go_simp); (try (go_bits; try go_simp)); (try (rw [if_pos (by omega)]; try go_simp)); (first | done | (fail) | (with_reducible rfl) | exact rfl)))
    simp only [Act.put, List.setIfInBounds_toArray, List.set_cons_zero, List.set_cons_succ]
    refine WT_yes 2 rfl (by kernel_rfl) (fun _ _ _ _ _ h => h) (by rfl) ?_; apply Exists.intro; refine ⟨fun w1 hb1 => ?_, ?_⟩; (focus (((obtain ⟨-, k0, -⟩ := (K0.out.to T.out).below hb1 hK0); have hb1 := Lib.hid hb1; go_simp); (try (go_bits; try go_simp)); (try (rw [if_pos (by omega)]; try go_simp)); (first | done | (fail) | (with_reducible rfl) | exact rfl)))
    simp only [Act.put, List.setIfInBounds_toArray, List.set_cons_zero, List.set_cons_succ]
    refine WT_yes 3 rfl (by kernel_rfl) (fun _ _ _ _ _ h => h) (by rfl) ?_; apply Exists.intro; refine ⟨fun w1 hb1 => ?_, ?_⟩; (focus ((skip; have hb1 := Lib.hid hb1; go_simp); (try (go_bits; try go_simp)); (try (rw [if_pos (by omega)]; try go_simp)); (first | done | (fail) | (with_reducible rfl) | exact rfl)))
    simp only [Act.put, List.setIfInBounds_toArray, List.set_cons_zero, List.set_cons_succ]
    refine WT_one 1 rfl (by kernel_rfl) ?_
    unfold stepT
    go_wp2_with fail
    refine (HCT.out _).mono ?_
    rintro e we ⟨rfl, hb⟩
    have hbd := Lib.hid (hb.mono T.out.size)
    replace T := Lib.hid (bThen T.out hb)
    try replace HA := Lib.hid (HA.out.to hb)
    clear hb
    go_wp2_with fail
    refine ⟨hbd.out, ?_⟩
    clear hbd
    refine WT_one 4 rfl (by kernel_rfl) ?_
    unfold stepT
    go_wp2_with fail
    refine (HCP.out _ (HR.out.to T.out)).mono ?_
    rintro e wf ⟨a3, c3, rfl, -, hr3, hb, -⟩
    have HA := Lib.hid hr3
    clear hr3
    have hbd := Lib.hid (hb.mono T.out.size)
    replace T := Lib.hid (bThen T.out hb)
    clear hb
    go_wp2_with fail
    refine ⟨hbd.out, ?_⟩
    clear hbd
    refine WT_one 5 rfl (by kernel_rfl) ?_
    unfold stepT
    go_wp2_with fail
    refine (HCS.out _ _ _ HA.out).mono ?_
    rintro e wg ⟨rfl, hb⟩
    have hbd := Lib.hid (hb.mono T.out.size)
    replace T := Lib.hid (bThen T.out hb)
    clear hb
    go_wp2_with fail
    refine ⟨hbd.out, ?_⟩
    clear hbd
    refine WT_yes 6 rfl (by kernel_rfl) (fun _ _ _ _ _ h => h) (by rfl) ?_; apply Exists.intro; refine ⟨fun w1 hb1 => ?_, ?_⟩; (focus ((skip; have hb1 := Lib.hid hb1; go_simp); (try (go_bits; try go_simp)); (try (rw [if_pos (by omega)]; try go_simp)); (first | done | (fail) | (with_reducible rfl) | exact rfl)))
    simp only [Act.put, List.setIfInBounds_toArray, List.set_cons_zero, List.set_cons_succ]
    refine WT_yes 7 rfl (by kernel_rfl) (fun _ _ _ _ _ h => h) (by rfl) ?_; apply Exists.intro; refine ⟨fun w1 hb1 => ?_, ?_⟩; (focus ((skip; have hb1 := Lib.hid hb1; go_simp); (try (go_bits; try go_simp)); (try (rw [if_pos (by omega)]; try go_simp)); (first | done | (fail) | (with_reducible rfl) | exact rfl)))
    simp only [Act.put, List.setIfInBounds_toArray, List.set_cons_zero, List.set_cons_succ]
    refine WT_done (by kernel_rfl) ?_
    go_wp2_with fail
    go_meet
    case rel => exact ⟨rfl, rfl, T⟩
  case rest =>
    obtain ⟨rfl, rfl, T⟩ := hcut
    replace K0 := Lib.hid (K0.out.to T.out)
    replace HB := Lib.hid (bThen HB.out T.out)
    replace HR := Lib.hid (HR.out.to T.out)
    clear T hK0
    go_wp2_with fail
    have hK0 := K0.out.1
    refine wp_region_mix [2, 3] (by kernel_rfl) (by kernel_rfl) (fun _ _ _ _ _ h => h) (fun w6d hwd => ?_)
    have T := Lib.hid hwd
    clear hwd
    repeat (first | (refine WM_no (by rfl) (by rfl) ?_; (simp only [Act.put, List.setIfInBounds_toArray, List.set_cons_zero, List.set_cons_succ])) | (refine WM_yes (by rfl) (by rfl) ?_; apply Exists.intro; refine ⟨fun w1 hb1 => ?_, ?_⟩; (focus (((obtain ⟨-, k0, -⟩ := (K0.out.to T.out).below hb1 hK0); have hb1 := Lib.hid hb1; go_simp); (try (go_bits; try go_simp)); (try (rw [if_pos (by omega)]; try go_simp)); (first | done | (fail) | (with_reducible rfl) | exact rfl))); (simp only [Act.put, List.setIfInBounds_toArray, List.set_cons_zero, List.set_cons_succ])))
    refine WM_x (by rfl) ?_
    go_wp2_with fail
    refine (HCP.out _ (HR.out.to T.out)).mono ?_
    rintro e w6e ⟨a3, c3, rfl, -, hr3, hb, -⟩
    have HA := Lib.hid hr3
    have hbd := Lib.hid (hb.mono T.out.size)
    replace T := Lib.hid (bThen T.out hb)
    clear hb hr3
    go_wp2_with fail
    refine ⟨hbd.out, ?_⟩
    clear hbd
    repeat (first | (refine WM_no (by rfl) (by rfl) ?_; (simp only [Act.put, List.setIfInBounds_toArray, List.set_cons_zero, List.set_cons_succ])) | (refine WM_yes (by rfl) (by rfl) ?_; apply Exists.intro; refine ⟨fun w1 hb1 => ?_, ?_⟩; (focus (((obtain ⟨-, k0, -⟩ := (K0.out.to T.out).below hb1 hK0); have hb1 := Lib.hid hb1; go_simp); (try (go_bits; try go_simp)); (try (rw [if_pos (by omega)]; try go_simp)); (first | done | (fail) | (with_reducible rfl) | exact rfl))); (simp only [Act.put, List.setIfInBounds_toArray, List.set_cons_zero, List.set_cons_succ])))
    refine WM_x (by rfl) ?_
    go_wp2_with fail
    refine (HCO.out _ _ _ HA.out).mono ?_
    rintro e w6f ⟨rfl, hb⟩
    have hbd := Lib.hid (hb.mono T.out.size)
    replace T := Lib.hid (bThen T.out hb)
    clear hb HA
    go_wp2_with fail
    refine ⟨hbd.out, ?_⟩
    clear hbd
    repeat (first | (refine WM_no (by rfl) (by rfl) ?_; (simp only [Act.put, List.setIfInBounds_toArray, List.set_cons_zero, List.set_cons_succ])) | (refine WM_yes (by rfl) (by rfl) ?_; apply Exists.intro; refine ⟨fun w1 hb1 => ?_, ?_⟩; (focus ((skip; have hb1 := Lib.hid hb1; go_simp); (try (go_bits; try go_simp)); (try (rw [if_pos (by omega)]; try go_simp)); (first | done | (fail) | (with_reducible rfl) | exact rfl))); (simp only [Act.put, List.setIfInBounds_toArray, List.set_cons_zero, List.set_cons_succ])))
    refine WM_nil ?_
    replace K0 := Lib.hid (K0.out.to T.out)
    replace HB := Lib.hid (bThen HB.out T.out)
    replace HR := Lib.hid (HR.out.to T.out)
    clear T hK0
    obtain ⟨-, k0, -⟩ := K0.out
    go_wp2_with fail
    clear k0
    have hK0 := K0.out.1
    refine wp_region_mix [2, 3] (by kernel_rfl) (by kernel_rfl) (fun _ _ _ _ _ h => h) (fun w7d hwd => ?_)
    have T := Lib.hid hwd
    clear hwd
    repeat (first | (refine WM_no (by rfl) (by rfl) ?_; (simp only [Act.put, List.setIfInBounds_toArray, List.set_cons_zero, List.set_cons_succ])) | (refine WM_yes (by rfl) (by rfl) ?_; apply Exists.intro; refine ⟨fun w1 hb1 => ?_, ?_⟩; (focus (((obtain ⟨-, k0, -⟩ := (K0.out.to T.out).below hb1 hK0); have hb1 := Lib.hid hb1; go_simp); (try (go_bits; try go_simp)); (try (rw [if_pos (by omega)]; try go_simp)); (first | done | (fail) | (with_reducible rfl) | exact rfl))); (simp only [Act.put, List.setIfInBounds_toArray, List.set_cons_zero, List.set_cons_succ])))
    refine WM_x (by rfl) ?_
    go_wp2_with fail
    refine (HCP.out _ (HR.out.to T.out)).mono ?_
    rintro e w7e ⟨a3, c3, rfl, -, hr3, hb, -⟩
    have HA := Lib.hid hr3
    have hbd := Lib.hid (hb.mono T.out.size)
    replace T := Lib.hid (bThen T.out hb)
    clear hb hr3
    go_wp2_with fail
    refine ⟨hbd.out, ?_⟩
    clear hbd
    repeat (first | (refine WM_no (by rfl) (by rfl) ?_; (simp only [Act.put, List.setIfInBounds_toArray, List.set_cons_zero, List.set_cons_succ])) | (refine WM_yes (by rfl) (by rfl) ?_; apply Exists.intro; refine ⟨fun w1 hb1 => ?_, ?_⟩; (focus (((obtain ⟨-, k0, -⟩ := (K0.out.to T.out).below hb1 hK0); have hb1 := Lib.hid hb1; go_simp); (try (go_bits; try go_simp)); (try (rw [if_pos (by omega)]; try go_simp)); (first | done | (fail) | (with_reducible rfl) | exact rfl))); (simp only [Act.put, List.setIfInBounds_toArray, List.set_cons_zero, List.set_cons_succ])))
    refine WM_x (by rfl) ?_
    go_wp2_with fail
    refine (HAC.out _ _ _ HA.out).mono ?_
    rintro e w7f ⟨rfl, hb⟩
    have hbd := Lib.hid (hb.mono T.out.size)
    replace T := Lib.hid (bThen T.out hb)
    clear hb HA
    go_wp2_with fail
    refine ⟨hbd.out, ?_⟩
    clear hbd
    repeat (first | (refine WM_no (by rfl) (by rfl) ?_; (simp only [Act.put, List.setIfInBounds_toArray, List.set_cons_zero, List.set_cons_succ])) | (refine WM_yes (by rfl) (by rfl) ?_; apply Exists.intro; refine ⟨fun w1 hb1 => ?_, ?_⟩; (focus ((skip; have hb1 := Lib.hid hb1; go_simp); (try (go_bits; try go_simp)); (try (rw [if_pos (by omega)]; try go_simp)); (first | done | (fail) | (with_reducible rfl) | exact rfl))); (simp only [Act.put, List.setIfInBounds_toArray, List.set_cons_zero, List.set_cons_succ])))
    refine WM_nil ?_
    replace K0 := Lib.hid (K0.out.to T.out)
    replace HB := Lib.hid (bThen HB.out T.out)
    replace HR := Lib.hid (HR.out.to T.out)
    clear T hK0
    obtain ⟨-, k0, -⟩ := K0.out
    go_wp2_with fail
    clear k0
    have hK0 := K0.out.1
    refine wp_region_tree (by kernel_rfl) (fun w8d hwd => ?_)
    have T := Lib.hid hwd
    clear hwd
    refine WT_yes 0 rfl (by kernel_rfl) (fun _ _ _ _ _ h => h) (by rfl) ?_; apply Exists.intro; refine ⟨fun w1 hb1 => ?_, ?_⟩; (focus (((obtain ⟨-, k0, -⟩ := (K0.out.to T.out).below hb1 hK0); have hb1 := Lib.hid hb1; go_simp); (try (go_bits; try go_simp)); (try (rw [if_pos (by omega)]; try go_simp)); (first | done | (fail) | (with_reducible rfl) | exact rfl)))
    simp only [Act.put, List.setIfInBounds_toArray, List.set_cons_zero, List.set_cons_succ]
    refine WT_yes 1 rfl (by kernel_rfl) (fun _ _ _ _ _ h => h) (by rfl) ?_; apply Exists.intro; refine ⟨fun w1 hb1 => ?_, ?_⟩; (focus ((skip; have hb1 := Lib.hid hb1; go_simp); (try (go_bits; try go_simp)); (try (rw [if_pos (by omega)]; try go_simp)); (first | done | (fail) | (with_reducible rfl) | exact rfl)))
    simp only [Act.put, List.setIfInBounds_toArray, List.set_cons_zero, List.set_cons_succ]
    refine WT_yes 3 rfl (by kernel_rfl) (fun _ _ _ _ _ h => h) (by rfl) ?_; apply Exists.intro; refine ⟨fun w1 hb1 => ?_, ?_⟩; (focus ((skip; have hb1 := Lib.hid hb1; go_simp); (try (go_bits; try go_simp)); (try (rw [if_pos (by omega)]; try go_simp)); (first | done | (fail) | (with_reducible rfl) | exact rfl)))
    simp only [Act.put, List.setIfInBounds_toArray, List.set_cons_zero, List.set_cons_succ]
    refine WT_one 2 rfl (by kernel_rfl) ?_
    unfold stepT
    go_wp2_with fail
    refine (HCP.out _ (HR.out.to T.out)).mono ?_
    rintro e w8e ⟨a3, c3, rfl, -, hr3, hb, -⟩
    have HA := Lib.hid hr3
    have hbd := Lib.hid (hb.mono T.out.size)
    replace T := Lib.hid (bThen T.out hb)
    clear hb hr3
    go_wp2_with fail
    refine ⟨hbd.out, ?_⟩
    clear hbd
    refine WT_one 4 rfl (by kernel_rfl) ?_
    unfold stepT
    go_wp2_with fail
    refine (HNO.out _ _ _ HA.out).mono ?_
    rintro e w8f ⟨a4, c4, rfl, hc4, hr4, hb⟩
    have hbd := Lib.hid (hb.mono T.out.size)
    replace T := Lib.hid (bThen T.out hb)
    have HN := Lib.hid hr4
    clear hr4
    clear hb HA
    go_wp2_with fail
    refine ⟨hbd.out, ?_⟩
    clear hbd
    refine WT_yes 5 rfl (by kernel_rfl) (fun _ _ _ _ _ h => h) (by rfl) ?_; apply Exists.intro; refine ⟨fun w1 hb1 => ?_, ?_⟩; (focus ((skip; have hb1 := Lib.hid hb1; go_simp); (try (go_bits; try go_simp)); (try (rw [if_pos (by omega)]; try go_simp)); (first | done | (fail) | (with_reducible rfl) | exact rfl)))
    simp only [Act.put, List.setIfInBounds_toArray, List.set_cons_zero, List.set_cons_succ]
    refine WT_yes 6 rfl (by kernel_rfl) (fun _ _ _ _ _ h => h) (by rfl) ?_; apply Exists.intro; refine ⟨fun w1 hb1 => ?_, ?_⟩; (focus ((skip; have hb1 := Lib.hid hb1; go_simp); (try (go_bits; try go_simp)); (try (rw [if_pos (by omega)]; try go_simp)); (first | done | (fail) | (with_reducible rfl) | exact rfl)))
    simp only [Act.put, List.setIfInBounds_toArray, List.set_cons_zero, List.set_cons_succ]
    refine WT_yes 7 rfl (by kernel_rfl) (fun _ _ _ _ _ h => h) (by rfl) ?_; apply Exists.intro; refine ⟨fun w1 hb1 => ?_, ?_⟩; (focus ((skip; have hb1 := Lib.hid hb1; go_simp); (try (go_bits; try go_simp)); (try (rw [if_pos (by omega)]; try go_simp)); (first | done | (fail) | (with_reducible rfl) | exact rfl)))
    simp only [Act.put, List.setIfInBounds_toArray, List.set_cons_zero, List.set_cons_succ]
    refine WT_yes 8 rfl (by kernel_rfl) (fun _ _ _ _ _ h => h) (by rfl) ?_; apply Exists.intro; refine ⟨fun w1 hb1 => ?_, ?_⟩; (focus ((skip; have hb1 := Lib.hid hb1; go_simp); (try (go_bits; try go_simp)); (try (rw [if_pos (by omega)]; try go_simp)); (first | done | (fail) | (with_reducible rfl) | exact rfl)))
    simp only [Act.put, List.setIfInBounds_toArray, List.set_cons_zero, List.set_cons_succ]
    refine WT_yes 9 rfl (by kernel_rfl) (fun _ _ _ _ _ h => h) (by rfl) ?_; apply Exists.intro; refine ⟨fun w1 hb1 => ?_, ?_⟩; (focus ((skip; have hb1 := Lib.hid hb1; go_simp); (try (go_bits; try go_simp)); (try (rw [if_pos (by omega)]; try go_simp)); (first | done | (fail) | (with_reducible rfl) | exact rfl)))
    simp only [Act.put, List.setIfInBounds_toArray, List.set_cons_zero, List.set_cons_succ]
    refine WT_done (by kernel_rfl) ?_
    replace K0 := Lib.hid (K0.out.to T.out)
    replace HB := Lib.hid (bThen HB.out T.out)
    replace HR := Lib.hid (HR.out.to T.out)
    clear T hK0
    obtain ⟨-, k0, -⟩ := K0.out
    go_wp2_with fail
    clear k0
    refine (HWO.out _).mono ?_
    rintro e w9 ⟨rfl, hb⟩
    replace K0 := Lib.hid (K0.out.to hb)
    replace HB := Lib.hid (bThen HB.out hb)
    replace HR := Lib.hid (HR.out.to hb)
    replace HN := Lib.hid (HN.out.to hb)
    clear hb
    go_upto_region 10 with (fail)
    obtain ⟨wa, hwa⟩ : ∃ wa, w9.alloc (.cells WA.cells 25) = wa := ⟨_, rfl⟩
    rw [hwa]
    have hb : Below w9.heap.size w9 wa := by subst hwa; exact bAlloc (bSelf w9) _
    have KW : Hid (Blk wa w9.heap.size WA.cells) := by subst hwa; exact Lib.hid (Blk.new w9 WA.cells 25)
    clear hwa
    replace K0 := Lib.hid (K0.out.to hb)
    replace HB := Lib.hid (bThen HB.out hb)
    replace HR := Lib.hid (HR.out.to hb)
    replace HN := Lib.hid (HN.out.to hb)
    clear hb
    obtain ⟨BW, hBW⟩ : ∃ BW, w9.heap.size = BW := ⟨_, rfl⟩
    rw [hBW] at KW ⊢
    clear hBW
    obtain ⟨-, k0, -⟩ := K0.out
    go_wp2_with fail
    refine (HTE.out _).mono ?_
    rintro e wb ⟨rfl, hb⟩
    replace K0 := Lib.hid (K0.out.to hb)
    replace HB := Lib.hid (bThen HB.out hb)
    replace HR := Lib.hid (HR.out.to hb)
    replace HN := Lib.hid (HN.out.to hb)
    replace KW := Lib.hid (KW.out.to hb)
    clear hb k0
    obtain ⟨-, k0, -⟩ := K0.out
    have hte : (te != te) = false := by simp
    go_wp2_with fail
    refine (HWE.out _).mono ?_
    rintro e wd ⟨rfl, hb⟩
    replace K0 := Lib.hid (K0.out.to hb)
    replace HB := Lib.hid (bThen HB.out hb)
    replace HR := Lib.hid (HR.out.to hb)
    replace HN := Lib.hid (HN.out.to hb)
    replace KW := Lib.hid (KW.out.to hb)
    clear hb k0 hte
    go_wp2_with fail
    go_cut [90] (fun s90 wc => s90 = .bool false ∧ Hid (Below wd.heap.size wd wc))
    case first =>
      rcases HWC.out with ⟨hk, rfl⟩ | ⟨rfl, rfl, hx⟩
      · have hk1 : (wk != 0) = true := by simpa using hk
        have hk2 : (wk == 0) = false := by simpa using hk
        have hk3 : (wk != wk) = false := by simp
        clear hk
        refine wp_region_quiet_all (fun w' => Below (World.heap wd).size (wd) w') (by kernel_rfl) (by kernel_rfl) (Below.refl _ _).drew ?_
        refine WQ.out ?_
        repeat (first | (refine WQ_no (by rfl) ?_; (simp only [Act.put, List.setIfInBounds_toArray, List.set_cons_zero, List.set_cons_succ])) | (refine WQ_yes (by rfl) ?_; apply Exists.intro; refine ⟨fun w1 hb1 => ?_, ?_⟩; (focus (((obtain ⟨-, k0, -⟩ := K0.out.to hb1; obtain ⟨-, kw, -⟩ := KW.out.to hb1); have hb1 := Lib.hid hb1; go_simp); (try (go_bits; try go_simp)); (try (rw [if_pos (by omega)]; try go_simp)); (first | done | (fail) | (with_reducible rfl) | exact rfl))); (simp only [Act.put, List.setIfInBounds_toArray, List.set_cons_zero, List.set_cons_succ])))
        refine WQ_nil ?_
        intro w1 hb1
        have hb1 := Lib.hid hb1
        go_wp2_with fail
        go_meet
        case rel => exact ⟨rfl, hb1⟩
      · have HX := Lib.hid hx
        clear hx
        have he1 : (x.m == x.m) = true := by simp
        have he2 : (x.d == x.d) = true := by simp
        have he3 : (x.c + x.s == x.c + x.s) = true := by simp
        have he4 : (x.b == x.b) = true := by simp
        have he5 : (x.lo == x.lo) = true := by simp
        have he6 : (x.hi == x.hi) = true := by simp
        have he7 : (x.cp == x.cp) = true := by simp
        refine wp_region_quiet_all (fun w' => Below (World.heap wd).size (wd) w') (by kernel_rfl) (by kernel_rfl) (Below.refl _ _).drew ?_
        refine WQ.out ?_
        repeat (first | (refine WQ_no (by rfl) ?_; (simp only [Act.put, List.setIfInBounds_toArray, List.set_cons_zero, List.set_cons_succ])) | (refine WQ_yes (by rfl) ?_; apply Exists.intro; refine ⟨fun w1 hb1 => ?_, ?_⟩; (focus (((obtain ⟨-, k0, -⟩ := K0.out.to hb1; obtain ⟨-, kw, -⟩ := KW.out.to hb1); have hb1 := Lib.hid hb1; go_simp); (try (go_bits; try go_simp)); (try (rw [if_pos (by omega)]; try go_simp)); (first | done | ((go_at_call 41; refine (Whole_any x _ HX.out).mono ?_; rintro e w' ⟨rfl, hb⟩; exact ⟨rfl, bThen hb1.out hb⟩)) | (with_reducible rfl) | exact rfl))); (simp only [Act.put, List.setIfInBounds_toArray, List.set_cons_zero, List.set_cons_succ])))
        refine WQ_nil ?_
        intro w1 hb1
        have hb1 := Lib.hid hb1
        go_wp2_with fail
        go_meet
        case rel => exact ⟨rfl, hb1⟩
    case rest =>
      obtain ⟨rfl, hb⟩ := hcut
      replace K0 := Lib.hid (K0.out.to hb.out)
      replace HB := Lib.hid (bThen HB.out hb.out)
      replace HR := Lib.hid (HR.out.to hb.out)
      replace HN := Lib.hid (HN.out.to hb.out)
      clear hb KW
      have hcc : (ce == ce) = true := by simp
      rcases HCC.out with ⟨ht, hct⟩ | ht0
      · have ht1 : (te == 0) = false := by simpa using ht
        have ht2 : (te != 0) = true := by simpa using ht
        subst hct
        rcases HEND.out with ⟨-, rfl, rfl, rfl, hnt⟩ | ⟨h0, -⟩
        · subst hnt
          go_wp2_with fail
          go_ret
          exact ⟨rfl, HB.out⟩
        · exact absurd h0 ht
      · have ht1 : (te == 0) = true := by rw [ht0]; rfl
        obtain ⟨-, k0, -⟩ := K0.out
        have HT0 := Lib.hid ht0
        clear ht0
        go_wp2_with fail
        refine (HST.out HT0.out _ HR.out).mono ?_
        rintro e we ⟨rfl, hb⟩
        replace K0 := Lib.hid (K0.out.to hb)
        replace HB := Lib.hid (bThen HB.out hb)
        replace HR := Lib.hid (HR.out.to hb)
        replace HN := Lib.hid (HN.out.to hb)
        clear hb k0
        rcases HEND.out with ⟨hc, rfl, rfl, rfl, hnt⟩ | ⟨hc0, hnl, TL⟩
        · have ht2 : (ce != 0) = true := by simpa using hc
          subst hnt
          go_wp2_with fail
          go_ret
          exact ⟨rfl, HB.out⟩
        · subst hc0
          have TL := Lib.hid TL
          have hcv : (cv == cv) = true := by simp
          have hav : (av == av) = true := by simp
          have hne : (ne == ne) = true := by simp
          obtain ⟨-, k0, -⟩ := K0.out
          go_wp2_with fail
          refine (TL.out.nxt _ HR.out).mono ?_
          rintro e wf ⟨a5, c5, rfl, hc5, hr5, hb⟩
          replace K0 := Lib.hid (K0.out.to hb)
          replace HB := Lib.hid (bThen HB.out hb)
          replace HR := Lib.hid (HR.out.to hb)
          replace HN := Lib.hid (HN.out.to hb)
          have HN2 := Lib.hid hr5
          clear hb k0 hr5
          obtain ⟨-, k0, -⟩ := K0.out
          go_wp2_with fail
          refine (TL.out.cmd _ HR.out).mono ?_
          rintro e wg ⟨rfl, hb⟩
          replace K0 := Lib.hid (K0.out.to hb)
          replace HB := Lib.hid (bThen HB.out hb)
          replace HR := Lib.hid (HR.out.to hb)
          replace HN := Lib.hid (HN.out.to hb)
          replace HN2 := Lib.hid (HN2.out.to hb)
          clear hb k0
          obtain ⟨-, k0, -⟩ := K0.out
          go_wp2_with fail
          refine (TL.out.act _ HR.out).mono ?_
          rintro e wh ⟨rfl, hb⟩
          replace K0 := Lib.hid (K0.out.to hb)
          replace HB := Lib.hid (bThen HB.out hb)
          replace HR := Lib.hid (HR.out.to hb)
          replace HN := Lib.hid (HN.out.to hb)
          replace HN2 := Lib.hid (HN2.out.to hb)
          clear hb k0
          go_wp2_with fail
          refine (Ints_any NZ NZ a4 a5 c4 c5 _ (by unfold maxLen; omega) HN.out HN2.out).mono ?_
          rintro e wi ⟨rfl, hb⟩
          replace HB := Lib.hid (bThen HB.out hb)
          clear hb
          go_wp2_with fail
          go_ret
          exact ⟨ret_bool (by simp), HB.out⟩

set_option maxRecDepth 100000 in
theorem HybridTests_any (x : HT) (zs : List Int) (a : Option Addr) (cap : Nat) (f : Int) (w : World) (hlen : zs.length ≤ maxLen) (hcap : zs.length ≤ cap) (hr : Reads w a zs.length (ints zs)) :
    Calls Try.prog 7 #[.agg x.cells, .slice a zs.length cap, .int .i64 f] w fun e w' => e = .returned (.bool true) ∧ Below w.heap.size w w' := by
  by_cases hfew : zs.length ≤ 6
  · exact HybridTests_few x zs a cap f w hfew hcap hr
  · unfold maxLen at hlen
    clear hr
    go_enter Try.func7, Try.ntmps7
    go_wp2_with fail
    refine (awake_any _).mono ?_
    rintro e w1 ⟨rfl, hb⟩
    have HB := Lib.hid (bThen (bAlloc (bSelf w) (.cells x.cells 25)) hb)
    clear hb
    go_wp2_with fail
    go_ret
    exact ⟨rfl, HB.out⟩

end Go.Proofs.Ytjieojkfpoiabaa
