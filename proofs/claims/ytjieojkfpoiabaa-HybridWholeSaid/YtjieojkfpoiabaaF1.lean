/-
  The statement HybridRuns: the walk.
-/
import Derived.Test.YtjieojkfpoiabaaE6
import Derived.Test.YtjieojkfpoiabaaLib9
namespace Go.Proofs.Ytjieojkfpoiabaa
open Go.RowKit

set_option maxHeartbeats 1600000 in
set_option maxRecDepth 100000 in
theorem HybridRuns_bad (x : HT) (zs : List Int) (a : Option Addr) (cap : Nat) (off : Int) (w : World) (hfew : zs.length ≤ 62) (hr : Reads w a zs.length (ints zs)) (hE : runE x zs ≠ 0) :
    Calls Try.prog 3 #[.agg x.cells, .slice a zs.length cap, .int .i64 off] w fun e w' => e = .returned (.bool true) ∧ Below w.heap.size w w' := by
  have HR0 := Lib.hid hr
  clear hr
  have HRUN := Lib.hid (fun (a : Option Addr) (cap : Nat) (W : World) h => RunOf_err x zs a cap W (by unfold maxLen; omega) h hE)
  have HERR := Lib.hid (fun (a : Option Addr) (cap : Nat) (W : World) h he => ErrorOf_err x zs a cap off W (by unfold maxLen; omega) h he)
  have HF := Lib.hid (fun (W : World) h => ForcesErr_any x zs a cap W (by unfold maxLen; omega) h)
  have HCP := Lib.hid (fun (W : World) h => CopyInts_any zs a cap W (by omega) h)
  have heq : errE x zs off = runE x zs := by
    unfold errE runE at *
    simp only [firstE] at *
    split
    · rename_i h1
      rw [if_pos h1] at hE
      split
      · rename_i h2; rw [if_pos h2] at hE; exact absurd rfl hE
      · rfl
    · rfl
  have hcase : (testE x = 0 ∧ forcesE x zs = runE x zs) ∨ (testE x = runE x zs) := by
    by_cases h : testE x = 0
    · refine .inl ⟨h, ?_⟩
      unfold runE; simp only [firstE]; rw [if_pos h]
      split
      · assumption
      · rfl
    · exact .inr (by unfold runE; simp only [firstE]; rw [if_neg h])
  obtain ⟨E, hEE⟩ : ∃ E, runE x zs = E := ⟨_, rfl⟩
  rw [heq] at HERR
  rw [hEE] at HRUN HERR hcase hE
  obtain ⟨fe, hfe⟩ : ∃ fe, forcesE x zs = fe := ⟨_, rfl⟩
  rw [hfe] at HF hcase
  have HTE := Lib.hid (fun W => TestErr_any x W)
  obtain ⟨te, hte⟩ : ∃ te, testE x = te := ⟨_, rfl⟩
  rw [hte] at HTE hcase
  clear heq hEE hfe hte
  obtain ⟨m, hm⟩ : ∃ m, zs.length = m := ⟨_, rfl⟩
  rw [hm] at HR0 HRUN HERR HF HCP hfew ⊢
  clear hm
  have hEb : (E != 0) = true := by simpa using hE
  have HE0 := Lib.hid hE
  go_enter Try.func3, Try.ntmps3
  go_wp2_with fail
  refine (awake_any _).mono ?_
  rintro e w1 ⟨rfl, hb⟩
  have K0 := Lib.hid ((Blk.new w x.cells 25).to hb)
  have HB := Lib.hid (bThen (bAlloc (bSelf w) (.cells x.cells 25)) hb)
  have HR := Lib.hid ((HR0.out.alloc (.cells x.cells 25)).to hb)
  clear hb
  have hK0 := K0.out.1
  go_wp2_with fail
  refine wp_region_mix [2, 3] (by kernel_rfl) (by kernel_rfl) (fun _ _ _ _ _ h => h) (fun w2 hwd => ?_)
  have T := Lib.hid hwd
  clear hwd
  repeat (first | (refine WM_no (by rfl) (by rfl) ?_; (simp only [Act.put, List.setIfInBounds_toArray, List.set_cons_zero, List.set_cons_succ])) | (refine WM_yes (by rfl) (by rfl) ?_; apply Exists.intro; refine ⟨fun w1 hb1 => ?_, ?_⟩; (focus (((obtain ⟨-, k0, -⟩ := (K0.out.to T.out).below hb1 hK0); have hb1 := Lib.hid hb1; go_simp); (try (go_bits; try go_simp)); (try (rw [if_pos (by omega)]; try go_simp)); (first | done | (fail) | (with_reducible rfl) | exact rfl))); (simp only [Act.put, List.setIfInBounds_toArray, List.set_cons_zero, List.set_cons_succ])))
  refine WM_x (by rfl) ?_
  go_wp2_with fail
  refine (HCP.out _ (HR.out.to T.out)).mono ?_
  rintro e w3 ⟨a3, c3, rfl, -, hr3, hb, -⟩
  have HA := Lib.hid hr3
  have hbd := Lib.hid (hb.mono T.out.size)
  replace T := Lib.hid (bThen T.out hb)
  clear hb hr3
  go_wp2_with fail
  refine ⟨hbd.out, ?_⟩
  clear hbd
  refine WM_x (by rfl) ?_
  go_wp2_with fail
  refine (HRUN.out _ _ _ HA.out).mono ?_
  rintro e w4 ⟨rfl, hb⟩
  have hbd := Lib.hid (hb.mono T.out.size)
  replace T := Lib.hid (bThen T.out hb)
  clear hb HA
  go_wp2_with fail
  refine ⟨hbd.out, ?_⟩
  clear hbd
  repeat (first | (refine WM_no (by rfl) (by rfl) ?_; (simp only [Act.put, List.setIfInBounds_toArray, List.set_cons_zero, List.set_cons_succ])) | (refine WM_yes (by rfl) (by rfl) ?_; apply Exists.intro; refine ⟨fun w1 hb1 => ?_, ?_⟩; (focus ((skip; have hb1 := Lib.hid hb1; go_simp); (try (go_bits; try go_simp)); (try (rw [if_pos (by omega)]; try go_simp)); (first | done | (fail) | (with_reducible rfl) | exact rfl))); (simp only [Act.put, List.setIfInBounds_toArray, List.set_cons_zero, List.set_cons_succ])))
  refine WM_nil ?_
  replace K0 := Lib.hid (K0.out.to T.out)
  replace HB := Lib.hid (bThen HB.out T.out)
  replace HR := Lib.hid (HR.out.to T.out)
  clear T hK0
  have hK0 := K0.out.1
  go_wp2_with fail
  go_cut [9, 10] (fun s9 s10 wc => ∃ B, s9 = .pointer (some ⟨B, 0, none⟩) ∧ s10 = .int .i64 E ∧ Hid (Blk wc B #[.int .i64 0, .int .i64 0]) ∧ Hid (Below w4.heap.size w4 wc) ∧ Hid (w4.heap.size ≤ B))
  case first =>
    refine wp_region_tree (by kernel_rfl) (fun w5 hwd => ?_)
    have T := Lib.hid hwd
    clear hwd
    refine WT_yes 0 rfl (by kernel_rfl) (fun _ _ _ _ _ h => h) (by rfl) ?_; apply Exists.intro; refine ⟨fun w1 hb1 => ?_, ?_⟩; (focus (((obtain ⟨-, k0, -⟩ := (K0.out.to T.out).below hb1 hK0); have hb1 := Lib.hid hb1; go_simp); (try (go_bits; try go_simp)); (try (rw [if_pos (by omega)]; try go_simp)); (first | done | (fail) | (with_reducible rfl) | exact rfl)))
    simp only [Act.put, List.setIfInBounds_toArray, List.set_cons_zero, List.set_cons_succ]
    refine WT_yes 1 rfl (by kernel_rfl) (fun _ _ _ _ _ h => h) (by rfl) ?_; apply Exists.intro; refine ⟨fun w1 hb1 => ?_, ?_⟩; (focus ((skip; have hb1 := Lib.hid hb1; go_simp); (try (go_bits; try go_simp)); (try (rw [if_pos (by omega)]; try go_simp)); (first | done | (fail) | (with_reducible rfl) | exact rfl)))
    simp only [Act.put, List.setIfInBounds_toArray, List.set_cons_zero, List.set_cons_succ]
    refine WT_yes 3 rfl (by kernel_rfl) (fun _ _ _ _ _ h => h) (by rfl) ?_; apply Exists.intro; refine ⟨fun w1 hb1 => ?_, ?_⟩; (focus ((skip; have hb1 := Lib.hid hb1; go_simp); (try (go_bits; try go_simp)); (try (rw [if_pos (by omega)]; try go_simp)); (first | done | (fail) | (with_reducible rfl) | exact rfl)))
    simp only [Act.put, List.setIfInBounds_toArray, List.set_cons_zero, List.set_cons_succ]
    refine WT_two 2 8 rfl rfl (by kernel_rfl) ?_ ?_
    · skip
      unfold stepT
      go_wp2_with fail
      refine (HCP.out _ (HR.out.to T.out)).mono ?_
      rintro e w6 ⟨a3, c3, rfl, -, hr3, hb, -⟩
      have HA := Lib.hid hr3
      clear hr3
      have hbd := Lib.hid (hb.mono T.out.size)
      replace T := Lib.hid (bThen T.out hb)
      try replace KA := Lib.hid (KA.out.to hb)
      clear hb
      go_wp2_with fail
      refine ⟨hbd.out, ?_⟩
      clear hbd
      refine WT_two 4 8 rfl rfl (by kernel_rfl) ?_ ?_
      · skip
        unfold stepT
        go_wp2_with fail
        refine (HERR.out _ _ _ HA.out hE).mono ?_
        rintro e w7 ⟨rfl, hb⟩
        have hbd := Lib.hid (hb.mono T.out.size)
        replace T := Lib.hid (bThen T.out hb)
        try replace KA := Lib.hid (KA.out.to hb)
        clear hb
        go_wp2_with fail
        refine ⟨hbd.out, ?_⟩
        clear hbd
        refine WT_yes 5 rfl (by kernel_rfl) (fun _ _ _ _ _ h => h) (by rfl) ?_; apply Exists.intro; refine ⟨fun w1 hb1 => ?_, ?_⟩; (focus ((skip; have hb1 := Lib.hid hb1; go_simp); (try (go_bits; try go_simp)); (try (rw [if_pos (by omega)]; try go_simp)); (first | done | (fail) | (with_reducible rfl) | exact rfl)))
        simp only [Act.put, List.setIfInBounds_toArray, List.set_cons_zero, List.set_cons_succ]
        refine WT_yes 6 rfl (by kernel_rfl) (fun _ _ _ _ _ h => h) (by rfl) ?_; apply Exists.intro; refine ⟨fun w1 hb1 => ?_, ?_⟩; (focus ((skip; have hb1 := Lib.hid hb1; go_simp); (try (go_bits; try go_simp)); (try (rw [if_pos (by omega)]; try go_simp)); (first | done | (fail) | (with_reducible rfl) | exact rfl)))
        simp only [Act.put, List.setIfInBounds_toArray, List.set_cons_zero, List.set_cons_succ]
        refine WT_yes 7 rfl (by kernel_rfl) (fun _ _ _ _ _ h => h) (by rfl) ?_; apply Exists.intro; refine ⟨fun w1 hb1 => ?_, ?_⟩; (focus ((skip; have hb1 := Lib.hid hb1; go_simp); (try (go_bits; try go_simp)); (try (rw [if_pos (by omega)]; try go_simp)); (first | done | (fail) | (with_reducible rfl) | exact rfl)))
        simp only [Act.put, List.setIfInBounds_toArray, List.set_cons_zero, List.set_cons_succ]
        refine WT_one 8 rfl (by kernel_rfl) ?_
        unfold stepT
        go_wp2_with fail
        obtain ⟨w8, hwA⟩ : ∃ wA, w7.alloc (.cells #[.int .i64 0, .int .i64 0] 23) = wA := ⟨_, rfl⟩
        rw [hwA]
        have hb : Below w7.heap.size w7 w8 := by subst hwA; exact bAlloc (bSelf _) _
        have KA : Hid (Blk w8 w7.heap.size #[.int .i64 0, .int .i64 0]) := by subst hwA; exact Blk.new _ _ _
        have KAN := Lib.hid T.out.size
        clear hwA
        have hbd := Lib.hid (hb.mono T.out.size)
        replace T := Lib.hid (bThen T.out hb)
        try replace HA := Lib.hid (HA.out.to hb)
        refine ⟨hbd.out, ?_⟩
        clear hbd hb
        refine WT_one 9 rfl (by kernel_rfl) ?_
        unfold stepT
        obtain ⟨hka, ka, fa⟩ := KA.out
        go_wp2_with fail
        clear ka fa
        refine ⟨((Below.refl _ _).setCell (p := ⟨_, 0, none⟩) KAN.out _).setCell (p := ⟨_, 1, none⟩) KAN.out _, ?_⟩
        refine WT_yes 10 rfl (by kernel_rfl) (fun _ _ _ _ _ h => h) (by rfl) ?_; apply Exists.intro; refine ⟨fun w1 hb1 => ?_, ?_⟩; (focus ((skip; have hb1 := Lib.hid hb1; go_simp); (try (go_bits; try go_simp)); (try (rw [if_pos (by omega)]; try go_simp)); (first | done | (fail) | (with_reducible rfl) | exact rfl)))
        simp only [Act.put, List.setIfInBounds_toArray, List.set_cons_zero, List.set_cons_succ]
        refine WT_done (by kernel_rfl) ?_
        go_wp2_with fail
        go_meet
        case rel => exact ⟨_, rfl, rfl, Lib.hid ((KA.out.set 0 (.int .i64 0)).set 1 (.int .i64 0)), Lib.hid ((T.out.setCell (p := ⟨_, 0, none⟩) KAN.out _).setCell (p := ⟨_, 1, none⟩) KAN.out _), KAN⟩
      · skip
        unfold stepT
        go_wp2_with fail
        obtain ⟨w7, hwA⟩ : ∃ wA, w6.alloc (.cells #[.int .i64 0, .int .i64 0] 23) = wA := ⟨_, rfl⟩
        rw [hwA]
        have hb : Below w6.heap.size w6 w7 := by subst hwA; exact bAlloc (bSelf _) _
        have KA : Hid (Blk w7 w6.heap.size #[.int .i64 0, .int .i64 0]) := by subst hwA; exact Blk.new _ _ _
        have KAN := Lib.hid T.out.size
        clear hwA
        have hbd := Lib.hid (hb.mono T.out.size)
        replace T := Lib.hid (bThen T.out hb)
        try replace HA := Lib.hid (HA.out.to hb)
        refine ⟨hbd.out, ?_⟩
        clear hbd hb
        refine WT_one 4 rfl (by kernel_rfl) ?_
        unfold stepT
        go_wp2_with fail
        refine (HERR.out _ _ _ HA.out hE).mono ?_
        rintro e w8 ⟨rfl, hb⟩
        have hbd := Lib.hid (hb.mono T.out.size)
        replace T := Lib.hid (bThen T.out hb)
        try replace KA := Lib.hid (KA.out.to hb)
        clear hb
        go_wp2_with fail
        refine ⟨hbd.out, ?_⟩
        clear hbd
        refine WT_yes 5 rfl (by kernel_rfl) (fun _ _ _ _ _ h => h) (by rfl) ?_; apply Exists.intro; refine ⟨fun w1 hb1 => ?_, ?_⟩; (focus ((skip; have hb1 := Lib.hid hb1; go_simp); (try (go_bits; try go_simp)); (try (rw [if_pos (by omega)]; try go_simp)); (first | done | (fail) | (with_reducible rfl) | exact rfl)))
        simp only [Act.put, List.setIfInBounds_toArray, List.set_cons_zero, List.set_cons_succ]
        refine WT_yes 6 rfl (by kernel_rfl) (fun _ _ _ _ _ h => h) (by rfl) ?_; apply Exists.intro; refine ⟨fun w1 hb1 => ?_, ?_⟩; (focus ((skip; have hb1 := Lib.hid hb1; go_simp); (try (go_bits; try go_simp)); (try (rw [if_pos (by omega)]; try go_simp)); (first | done | (fail) | (with_reducible rfl) | exact rfl)))
        simp only [Act.put, List.setIfInBounds_toArray, List.set_cons_zero, List.set_cons_succ]
        refine WT_yes 7 rfl (by kernel_rfl) (fun _ _ _ _ _ h => h) (by rfl) ?_; apply Exists.intro; refine ⟨fun w1 hb1 => ?_, ?_⟩; (focus ((skip; have hb1 := Lib.hid hb1; go_simp); (try (go_bits; try go_simp)); (try (rw [if_pos (by omega)]; try go_simp)); (first | done | (fail) | (with_reducible rfl) | exact rfl)))
        simp only [Act.put, List.setIfInBounds_toArray, List.set_cons_zero, List.set_cons_succ]
        refine WT_one 9 rfl (by kernel_rfl) ?_
        unfold stepT
        obtain ⟨hka, ka, fa⟩ := KA.out
        go_wp2_with fail
        clear ka fa
        refine ⟨((Below.refl _ _).setCell (p := ⟨_, 0, none⟩) KAN.out _).setCell (p := ⟨_, 1, none⟩) KAN.out _, ?_⟩
        refine WT_yes 10 rfl (by kernel_rfl) (fun _ _ _ _ _ h => h) (by rfl) ?_; apply Exists.intro; refine ⟨fun w1 hb1 => ?_, ?_⟩; (focus ((skip; have hb1 := Lib.hid hb1; go_simp); (try (go_bits; try go_simp)); (try (rw [if_pos (by omega)]; try go_simp)); (first | done | (fail) | (with_reducible rfl) | exact rfl)))
        simp only [Act.put, List.setIfInBounds_toArray, List.set_cons_zero, List.set_cons_succ]
        refine WT_done (by kernel_rfl) ?_
        go_wp2_with fail
        go_meet
        case rel => exact ⟨_, rfl, rfl, Lib.hid ((KA.out.set 0 (.int .i64 0)).set 1 (.int .i64 0)), Lib.hid ((T.out.setCell (p := ⟨_, 0, none⟩) KAN.out _).setCell (p := ⟨_, 1, none⟩) KAN.out _), KAN⟩
    · skip
      unfold stepT
      go_wp2_with fail
      obtain ⟨w6, hwA⟩ : ∃ wA, w5.alloc (.cells #[.int .i64 0, .int .i64 0] 23) = wA := ⟨_, rfl⟩
      rw [hwA]
      have hb : Below w5.heap.size w5 w6 := by subst hwA; exact bAlloc (bSelf _) _
      have KA : Hid (Blk w6 w5.heap.size #[.int .i64 0, .int .i64 0]) := by subst hwA; exact Blk.new _ _ _
      have KAN := Lib.hid T.out.size
      clear hwA
      have hbd := Lib.hid (hb.mono T.out.size)
      replace T := Lib.hid (bThen T.out hb)
      try replace HA := Lib.hid (HA.out.to hb)
      refine ⟨hbd.out, ?_⟩
      clear hbd hb
      refine WT_one 2 rfl (by kernel_rfl) ?_
      unfold stepT
      go_wp2_with fail
      refine (HCP.out _ (HR.out.to T.out)).mono ?_
      rintro e w7 ⟨a3, c3, rfl, -, hr3, hb, -⟩
      have HA := Lib.hid hr3
      clear hr3
      have hbd := Lib.hid (hb.mono T.out.size)
      replace T := Lib.hid (bThen T.out hb)
      try replace KA := Lib.hid (KA.out.to hb)
      clear hb
      go_wp2_with fail
      refine ⟨hbd.out, ?_⟩
      clear hbd
      refine WT_one 4 rfl (by kernel_rfl) ?_
      unfold stepT
      go_wp2_with fail
      refine (HERR.out _ _ _ HA.out hE).mono ?_
      rintro e w8 ⟨rfl, hb⟩
      have hbd := Lib.hid (hb.mono T.out.size)
      replace T := Lib.hid (bThen T.out hb)
      try replace KA := Lib.hid (KA.out.to hb)
      clear hb
      go_wp2_with fail
      refine ⟨hbd.out, ?_⟩
      clear hbd
      refine WT_yes 5 rfl (by kernel_rfl) (fun _ _ _ _ _ h => h) (by rfl) ?_; apply Exists.intro; refine ⟨fun w1 hb1 => ?_, ?_⟩; (focus ((skip; have hb1 := Lib.hid hb1; go_simp); (try (go_bits; try go_simp)); (try (rw [if_pos (by omega)]; try go_simp)); (first | done | (fail) | (with_reducible rfl) | exact rfl)))
      simp only [Act.put, List.setIfInBounds_toArray, List.set_cons_zero, List.set_cons_succ]
      refine WT_yes 6 rfl (by kernel_rfl) (fun _ _ _ _ _ h => h) (by rfl) ?_; apply Exists.intro; refine ⟨fun w1 hb1 => ?_, ?_⟩; (focus ((skip; have hb1 := Lib.hid hb1; go_simp); (try (go_bits; try go_simp)); (try (rw [if_pos (by omega)]; try go_simp)); (first | done | (fail) | (with_reducible rfl) | exact rfl)))
      simp only [Act.put, List.setIfInBounds_toArray, List.set_cons_zero, List.set_cons_succ]
      refine WT_yes 7 rfl (by kernel_rfl) (fun _ _ _ _ _ h => h) (by rfl) ?_; apply Exists.intro; refine ⟨fun w1 hb1 => ?_, ?_⟩; (focus ((skip; have hb1 := Lib.hid hb1; go_simp); (try (go_bits; try go_simp)); (try (rw [if_pos (by omega)]; try go_simp)); (first | done | (fail) | (with_reducible rfl) | exact rfl)))
      simp only [Act.put, List.setIfInBounds_toArray, List.set_cons_zero, List.set_cons_succ]
      refine WT_one 9 rfl (by kernel_rfl) ?_
      unfold stepT
      obtain ⟨hka, ka, fa⟩ := KA.out
      go_wp2_with fail
      clear ka fa
      refine ⟨((Below.refl _ _).setCell (p := ⟨_, 0, none⟩) KAN.out _).setCell (p := ⟨_, 1, none⟩) KAN.out _, ?_⟩
      refine WT_yes 10 rfl (by kernel_rfl) (fun _ _ _ _ _ h => h) (by rfl) ?_; apply Exists.intro; refine ⟨fun w1 hb1 => ?_, ?_⟩; (focus ((skip; have hb1 := Lib.hid hb1; go_simp); (try (go_bits; try go_simp)); (try (rw [if_pos (by omega)]; try go_simp)); (first | done | (fail) | (with_reducible rfl) | exact rfl)))
      simp only [Act.put, List.setIfInBounds_toArray, List.set_cons_zero, List.set_cons_succ]
      refine WT_done (by kernel_rfl) ?_
      go_wp2_with fail
      go_meet
      case rel => exact ⟨_, rfl, rfl, Lib.hid ((KA.out.set 0 (.int .i64 0)).set 1 (.int .i64 0)), Lib.hid ((T.out.setCell (p := ⟨_, 0, none⟩) KAN.out _).setCell (p := ⟨_, 1, none⟩) KAN.out _), KAN⟩
  case rest =>
    obtain ⟨B, rfl, rfl, KA, T, hBN⟩ := hcut
    replace K0 := Lib.hid (K0.out.to T.out)
    replace HB := Lib.hid (bThen HB.out T.out)
    replace HR := Lib.hid (HR.out.to T.out)
    have hBw : w.heap.size < B := by have := hBN.out; omega
    clear T hBN
    obtain ⟨-, k0, -⟩ := K0.out
    go_wp2_with fail
    refine (HTE.out _).mono ?_
    rintro e w5 ⟨rfl, hb⟩
    replace K0 := Lib.hid (K0.out.to hb)
    replace HB := Lib.hid (bThen HB.out hb)
    replace HR := Lib.hid (HR.out.to hb)
    replace KA := Lib.hid (KA.out.to hb)
    clear hb k0
    obtain ⟨-, ka, -⟩ := KA.out
    have hEE : (E == E) = true := by simp
    rcases hcase with ⟨rfl, rfl⟩ | rfl
    · obtain ⟨-, k0, -⟩ := K0.out
      go_wp2_with fail
      refine (HF.out _ HR.out).mono ?_
      rintro e w6 ⟨rfl, hb⟩
      replace HB := Lib.hid (bThen HB.out hb)
      replace KA := Lib.hid (KA.out.to hb)
      clear hb k0 ka
      obtain ⟨-, ka, -⟩ := KA.out
      go_wp2_with fail
      go_ret
      exact ⟨rfl, HB.out⟩
    · have hE1 : (te == 0) = false := by simpa using hE
      go_wp2_with fail
      go_ret
      exact ⟨rfl, HB.out⟩

end Go.Proofs.Ytjieojkfpoiabaa
