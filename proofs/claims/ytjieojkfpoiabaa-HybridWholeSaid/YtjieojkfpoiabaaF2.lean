/-
  The statement HybridRuns: the walk where the input is valid; the law.
-/
import Derived.Test.YtjieojkfpoiabaaF1
namespace Go.Proofs.Ytjieojkfpoiabaa
open Go.RowKit

/-- What ErrorOf answers to a valid run. -/
def errV (x : HT) (zs : List Int) (off : Int) : Int × Int × Int :=
  if offE off = 0 then (sumE (stepErr x) (stepsL x [0, 0, 0, 0] zs) - sumE (stepWide off) (stepsL x [0, 0, 0, 0] zs), sumE (stepErr x) (stepsL x [0, 0, 0, 0] zs) + sumE (stepWide off) (stepsL x [0, 0, 0, 0] zs), 0) else (0, 0, offE off)
theorem ErrorOf_v (x : HT) (zs : List Int) (a : Option Addr) (cap : Nat) (off : Int) (w : World) (hlen : zs.length ≤ maxLen) (hr : Reads w a zs.length (ints zs)) (he : runE x zs = 0) :
    Calls Try.prog 13 #[.agg x.cells, .slice a zs.length cap, .int .i64 off] w fun e w' => e = .returned (.tuple #[.agg #[.int .i64 (errV x zs off).1, .int .i64 (errV x zs off).2.1], .int .i64 (errV x zs off).2.2]) ∧ Below w.heap.size w w' := by
  have h0 := firstE_zero (show firstE [testE x, forcesE x zs] = 0 from he)
  have h1 := h0 _ (List.mem_cons_self ..)
  have h2 := h0 _ (List.mem_cons_of_mem _ (List.mem_cons_self ..))
  have heq : errE x zs off = offE off := by
    unfold errE
    simp only [firstE]
    rw [if_pos h1, if_pos h2]
    split
    · rename_i h; exact h.symm
    · rfl
  unfold errV
  by_cases h : offE off = 0
  · rw [if_pos h]
    exact ErrorOf_ok x zs a cap off w hlen hr (heq.trans h)
  · rw [if_neg h]
    have := ErrorOf_err x zs a cap off w hlen hr (by rw [heq]; exact h)
    rwa [heq] at this
theorem offE_zero {off : Int} (h : offE off = 0) : 0 ≤ off ∧ off ≤ 1000 := by
  unfold offE unl at h
  split at h
  · rename_i h1; simpa using h1
  · exact absurd h (by decide)

set_option maxHeartbeats 1600000 in
set_option maxRecDepth 100000 in
theorem HybridRuns_good (x : HT) (zs : List Int) (a : Option Addr) (cap : Nat) (off : Int) (w : World) (hfew : zs.length ≤ 62) (hr : Reads w a zs.length (ints zs)) (hE : runE x zs = 0) :
    Calls Try.prog 3 #[.agg x.cells, .slice a zs.length cap, .int .i64 off] w fun e w' => e = .returned (.bool true) ∧ Below w.heap.size w w' := by
  have HR0 := Lib.hid hr
  clear hr
  obtain ⟨hx, hfew2, hz⟩ := runE_zero hE
  have h0 := firstE_zero (show firstE [testE x, forcesE x zs] = 0 from hE)
  have HTE := Lib.hid (fun W => TestErr_any x W)
  rw [h0 _ (List.mem_cons_self ..)] at HTE
  have HF := Lib.hid (fun (W : World) h => ForcesErr_any x zs a cap W (by unfold maxLen; omega) h)
  rw [h0 _ (List.mem_cons_of_mem _ (List.mem_cons_self ..))] at HF
  have HRUN := Lib.hid (fun (a : Option Addr) (cap : Nat) (W : World) h => RunOf_ok x zs a cap W (by unfold maxLen; omega) h hE)
  have HERR := Lib.hid (fun (a : Option Addr) (cap : Nat) (W : World) h => ErrorOf_v x zs a cap off W (by unfold maxLen; omega) h hE)
  have HCP := Lib.hid (fun (W : World) h => CopyInts_any zs a cap W (by omega) h)
  have HREF := Lib.hid (fun (W : World) h => rRun_any x zs a cap W hx hfew2 hz h)
  rw [← runL_eq x hx zs] at HREF
  have hrl : (runL x zs).length ≤ 100 := by rw [runL_eq x hx zs]; have := runR_len x zs (beg x); simp only [List.length_cons]; omega
  have HIN : offE off = 0 → Hid (∀ W, Reads W a zs.length (ints zs) → Calls Try.prog 19 #[.agg x.cells, .slice a zs.length cap, .int .i64 off] W fun e w' => e = .returned (.agg #[.int .i64 (errV x zs off).1, .int .i64 (errV x zs off).2.1]) ∧ Below W.heap.size W w') := fun h => Lib.hid (fun W hr => by
    obtain ⟨ho1, ho2⟩ := offE_zero h
    have := ErrorIn_any x zs a cap off W hx hfew2 hz ho1 ho2 hr
    rw [err_eq x off hx zs [0, 0, 0, 0] (beg x) 0 0 (Rel.beg hx)] at this
    unfold errV
    rw [if_pos h]
    simpa using this)
  have hv : (offE off = 0 ∧ (errV x zs off).2.2 = 0) ∨ (offE off ≠ 0 ∧ errV x zs off = (0, 0, offE off)) := by
    unfold errV
    by_cases h : offE off = 0
    · exact .inl ⟨h, by rw [if_pos h]⟩
    · exact .inr ⟨h, by rw [if_neg h]⟩
  obtain ⟨rl, hrlE⟩ : ∃ rl, runL x zs = rl := ⟨_, rfl⟩
  rw [hrlE] at HRUN HREF hrl
  have HOFF := Lib.hid (fun W => OffErr_any off W)
  obtain ⟨oe, hoe⟩ : ∃ oe, offE off = oe := ⟨_, rfl⟩
  rw [hoe] at HOFF HIN hv
  obtain ⟨⟨lo, hi, fe⟩, hev⟩ : ∃ p, errV x zs off = p := ⟨_, rfl⟩
  rw [hev] at HERR HIN hv
  dsimp only at HERR HIN hv
  clear hrlE hoe hev h0 hE hz hfew2
  obtain ⟨m, hm⟩ : ∃ m, zs.length = m := ⟨_, rfl⟩
  rw [hm] at HR0 HRUN HERR HF HCP HREF HIN hfew ⊢
  clear hm
  go_enter Try.func3, Try.ntmps3
  go_wp2_with fail
  refine (awake_any _).mono ?_
  rintro e w1 ⟨rfl, hb⟩
  have K0 := Lib.hid ((Blk.new w x.cells 25).to hb)
  have HB := Lib.hid (bThen (bAlloc (bSelf w) (.cells x.cells 25)) hb)
  have HR := Lib.hid ((HR0.out.alloc (.cells x.cells 25)).to hb)
  clear hb
  have hK0 := K0.out.1
  go_wp2_with fail
  refine wp_region_mix [2, 3] (by kernel_rfl) (by kernel_rfl) (fun _ _ _ _ _ h => h) (fun w2 hwd => ?_)
  have T := Lib.hid hwd
  clear hwd
  repeat (first | (refine WM_no (by rfl) (by rfl) ?_; (simp only [Act.put, List.setIfInBounds_toArray, List.set_cons_zero, List.set_cons_succ])) | (refine WM_yes (by rfl) (by rfl) ?_; apply Exists.intro; refine ⟨fun w1 hb1 => ?_, ?_⟩; (focus (((obtain ⟨-, k0, -⟩ := (K0.out.to T.out).below hb1 hK0); have hb1 := Lib.hid hb1; go_simp); (try (go_bits; try go_simp)); (try (rw [if_pos (by omega)]; try go_simp)); (first | done | (fail) | (with_reducible rfl) | exact rfl))); (simp only [Act.put, List.setIfInBounds_toArray, List.set_cons_zero, List.set_cons_succ])))
  refine WM_x (by rfl) ?_
  go_wp2_with fail
  refine (HCP.out _ (HR.out.to T.out)).mono ?_
  rintro e w3 ⟨a3, c3, rfl, -, hr3, hb, -⟩
  have HA := Lib.hid hr3
  have hbd := Lib.hid (hb.mono T.out.size)
  replace T := Lib.hid (bThen T.out hb)
  clear hb hr3
  go_wp2_with fail
  refine ⟨hbd.out, ?_⟩
  clear hbd
  refine WM_x (by rfl) ?_
  go_wp2_with fail
  refine (HRUN.out _ _ _ HA.out).mono ?_
  rintro e w4 ⟨ar, cr, rfl, hrr, hb⟩
  have hbd := Lib.hid (hb.mono T.out.size)
  replace T := Lib.hid (bThen T.out hb)
  have HRR := Lib.hid hrr
  clear hb HA hrr
  go_wp2_with fail
  refine ⟨hbd.out, ?_⟩
  clear hbd
  repeat (first | (refine WM_no (by rfl) (by rfl) ?_; (simp only [Act.put, List.setIfInBounds_toArray, List.set_cons_zero, List.set_cons_succ])) | (refine WM_yes (by rfl) (by rfl) ?_; apply Exists.intro; refine ⟨fun w1 hb1 => ?_, ?_⟩; (focus ((skip; have hb1 := Lib.hid hb1; go_simp); (try (go_bits; try go_simp)); (try (rw [if_pos (by omega)]; try go_simp)); (first | done | (fail) | (with_reducible rfl) | exact rfl))); (simp only [Act.put, List.setIfInBounds_toArray, List.set_cons_zero, List.set_cons_succ])))
  refine WM_nil ?_
  replace K0 := Lib.hid (K0.out.to T.out)
  replace HB := Lib.hid (bThen HB.out T.out)
  replace HR := Lib.hid (HR.out.to T.out)
  clear T hK0
  have hK0 := K0.out.1
  go_wp2_with fail
  go_cut [9, 10] (fun s9 s10 wc => ∃ B, s9 = .pointer (some ⟨B, 0, none⟩) ∧ s10 = .int .i64 fe ∧ Hid (Blk wc B #[.int .i64 lo, .int .i64 hi]) ∧ Hid (Below w4.heap.size w4 wc) ∧ Hid (w4.heap.size ≤ B))
  case first =>
    refine wp_region_tree (by kernel_rfl) (fun w5 hwd => ?_)
    have T := Lib.hid hwd
    clear hwd
    refine WT_yes 0 rfl (by kernel_rfl) (fun _ _ _ _ _ h => h) (by rfl) ?_; apply Exists.intro; refine ⟨fun w1 hb1 => ?_, ?_⟩; (focus (((obtain ⟨-, k0, -⟩ := (K0.out.to T.out).below hb1 hK0); have hb1 := Lib.hid hb1; go_simp); (try (go_bits; try go_simp)); (try (rw [if_pos (by omega)]; try go_simp)); (first | done | (fail) | (with_reducible rfl) | exact rfl)))
    simp only [Act.put, List.setIfInBounds_toArray, List.set_cons_zero, List.set_cons_succ]
    refine WT_yes 1 rfl (by kernel_rfl) (fun _ _ _ _ _ h => h) (by rfl) ?_; apply Exists.intro; refine ⟨fun w1 hb1 => ?_, ?_⟩; (focus ((skip; have hb1 := Lib.hid hb1; go_simp); (try (go_bits; try go_simp)); (try (rw [if_pos (by omega)]; try go_simp)); (first | done | (fail) | (with_reducible rfl) | exact rfl)))
    simp only [Act.put, List.setIfInBounds_toArray, List.set_cons_zero, List.set_cons_succ]
    refine WT_yes 3 rfl (by kernel_rfl) (fun _ _ _ _ _ h => h) (by rfl) ?_; apply Exists.intro; refine ⟨fun w1 hb1 => ?_, ?_⟩; (focus ((skip; have hb1 := Lib.hid hb1; go_simp); (try (go_bits; try go_simp)); (try (rw [if_pos (by omega)]; try go_simp)); (first | done | (fail) | (with_reducible rfl) | exact rfl)))
    simp only [Act.put, List.setIfInBounds_toArray, List.set_cons_zero, List.set_cons_succ]
    refine WT_two 2 8 rfl rfl (by kernel_rfl) ?_ ?_
    · skip
      unfold stepT
      go_wp2_with fail
      refine (HCP.out _ (HR.out.to T.out)).mono ?_
      rintro e w6 ⟨a3, c3, rfl, -, hr3, hb, -⟩
      have HA := Lib.hid hr3
      clear hr3
      have hbd := Lib.hid (hb.mono T.out.size)
      replace T := Lib.hid (bThen T.out hb)
      try replace KA := Lib.hid (KA.out.to hb)
      clear hb
      go_wp2_with fail
      refine ⟨hbd.out, ?_⟩
      clear hbd
      refine WT_two 4 8 rfl rfl (by kernel_rfl) ?_ ?_
      · skip
        unfold stepT
        go_wp2_with fail
        refine (HERR.out _ _ _ HA.out).mono ?_
        rintro e w7 ⟨rfl, hb⟩
        have hbd := Lib.hid (hb.mono T.out.size)
        replace T := Lib.hid (bThen T.out hb)
        try replace KA := Lib.hid (KA.out.to hb)
        clear hb
        go_wp2_with fail
        refine ⟨hbd.out, ?_⟩
        clear hbd
        refine WT_yes 5 rfl (by kernel_rfl) (fun _ _ _ _ _ h => h) (by rfl) ?_; apply Exists.intro; refine ⟨fun w1 hb1 => ?_, ?_⟩; (focus ((skip; have hb1 := Lib.hid hb1; go_simp); (try (go_bits; try go_simp)); (try (rw [if_pos (by omega)]; try go_simp)); (first | done | (fail) | (with_reducible rfl) | exact rfl)))
        simp only [Act.put, List.setIfInBounds_toArray, List.set_cons_zero, List.set_cons_succ]
        refine WT_yes 6 rfl (by kernel_rfl) (fun _ _ _ _ _ h => h) (by rfl) ?_; apply Exists.intro; refine ⟨fun w1 hb1 => ?_, ?_⟩; (focus ((skip; have hb1 := Lib.hid hb1; go_simp); (try (go_bits; try go_simp)); (try (rw [if_pos (by omega)]; try go_simp)); (first | done | (fail) | (with_reducible rfl) | exact rfl)))
        simp only [Act.put, List.setIfInBounds_toArray, List.set_cons_zero, List.set_cons_succ]
        refine WT_yes 7 rfl (by kernel_rfl) (fun _ _ _ _ _ h => h) (by rfl) ?_; apply Exists.intro; refine ⟨fun w1 hb1 => ?_, ?_⟩; (focus ((skip; have hb1 := Lib.hid hb1; go_simp); (try (go_bits; try go_simp)); (try (rw [if_pos (by omega)]; try go_simp)); (first | done | (fail) | (with_reducible rfl) | exact rfl)))
        simp only [Act.put, List.setIfInBounds_toArray, List.set_cons_zero, List.set_cons_succ]
        refine WT_one 8 rfl (by kernel_rfl) ?_
        unfold stepT
        go_wp2_with fail
        obtain ⟨w8, hwA⟩ : ∃ wA, w7.alloc (.cells #[.int .i64 0, .int .i64 0] 23) = wA := ⟨_, rfl⟩
        rw [hwA]
        have hb : Below w7.heap.size w7 w8 := by subst hwA; exact bAlloc (bSelf _) _
        have KA : Hid (Blk w8 w7.heap.size #[.int .i64 0, .int .i64 0]) := by subst hwA; exact Blk.new _ _ _
        have KAN := Lib.hid T.out.size
        clear hwA
        have hbd := Lib.hid (hb.mono T.out.size)
        replace T := Lib.hid (bThen T.out hb)
        try replace HA := Lib.hid (HA.out.to hb)
        refine ⟨hbd.out, ?_⟩
        clear hbd hb
        refine WT_one 9 rfl (by kernel_rfl) ?_
        unfold stepT
        obtain ⟨hka, ka, fa⟩ := KA.out
        go_wp2_with fail
        clear ka fa
        refine ⟨((Below.refl _ _).setCell (p := ⟨_, 0, none⟩) KAN.out _).setCell (p := ⟨_, 1, none⟩) KAN.out _, ?_⟩
        refine WT_yes 10 rfl (by kernel_rfl) (fun _ _ _ _ _ h => h) (by rfl) ?_; apply Exists.intro; refine ⟨fun w1 hb1 => ?_, ?_⟩; (focus ((skip; have hb1 := Lib.hid hb1; go_simp); (try (go_bits; try go_simp)); (try (rw [if_pos (by omega)]; try go_simp)); (first | done | (fail) | (with_reducible rfl) | exact rfl)))
        simp only [Act.put, List.setIfInBounds_toArray, List.set_cons_zero, List.set_cons_succ]
        refine WT_done (by kernel_rfl) ?_
        go_wp2_with fail
        go_meet
        case rel => exact ⟨_, rfl, rfl, Lib.hid ((KA.out.set 0 (.int .i64 lo)).set 1 (.int .i64 hi)), Lib.hid ((T.out.setCell (p := ⟨_, 0, none⟩) KAN.out _).setCell (p := ⟨_, 1, none⟩) KAN.out _), KAN⟩
      · skip
        unfold stepT
        go_wp2_with fail
        obtain ⟨w7, hwA⟩ : ∃ wA, w6.alloc (.cells #[.int .i64 0, .int .i64 0] 23) = wA := ⟨_, rfl⟩
        rw [hwA]
        have hb : Below w6.heap.size w6 w7 := by subst hwA; exact bAlloc (bSelf _) _
        have KA : Hid (Blk w7 w6.heap.size #[.int .i64 0, .int .i64 0]) := by subst hwA; exact Blk.new _ _ _
        have KAN := Lib.hid T.out.size
        clear hwA
        have hbd := Lib.hid (hb.mono T.out.size)
        replace T := Lib.hid (bThen T.out hb)
        try replace HA := Lib.hid (HA.out.to hb)
        refine ⟨hbd.out, ?_⟩
        clear hbd hb
        refine WT_one 4 rfl (by kernel_rfl) ?_
        unfold stepT
        go_wp2_with fail
        refine (HERR.out _ _ _ HA.out).mono ?_
        rintro e w8 ⟨rfl, hb⟩
        have hbd := Lib.hid (hb.mono T.out.size)
        replace T := Lib.hid (bThen T.out hb)
        try replace KA := Lib.hid (KA.out.to hb)
        clear hb
        go_wp2_with fail
        refine ⟨hbd.out, ?_⟩
        clear hbd
        refine WT_yes 5 rfl (by kernel_rfl) (fun _ _ _ _ _ h => h) (by rfl) ?_; apply Exists.intro; refine ⟨fun w1 hb1 => ?_, ?_⟩; (focus ((skip; have hb1 := Lib.hid hb1; go_simp); (try (go_bits; try go_simp)); (try (rw [if_pos (by omega)]; try go_simp)); (first | done | (fail) | (with_reducible rfl) | exact rfl)))
        simp only [Act.put, List.setIfInBounds_toArray, List.set_cons_zero, List.set_cons_succ]
        refine WT_yes 6 rfl (by kernel_rfl) (fun _ _ _ _ _ h => h) (by rfl) ?_; apply Exists.intro; refine ⟨fun w1 hb1 => ?_, ?_⟩; (focus ((skip; have hb1 := Lib.hid hb1; go_simp); (try (go_bits; try go_simp)); (try (rw [if_pos (by omega)]; try go_simp)); (first | done | (fail) | (with_reducible rfl) | exact rfl)))
        simp only [Act.put, List.setIfInBounds_toArray, List.set_cons_zero, List.set_cons_succ]
        refine WT_yes 7 rfl (by kernel_rfl) (fun _ _ _ _ _ h => h) (by rfl) ?_; apply Exists.intro; refine ⟨fun w1 hb1 => ?_, ?_⟩; (focus ((skip; have hb1 := Lib.hid hb1; go_simp); (try (go_bits; try go_simp)); (try (rw [if_pos (by omega)]; try go_simp)); (first | done | (fail) | (with_reducible rfl) | exact rfl)))
        simp only [Act.put, List.setIfInBounds_toArray, List.set_cons_zero, List.set_cons_succ]
        refine WT_one 9 rfl (by kernel_rfl) ?_
        unfold stepT
        obtain ⟨hka, ka, fa⟩ := KA.out
        go_wp2_with fail
        clear ka fa
        refine ⟨((Below.refl _ _).setCell (p := ⟨_, 0, none⟩) KAN.out _).setCell (p := ⟨_, 1, none⟩) KAN.out _, ?_⟩
        refine WT_yes 10 rfl (by kernel_rfl) (fun _ _ _ _ _ h => h) (by rfl) ?_; apply Exists.intro; refine ⟨fun w1 hb1 => ?_, ?_⟩; (focus ((skip; have hb1 := Lib.hid hb1; go_simp); (try (go_bits; try go_simp)); (try (rw [if_pos (by omega)]; try go_simp)); (first | done | (fail) | (with_reducible rfl) | exact rfl)))
        simp only [Act.put, List.setIfInBounds_toArray, List.set_cons_zero, List.set_cons_succ]
        refine WT_done (by kernel_rfl) ?_
        go_wp2_with fail
        go_meet
        case rel => exact ⟨_, rfl, rfl, Lib.hid ((KA.out.set 0 (.int .i64 lo)).set 1 (.int .i64 hi)), Lib.hid ((T.out.setCell (p := ⟨_, 0, none⟩) KAN.out _).setCell (p := ⟨_, 1, none⟩) KAN.out _), KAN⟩
    · skip
      unfold stepT
      go_wp2_with fail
      obtain ⟨w6, hwA⟩ : ∃ wA, w5.alloc (.cells #[.int .i64 0, .int .i64 0] 23) = wA := ⟨_, rfl⟩
      rw [hwA]
      have hb : Below w5.heap.size w5 w6 := by subst hwA; exact bAlloc (bSelf _) _
      have KA : Hid (Blk w6 w5.heap.size #[.int .i64 0, .int .i64 0]) := by subst hwA; exact Blk.new _ _ _
      have KAN := Lib.hid T.out.size
      clear hwA
      have hbd := Lib.hid (hb.mono T.out.size)
      replace T := Lib.hid (bThen T.out hb)
      try replace HA := Lib.hid (HA.out.to hb)
      refine ⟨hbd.out, ?_⟩
      clear hbd hb
      refine WT_one 2 rfl (by kernel_rfl) ?_
      unfold stepT
      go_wp2_with fail
      refine (HCP.out _ (HR.out.to T.out)).mono ?_
      rintro e w7 ⟨a3, c3, rfl, -, hr3, hb, -⟩
      have HA := Lib.hid hr3
      clear hr3
      have hbd := Lib.hid (hb.mono T.out.size)
      replace T := Lib.hid (bThen T.out hb)
      try replace KA := Lib.hid (KA.out.to hb)
      clear hb
      go_wp2_with fail
      refine ⟨hbd.out, ?_⟩
      clear hbd
      refine WT_one 4 rfl (by kernel_rfl) ?_
      unfold stepT
      go_wp2_with fail
      refine (HERR.out _ _ _ HA.out).mono ?_
      rintro e w8 ⟨rfl, hb⟩
      have hbd := Lib.hid (hb.mono T.out.size)
      replace T := Lib.hid (bThen T.out hb)
      try replace KA := Lib.hid (KA.out.to hb)
      clear hb
      go_wp2_with fail
      refine ⟨hbd.out, ?_⟩
      clear hbd
      refine WT_yes 5 rfl (by kernel_rfl) (fun _ _ _ _ _ h => h) (by rfl) ?_; apply Exists.intro; refine ⟨fun w1 hb1 => ?_, ?_⟩; (focus ((skip; have hb1 := Lib.hid hb1; go_simp); (try (go_bits; try go_simp)); (try (rw [if_pos (by omega)]; try go_simp)); (first | done | (fail) | (with_reducible rfl) | exact rfl)))
      simp only [Act.put, List.setIfInBounds_toArray, List.set_cons_zero, List.set_cons_succ]
      refine WT_yes 6 rfl (by kernel_rfl) (fun _ _ _ _ _ h => h) (by rfl) ?_; apply Exists.intro; refine ⟨fun w1 hb1 => ?_, ?_⟩; (focus ((skip; have hb1 := Lib.hid hb1; go_simp); (try (go_bits; try go_simp)); (try (rw [if_pos (by omega)]; try go_simp)); (first | done | (fail) | (with_reducible rfl) | exact rfl)))
      simp only [Act.put, List.setIfInBounds_toArray, List.set_cons_zero, List.set_cons_succ]
      refine WT_yes 7 rfl (by kernel_rfl) (fun _ _ _ _ _ h => h) (by rfl) ?_; apply Exists.intro; refine ⟨fun w1 hb1 => ?_, ?_⟩; (focus ((skip; have hb1 := Lib.hid hb1; go_simp); (try (go_bits; try go_simp)); (try (rw [if_pos (by omega)]; try go_simp)); (first | done | (fail) | (with_reducible rfl) | exact rfl)))
      simp only [Act.put, List.setIfInBounds_toArray, List.set_cons_zero, List.set_cons_succ]
      refine WT_one 9 rfl (by kernel_rfl) ?_
      unfold stepT
      obtain ⟨hka, ka, fa⟩ := KA.out
      go_wp2_with fail
      clear ka fa
      refine ⟨((Below.refl _ _).setCell (p := ⟨_, 0, none⟩) KAN.out _).setCell (p := ⟨_, 1, none⟩) KAN.out _, ?_⟩
      refine WT_yes 10 rfl (by kernel_rfl) (fun _ _ _ _ _ h => h) (by rfl) ?_; apply Exists.intro; refine ⟨fun w1 hb1 => ?_, ?_⟩; (focus ((skip; have hb1 := Lib.hid hb1; go_simp); (try (go_bits; try go_simp)); (try (rw [if_pos (by omega)]; try go_simp)); (first | done | (fail) | (with_reducible rfl) | exact rfl)))
      simp only [Act.put, List.setIfInBounds_toArray, List.set_cons_zero, List.set_cons_succ]
      refine WT_done (by kernel_rfl) ?_
      go_wp2_with fail
      go_meet
      case rel => exact ⟨_, rfl, rfl, Lib.hid ((KA.out.set 0 (.int .i64 lo)).set 1 (.int .i64 hi)), Lib.hid ((T.out.setCell (p := ⟨_, 0, none⟩) KAN.out _).setCell (p := ⟨_, 1, none⟩) KAN.out _), KAN⟩
  case rest =>
    obtain ⟨B, rfl, rfl, KA, T, hBN⟩ := hcut
    replace K0 := Lib.hid (K0.out.to T.out)
    replace HB := Lib.hid (bThen HB.out T.out)
    replace HR := Lib.hid (HR.out.to T.out)
    replace HRR := Lib.hid (HRR.out.to T.out)
    have hBw : w.heap.size < B := by have := hBN.out; omega
    clear T hBN
    obtain ⟨-, k0, -⟩ := K0.out
    go_wp2_with fail
    refine (HTE.out _).mono ?_
    rintro e w5 ⟨rfl, hb⟩
    replace K0 := Lib.hid (K0.out.to hb)
    replace HR := Lib.hid (HR.out.to hb)
    replace HRR := Lib.hid (HRR.out.to hb)
    replace KA := Lib.hid (KA.out.to hb)
    replace HB := Lib.hid (bThen HB.out hb)
    clear hb k0
    obtain ⟨-, k0, -⟩ := K0.out
    go_wp2_with fail
    refine (HF.out _ HR.out).mono ?_
    rintro e w6 ⟨rfl, hb⟩
    replace K0 := Lib.hid (K0.out.to hb)
    replace HR := Lib.hid (HR.out.to hb)
    replace HRR := Lib.hid (HRR.out.to hb)
    replace KA := Lib.hid (KA.out.to hb)
    replace HB := Lib.hid (bThen HB.out hb)
    clear hb k0
    obtain ⟨-, k0, -⟩ := K0.out
    go_wp2_with fail
    refine (HREF.out _ HR.out).mono ?_
    rintro e w7 ⟨aq, cq, rfl, hrq, hb⟩
    replace K0 := Lib.hid (K0.out.to hb)
    replace HR := Lib.hid (HR.out.to hb)
    replace HRR := Lib.hid (HRR.out.to hb)
    replace KA := Lib.hid (KA.out.to hb)
    replace HB := Lib.hid (bThen HB.out hb)
    clear hb k0
    go_wp2_with fail
    refine (Ints_any rl rl _ _ _ _ _ (by unfold maxLen; omega) HRR.out hrq).mono ?_
    rintro e w8 ⟨rfl, hb⟩
    replace K0 := Lib.hid (K0.out.to hb)
    replace HR := Lib.hid (HR.out.to hb)
    replace KA := Lib.hid (KA.out.to hb)
    replace HB := Lib.hid (bThen HB.out hb)
    clear hb hrq
    rw [decide_eq_true (Eq.refl _)]
    go_wp2_with fail
    refine (HOFF.out _).mono ?_
    rintro e w9 ⟨rfl, rfl⟩
    rcases hv with ⟨rfl, rfl⟩ | ⟨ho, he⟩
    · have HIN' := HIN rfl
      have hK0 := K0.out.1
      have hKA := KA.out.1
      go_wp2_with fail
      refine wp_region_mix [7] (by kernel_rfl) (by kernel_rfl) (fun _ _ _ _ _ h => h) (fun wa hwd => ?_)
      have T := Lib.hid hwd
      clear hwd
      repeat (first | (refine WM_no (by rfl) (by rfl) ?_; (simp only [Act.put, List.setIfInBounds_toArray, List.set_cons_zero, List.set_cons_succ])) | (refine WM_yes (by rfl) (by rfl) ?_; apply Exists.intro; refine ⟨fun w1 hb1 => ?_, ?_⟩; (focus (((obtain ⟨-, k0, -⟩ := (K0.out.to T.out).below hb1 hK0; obtain ⟨-, k1, -⟩ := (KA.out.to T.out).below hb1 hKA); have hb1 := Lib.hid hb1; go_simp); (try (go_bits; try go_simp)); (try (rw [if_pos (by omega)]; try go_simp)); (first | done | (fail) | (with_reducible rfl) | exact rfl))); (simp only [Act.put, List.setIfInBounds_toArray, List.set_cons_zero, List.set_cons_succ])))
      refine WM_x (by rfl) ?_
      go_wp2_with fail
      refine (HIN'.out _ (HR.out.to T.out)).mono ?_
      rintro e wb ⟨rfl, hb⟩
      have hbd := Lib.hid (hb.mono T.out.size)
      replace T := Lib.hid (bThen T.out hb)
      clear hb
      go_wp2_with fail
      refine ⟨hbd.out, ?_⟩
      clear hbd
      repeat (first | (refine WM_no (by rfl) (by rfl) ?_; (simp only [Act.put, List.setIfInBounds_toArray, List.set_cons_zero, List.set_cons_succ])) | (refine WM_yes (by rfl) (by rfl) ?_; apply Exists.intro; refine ⟨fun w1 hb1 => ?_, ?_⟩; (focus ((skip; have hb1 := Lib.hid hb1; go_simp); (try (go_bits; try go_simp)); (try (rw [if_pos (by omega)]; try go_simp)); (first | done | (fail) | (with_reducible rfl) | exact rfl))); (simp only [Act.put, List.setIfInBounds_toArray, List.set_cons_zero, List.set_cons_succ])))
      refine WM_nil ?_
      go_wp2_with fail
      go_ret
      exact ⟨rfl, bThen HB.out T.out⟩
    · cases he
      have hob : (oe == 0) = false := by simpa using ho
      have hob2 : (oe != 0) = true := by simpa using ho
      have hoo : (oe == oe) = true := by simp
      obtain ⟨-, ka, -⟩ := KA.out
      go_wp2_with fail
      go_ret
      exact ⟨rfl, HB.out⟩

theorem HybridRuns_any (x : HT) (zs : List Int) (a : Option Addr) (cap : Nat) (off : Int) (w : World) (hlen : zs.length ≤ maxLen) (hr : Reads w a zs.length (ints zs)) :
    Calls Try.prog 3 #[.agg x.cells, .slice a zs.length cap, .int .i64 off] w fun e w' => e = .returned (.bool true) ∧ Below w.heap.size w w' := by
  by_cases hfew : zs.length ≤ 62
  · by_cases hE : runE x zs = 0
    · exact HybridRuns_good x zs a cap off w hfew hr hE
    · exact HybridRuns_bad x zs a cap off w hfew hr hE
  · unfold maxLen at hlen
    clear hr
    go_enter Try.func3, Try.ntmps3
    go_wp2_with fail
    refine (awake_any _).mono ?_
    rintro e w1 ⟨rfl, hb⟩
    have HB := Lib.hid (bThen (bAlloc (bSelf w) (.cells x.cells 25)) hb)
    clear hb
    go_wp2_with fail
    go_ret
    exact ⟨rfl, HB.out⟩

end Go.Proofs.Ytjieojkfpoiabaa
