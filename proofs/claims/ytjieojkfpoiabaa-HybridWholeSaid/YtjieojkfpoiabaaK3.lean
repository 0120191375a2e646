/-
  The statement HybridWhole: the walk where all is valid.
-/
import Derived.Test.YtjieojkfpoiabaaK1
import Derived.Test.YtjieojkfpoiabaaK2
import Derived.Test.YtjieojkfpoiabaaC1
namespace Go.Proofs.Ytjieojkfpoiabaa
open Go.RowKit

set_option maxHeartbeats 8000000 in
set_option maxRecDepth 100000 in
theorem HybridWhole_good (x : HT) (zs : List Int) (a : Option Addr) (cap : Nat) (off : Int) (w : World) (hx : x.ok) (hfew : zs.length ≤ 40) (hF : forcesE x zs = 0) (ho1 : 0 ≤ off) (ho2 : off ≤ 1000) (hcap : zs.length ≤ cap) (hr : Reads w a zs.length (ints zs)) :
    Calls Try.prog 4 #[.agg x.cells, .slice a zs.length cap, .int .i64 off] w fun e w' => e = .returned (.bool true) ∧ Below w.heap.size w w' := by
  have HR0 := Lib.hid hr
  clear hr
  have hz : ∀ k, k < zs.length → -1000 ≤ gi zs k ∧ gi zs k ≤ 1000 := fun k hk => by have := (forcesE_zero hF).2 k hk; have := hx.lo1; have := hx.hi2; omega
  have hEs : runE x.still zs = 0 := runE_of hx.still hF
  have hEx : runE x zs = 0 := runE_of hx hF
  have hEh : runE x (zs.take (zs.length / 2)) = 0 := runE_of hx (forcesE_take hF _)
  have hlh : (zs.take (zs.length / 2)).length = zs.length / 2 := by rw [List.length_take]; omega
  have HCP := Lib.hid (fun (W : World) h => CopyInts_any zs a cap W (by omega) h)
  have HCPH := Lib.hid (fun (W : World) (cap : Nat) h => CopyInts_any (zs.take (zs.length / 2)) a cap W (by omega) h)
  have HTE := Lib.hid (fun (W : World) => TestErr_any x W)
  rw [testE_of_ok hx] at HTE
  have HFE := Lib.hid (fun (W : World) h => ForcesErr_any x zs a cap W (by unfold maxLen; omega) h)
  rw [hF] at HFE
  have HOF := Lib.hid (fun (W : World) => OffErr_any off W)
  have hoff : offE off = 0 := by unfold offE; rw [decide_eq_true ho1, decide_eq_true ho2]; rfl
  rw [hoff] at HOF
  have HR1 := Lib.hid (fun (a : Option Addr) (cap : Nat) (W : World) h => RunOf_ok x.still zs a cap W (by unfold maxLen; omega) h hEs)
  have HR3 := Lib.hid (fun (a : Option Addr) (cap : Nat) (W : World) h => RunOf_cap x zs a cap W (by unfold maxLen; omega) h hEx)
  have HR4 := Lib.hid (fun (a : Option Addr) (cap : Nat) (W : World) h => RunOf_ok x (zs.take (zs.length / 2)) a cap W (by rw [hlh]; unfold maxLen; omega) h hEh)
  unfold RunCap at HR3
  rw [hlh] at HCPH HR4
  have HWO := Lib.hid (fun (W : World) => WholeOf_any x.still W)
  have HWC : Hid ((wholeE x.still = 8 ∧ whZ x.still = ht0) ∨ (wholeE x.still = 0 ∧ whZ x.still = x.still.whole ∧ ∀ (a : Option Addr) (cap : Nat) (W : World), Reads W a zs.length (ints zs) → Calls Try.prog 11 #[.agg x.still.whole.cells, .slice a zs.length cap] W fun e w' => ∃ a' cap', e = .returned (.tuple #[.slice a' (runL x.still zs).length cap', .int .i64 0]) ∧ Reads w' a' (runL x.still zs).length (ints (runL x.still zs)) ∧ Below W.heap.size W w')) := Lib.hid (by
    by_cases hl : x.c + x.s ≤ 1000
    · have h0 : wholeE x.still = 0 := wholeE_ok (testE_of_ok hx.still) hl
      refine .inr ⟨h0, if_pos h0, fun a cap W h => ?_⟩
      have := RunOf_ok x.still.whole zs a cap W (by unfold maxLen; omega) h (runE_of (hx.wholeS hl) hF)
      rw [runL_whole] at this
      exact this
    · have h0 : wholeE x.still = 8 := wholeE_large (testE_of_ok hx.still) (by show 1000 < x.c + x.s; omega)
      exact .inl ⟨h0, if_neg (by rw [h0]; decide)⟩)
  have e0 : errV x.still zs 0 = (0, 0, 0) := by
    unfold errV
    rw [if_pos (by rfl), sumE_zero (stepErr_still x), sumE_zero stepWide_zero]; rfl
  have HE1 := Lib.hid (fun (a : Option Addr) (cap : Nat) (W : World) h => ErrorOf_v x.still zs a cap 0 W (by unfold maxLen; omega) h hEs)
  rw [e0] at HE1
  have HE2 := Lib.hid (fun (a : Option Addr) (cap : Nat) (W : World) h => ErrorOf_v x zs a cap 0 W (by unfold maxLen; omega) h hEx)
  have HE3 := Lib.hid (fun (a : Option Addr) (cap : Nat) (W : World) h => ErrorOf_v x zs a cap off W (by unfold maxLen; omega) h hEx)
  obtain ⟨S, hS⟩ : ∃ S, sumE (stepErr x) (stepsL x [0, 0, 0, 0] zs) = S := ⟨_, rfl⟩
  have hSb : -1000000000000 ≤ S ∧ S ≤ 1000000000000 := by
    have h1 := sum_bd (stepsL x [0, 0, 0, 0] zs) (f := stepErr x) (B := 18000 * 200003) (fun s hs => stepErr_bd hx (stepsL_ok x hx zs 0 0 0 0 (by constructor <;> decide) hz s hs))
    have h2 := stepsL_len x zs [0, 0, 0, 0]
    rw [hS] at h1
    omega
  have e1 : errV x zs 0 = (S, S, 0) := by
    unfold errV
    rw [if_pos (by rfl), sumE_zero stepWide_zero, hS]; simp
  have e2 : errV x zs off = (S - off * waysV (runL x zs) ((runL x zs).length - 1), S + off * waysV (runL x zs) ((runL x zs).length - 1), 0) := by
    unfold errV
    rw [if_pos hoff, sumE_ways_all hx hz off, hS]
  rw [e1] at HE2
  rw [e2] at HE3
  have HIN := Lib.hid (fun (zs ys : List Int) (a b : Option Addr) (ca cb : Nat) (W : World) (h : zs.length ≤ 100) ha hb => Ints_any zs ys a b ca cb W (by unfold maxLen; omega) ha hb)
  have HWK : Hid (∀ k, k + 1 < (runL x.still zs).length → WholeK x zs (runL x.still zs) k) := Lib.hid (fun k hk => wholeK_of hx hz hk)
  have hrl : 1 ≤ (runL x.still zs).length ∧ (runL x.still zs).length ≤ zs.length + 1 := by
    have := stepsL_len x.still zs [0, 0, 0, 0]
    unfold runL; simp; exact this
  have hr0 : gi (runL x.still zs) 0 = 0 := rfl
  have HWY : Hid (∀ k, k + 1 < (runL x zs).length → WayK (runL x zs) k) := Lib.hid (fun k hk => wayK_of hx hz hk)
  have hol : 1 ≤ (runL x zs).length ∧ (runL x zs).length ≤ zs.length + 1 := by
    have := stepsL_len x zs [0, 0, 0, 0]
    unfold runL; simp; exact this
  have HHF : Hid (runL x (zs.take (zs.length / 2)) = (runL x zs).take (runL x (zs.take (zs.length / 2))).length) := Lib.hid (by
    rw [runL_take]; exact take_own _)
  have hhl : (runL x (zs.take (zs.length / 2))).length ≤ (runL x zs).length := by
    rw [runL_take, List.length_take]; omega
  have HTK : Hid (∀ (W : World) (a : Option Addr), Reads W a zs.length (ints zs) → Reads W a (zs.length / 2) (ints (zs.take (zs.length / 2)))) := Lib.hid (fun W a h => by
    have := Reads.take h (zs.length / 2)
    rw [hlh] at this
    exact this)
  have HIN2 : Hid (∀ (b c : Option Addr) (cb cc : Nat) (W : World), Reads W b (runL x (zs.take (zs.length / 2))).length (ints (runL x (zs.take (zs.length / 2)))) → Reads W c (runL x zs).length (ints (runL x zs)) →
      Calls Try.prog 16 #[.slice b (runL x (zs.take (zs.length / 2))).length cb, .slice c (runL x (zs.take (zs.length / 2))).length cc] W fun e w' => e = .returned (.bool true) ∧ Below W.heap.size W w') := Lib.hid (fun b c cb cc W h1 h2 => by
    have h3 := Reads.take h2 (runL x (zs.take (zs.length / 2))).length
    rw [← HHF.out] at h3
    have h4 := Ints_any _ _ b c cb cc W (by unfold maxLen; omega) h1 h3
    rw [show decide (runL x (zs.take (zs.length / 2)) = runL x (zs.take (zs.length / 2))) = true from by simp] at h4
    exact h4)
  have HWB : Hid (∀ k, k + 1 ≤ (runL x zs).length → 0 ≤ waysV (runL x zs) k ∧ waysV (runL x zs) k ≤ 200003 * k) := Lib.hid (fun k hk => waysV_bd HWY.out k hk)
  have HX := Lib.hid hx
  have HZ := Lib.hid hz
  obtain ⟨hrl1, hrl2⟩ := hrl
  obtain ⟨hol1, hol2⟩ := hol
  obtain ⟨hS1, hS2⟩ := hSb
  obtain ⟨r, hrE⟩ : ∃ r, runL x.still zs = r := ⟨_, rfl⟩
  obtain ⟨own, hoE⟩ : ∃ r, runL x zs = r := ⟨_, rfl⟩
  obtain ⟨half, hhE⟩ : ∃ r, runL x (zs.take (zs.length / 2)) = r := ⟨_, rfl⟩
  rw [hrE] at HR1 HWC HWK hrl1 hrl2 hr0
  rw [hoE] at HR3 HE3 HWY HHF hol1 hol2 hhl HIN2 HWB
  rw [hhE] at HR4 HHF hhl HIN2
  obtain ⟨zh, hzh⟩ : ∃ zh, zs.take (zs.length / 2) = zh := ⟨_, rfl⟩
  obtain ⟨hn, hhn⟩ : ∃ hn, zs.length / 2 = hn := ⟨_, rfl⟩
  rw [hzh, hhn] at HTK HCPH HR4
  have hquo : (zs.length : Int) / 2 = (hn : Int) := by omega
  have hhn2 : hn ≤ cap := by omega
  have HQUO := Lib.hid hquo
  obtain ⟨WE, hWE⟩ : ∃ v, waysV own (own.length - 1) = v := ⟨_, rfl⟩
  rw [hWE] at HE3
  have hWEb := HWB.out (own.length - 1) (by omega)
  rw [hWE] at hWEb
  have HWE2 := Lib.hid hWE
  obtain ⟨hWE1, hWE2'⟩ := hWEb
  have hWE2 : WE ≤ 200003 * 40 := by omega
  obtain ⟨wk, hwk⟩ : ∃ wk, wholeE x.still = wk := ⟨_, rfl⟩
  obtain ⟨WA, hWA⟩ : ∃ WA, whZ x.still = WA := ⟨_, rfl⟩
  rw [hwk, hWA] at HWO HWC
  dsimp only at HE1 HE2 HE3
  clear e0 e1 e2 hS hrE hoE hhE hwk hWA hEs hEx hEh hF hoff hx hz hzh hhn hlh hquo hWE hWE2'
  go_enter Try.func4, Try.ntmps4
  go_wp2_with fail
  refine (awake_any _).mono ?_
  rintro e w1 ⟨rfl, hb⟩
  have K0 := Lib.hid ((Blk.new w x.cells 25).to hb)
  have HB := Lib.hid (bThen (bAlloc (bSelf w) (.cells x.cells 25)) hb)
  have HR := Lib.hid ((HR0.out.alloc (.cells x.cells 25)).to hb)
  clear hb
  have hf1 : decide ((40 : Int) < (zs.length : Int)) = false := decide_eq_false (by omega)
  obtain ⟨-, k0, -⟩ := K0.out
  go_wp2_with fail
  refine (HTE.out _).mono ?_
  rintro e w2 ⟨rfl, hb⟩
  replace K0 := Lib.hid (K0.out.to hb)
  replace HB := Lib.hid (bThen HB.out hb)
  replace HR := Lib.hid (HR.out.to hb)
  clear hb k0
  obtain ⟨-, k0, -⟩ := K0.out
  go_wp2_with fail
  refine (HFE.out _ HR.out).mono ?_
  rintro e w3 ⟨rfl, hb⟩
  replace K0 := Lib.hid (K0.out.to hb)
  replace HB := Lib.hid (bThen HB.out hb)
  replace HR := Lib.hid (HR.out.to hb)
  clear hb k0 hf1
  obtain ⟨hK0, k0, -⟩ := K0.out
  go_upto_region 7 with (go_at_call 18; refine (HOF.out _).mono ?_; rintro e w' ⟨rfl, rfl⟩)
  obtain ⟨w4, hw4⟩ : ∃ w4, w3.alloc (.cells x.still.cells 25) = w4 := ⟨_, rfl⟩
  rw [hw4]
  have hb : Below w3.heap.size w3 w4 := by subst hw4; exact bAlloc (bSelf w3) _
  have KS : Hid (Blk w4 w3.heap.size x.still.cells) := by subst hw4; exact Lib.hid (Blk.new w3 x.still.cells 25)
  clear hw4 k0 hK0
  replace K0 := Lib.hid (K0.out.to hb)
  replace HB := Lib.hid (bThen HB.out hb)
  replace HR := Lib.hid (HR.out.to hb)
  clear hb
  obtain ⟨BS, hBS⟩ : ∃ BS, w3.heap.size = BS := ⟨_, rfl⟩
  rw [hBS] at KS ⊢
  clear hBS
  have hKS := KS.out.1
  refine wp_region_mix [2, 3] (by kernel_rfl) (by kernel_rfl) (fun _ _ _ _ _ h => h) (fun w7d hwd => ?_)
  have T := Lib.hid hwd
  clear hwd
  repeat (first | (refine WM_no (by rfl) (by rfl) ?_; (simp only [Act.put, List.setIfInBounds_toArray, List.set_cons_zero, List.set_cons_succ])) | (refine WM_yes (by rfl) (by rfl) ?_; apply Exists.intro; refine ⟨fun w1 hb1 => ?_, ?_⟩; (focus (((obtain ⟨-, k0, -⟩ := (KS.out.to T.out).below hb1 hKS); have hb1 := Lib.hid hb1; go_simp); (try (go_bits; try go_simp)); (try (rw [if_pos (by omega)]; try go_simp)); (first | done | (fail) | (with_reducible rfl) | exact rfl))); (simp only [Act.put, List.setIfInBounds_toArray, List.set_cons_zero, List.set_cons_succ])))
  refine WM_x (by rfl) ?_
  go_wp2_with fail
  refine (HCP.out _ (HR.out.to T.out)).mono ?_
  rintro e w7e ⟨a3, c3, rfl, -, hr3, hb, -⟩
  have HA := Lib.hid hr3
  have hbd := Lib.hid (hb.mono T.out.size)
  replace T := Lib.hid (bThen T.out hb)
  clear hb hr3
  go_wp2_with fail
  refine ⟨hbd.out, ?_⟩
  clear hbd
  repeat (first | (refine WM_no (by rfl) (by rfl) ?_; (simp only [Act.put, List.setIfInBounds_toArray, List.set_cons_zero, List.set_cons_succ])) | (refine WM_yes (by rfl) (by rfl) ?_; apply Exists.intro; refine ⟨fun w1 hb1 => ?_, ?_⟩; (focus (((obtain ⟨-, k0, -⟩ := (KS.out.to T.out).below hb1 hKS); have hb1 := Lib.hid hb1; go_simp); (try (go_bits; try go_simp)); (try (rw [if_pos (by omega)]; try go_simp)); (first | done | (fail) | (with_reducible rfl) | exact rfl))); (simp only [Act.put, List.setIfInBounds_toArray, List.set_cons_zero, List.set_cons_succ])))
  refine WM_x (by rfl) ?_
  go_wp2_with fail
  refine (HR1.out _ _ _ HA.out).mono ?_
  rintro e w7f ⟨aR, cR, rfl, hrR, hb⟩
  have hbd := Lib.hid (hb.mono T.out.size)
  replace T := Lib.hid (bThen T.out hb)
  have HRR := Lib.hid hrR
  clear hrR
  clear hb HA
  go_wp2_with fail
  refine ⟨hbd.out, ?_⟩
  clear hbd
  repeat (first | (refine WM_no (by rfl) (by rfl) ?_; (simp only [Act.put, List.setIfInBounds_toArray, List.set_cons_zero, List.set_cons_succ])) | (refine WM_yes (by rfl) (by rfl) ?_; apply Exists.intro; refine ⟨fun w1 hb1 => ?_, ?_⟩; (focus ((skip; have hb1 := Lib.hid hb1; go_simp); (try (go_bits; try go_simp)); (try (rw [if_pos (by omega)]; try go_simp)); (first | done | (fail) | (with_reducible rfl) | exact rfl))); (simp only [Act.put, List.setIfInBounds_toArray, List.set_cons_zero, List.set_cons_succ])))
  refine WM_nil ?_
  replace K0 := Lib.hid (K0.out.to T.out)
  replace KS := Lib.hid (KS.out.to T.out)
  replace HR := Lib.hid (HR.out.to T.out)
  replace HB := Lib.hid (bThen HB.out T.out)
  clear T hKS
  obtain ⟨bR, oR, rfl, hbR, hcR⟩ := HRR.out.at (k := 0) (by omega)
  have c0 : w7f.cell? ⟨bR, oR, none⟩ = some (.int .i64 0) := by
    have := hcR 0 (by omega)
    unfold ints at this
    rw [hr0] at this
    exact this
  have hq1 : ((r.length : Int) == 0) = false := beq_false_of_ne (by omega)
  have hq2 : decide ((zs.length : Int) + 1 < (r.length : Int)) = false := decide_eq_false (by omega)
  clear hcR hbR
  obtain ⟨-, ks, -⟩ := KS.out
  go_wp2_with fail
  refine (HWO.out _).mono ?_
  rintro e w8 ⟨rfl, hb⟩
  replace K0 := Lib.hid (K0.out.to hb)
  replace KS := Lib.hid (KS.out.to hb)
  replace HR := Lib.hid (HR.out.to hb)
  replace HRR := Lib.hid (HRR.out.to hb)
  replace HB := Lib.hid (bThen HB.out hb)
  clear hb c0 hq1 hq2 ks
  go_upto_region 11 with (fail)
  obtain ⟨w9, hw9⟩ : ∃ w9, w8.alloc (.cells WA.cells 25) = w9 := ⟨_, rfl⟩
  rw [hw9]
  have hb : Below w8.heap.size w8 w9 := by subst hw9; exact bAlloc (bSelf w8) _
  have KW : Hid (Blk w9 w8.heap.size WA.cells) := by subst hw9; exact Lib.hid (Blk.new w8 WA.cells 25)
  clear hw9
  replace K0 := Lib.hid (K0.out.to hb)
  replace KS := Lib.hid (KS.out.to hb)
  replace HR := Lib.hid (HR.out.to hb)
  replace HRR := Lib.hid (HRR.out.to hb)
  replace HB := Lib.hid (bThen HB.out hb)
  clear hb
  obtain ⟨BW, hBW⟩ : ∃ BW, w8.heap.size = BW := ⟨_, rfl⟩
  rw [hBW] at KW ⊢
  clear hBW
  go_upto_if 88 with (fail)
  go_cut [12] (fun s12 wc => Hid (Below w9.heap.size w9 wc))
  case first =>
    as_aux_lemma =>
      rcases HWC.out with ⟨rfl, rfl⟩ | ⟨rfl, rfl, HR2⟩
      · go_wp2_with fail
        go_meet
        case rel => exact Lib.hid (bSelf _)
      · replace HR2 := Lib.hid HR2
        go_wp2_with fail
        have hKW := KW.out.1
        refine wp_region_mix [2, 3] (by kernel_rfl) (by kernel_rfl) (fun _ _ _ _ _ h => h) (fun wvd hwd => ?_)
        have T := Lib.hid hwd
        clear hwd
        repeat (first | (refine WM_no (by rfl) (by rfl) ?_; (simp only [Act.put, List.setIfInBounds_toArray, List.set_cons_zero, List.set_cons_succ])) | (refine WM_yes (by rfl) (by rfl) ?_; apply Exists.intro; refine ⟨fun w1 hb1 => ?_, ?_⟩; (focus (((obtain ⟨-, k0, -⟩ := (KW.out.to T.out).below hb1 hKW); have hb1 := Lib.hid hb1; go_simp); (try (go_bits; try go_simp)); (try (rw [if_pos (by omega)]; try go_simp)); (first | done | (fail) | (with_reducible rfl) | exact rfl))); (simp only [Act.put, List.setIfInBounds_toArray, List.set_cons_zero, List.set_cons_succ])))
        refine WM_x (by rfl) ?_
        go_wp2_with fail
        refine (HCP.out _ (HR.out.to T.out)).mono ?_
        rintro e wve ⟨a3, c3, rfl, -, hr3, hb, -⟩
        have HA := Lib.hid hr3
        have hbd := Lib.hid (hb.mono T.out.size)
        replace T := Lib.hid (bThen T.out hb)
        clear hb hr3
        go_wp2_with fail
        refine ⟨hbd.out, ?_⟩
        clear hbd
        repeat (first | (refine WM_no (by rfl) (by rfl) ?_; (simp only [Act.put, List.setIfInBounds_toArray, List.set_cons_zero, List.set_cons_succ])) | (refine WM_yes (by rfl) (by rfl) ?_; apply Exists.intro; refine ⟨fun w1 hb1 => ?_, ?_⟩; (focus (((obtain ⟨-, k0, -⟩ := (KW.out.to T.out).below hb1 hKW); have hb1 := Lib.hid hb1; go_simp); (try (go_bits; try go_simp)); (try (rw [if_pos (by omega)]; try go_simp)); (first | done | (fail) | (with_reducible rfl) | exact rfl))); (simp only [Act.put, List.setIfInBounds_toArray, List.set_cons_zero, List.set_cons_succ])))
        refine WM_x (by rfl) ?_
        go_wp2_with fail
        refine (HR2.out _ _ _ HA.out).mono ?_
        rintro e wvf ⟨aV, cV, rfl, hrV, hb⟩
        have hbd := Lib.hid (hb.mono T.out.size)
        replace T := Lib.hid (bThen T.out hb)
        have HV := Lib.hid hrV
        clear hrV
        have HT2 := T
        clear hb HA
        go_wp2_with fail
        refine ⟨hbd.out, ?_⟩
        clear hbd
        repeat (first | (refine WM_no (by rfl) (by rfl) ?_; (simp only [Act.put, List.setIfInBounds_toArray, List.set_cons_zero, List.set_cons_succ])) | (refine WM_yes (by rfl) (by rfl) ?_; apply Exists.intro; refine ⟨fun w1 hb1 => ?_, ?_⟩; (focus ((skip; have hb1 := Lib.hid hb1; go_simp); (try (go_bits; try go_simp)); (try (rw [if_pos (by omega)]; try go_simp)); (first | done | (fail) | (with_reducible rfl) | exact rfl))); (simp only [Act.put, List.setIfInBounds_toArray, List.set_cons_zero, List.set_cons_succ])))
        refine WM_nil ?_
        replace K0 := Lib.hid (K0.out.to T.out)
        replace KS := Lib.hid (KS.out.to T.out)
        replace HR := Lib.hid (HR.out.to T.out)
        replace HRR := Lib.hid (HRR.out.to T.out)
        replace HB := Lib.hid (bThen HB.out T.out)
        clear T hKW
        go_wp2_with fail
        refine (HIN.out r r aV (some ⟨bR, oR, none⟩) cV cR _ (by omega) HV.out HRR.out).mono ?_
        rintro e wi ⟨rfl, hb⟩
        rw [show decide (r = r) = true from by simp]
        have HT3 := Lib.hid (bThen HT2.out hb)
        clear hb
        go_wp2_with fail
        go_meet
        case rel => exact HT3
  case rest =>
    have hb := hcut.out
    replace K0 := Lib.hid (K0.out.to hb)
    replace KS := Lib.hid (KS.out.to hb)
    replace HR := Lib.hid (HR.out.to hb)
    replace HRR := Lib.hid (HRR.out.to hb)
    replace HB := Lib.hid (bThen HB.out hb)
    clear hb hcut KW
    obtain ⟨wo, hwo⟩ : ∃ wo, wo = wc := ⟨_, rfl⟩
    subst hwo
    go_upto_region 17 with (fail)
    have hKS := KS.out.1
    go_cut [14, 15] (fun sA sB wc => ∃ B, sA = .pointer (some ⟨B, 0, none⟩) ∧ sB = .int .i64 0 ∧ Hid (Blk wc B #[.int .i64 (0), .int .i64 (0)]) ∧ Hid (Below wo.heap.size wo wc))
    case first =>
      as_aux_lemma =>
        refine wp_region_tree (by kernel_rfl) (fun c1d hwd => ?_)
        have T := Lib.hid hwd
        clear hwd
        refine WT_yes 0 rfl (by kernel_rfl) (fun _ _ _ _ _ h => h) (by rfl) ?_; apply Exists.intro; refine ⟨fun w1 hb1 => ?_, ?_⟩; (focus (((obtain ⟨-, k0, -⟩ := (KS.out.to T.out).below hb1 hKS); have hb1 := Lib.hid hb1; go_simp); (try (go_bits; try go_simp)); (try (rw [if_pos (by omega)]; try go_simp)); (first | done | (fail) | (with_reducible rfl) | exact rfl)))
        simp only [Act.put, List.setIfInBounds_toArray, List.set_cons_zero, List.set_cons_succ]
        refine WT_yes 1 rfl (by kernel_rfl) (fun _ _ _ _ _ h => h) (by rfl) ?_; apply Exists.intro; refine ⟨fun w1 hb1 => ?_, ?_⟩; (focus ((skip; have hb1 := Lib.hid hb1; go_simp); (try (go_bits; try go_simp)); (try (rw [if_pos (by omega)]; try go_simp)); (first | done | (fail) | (with_reducible rfl) | exact rfl)))
        simp only [Act.put, List.setIfInBounds_toArray, List.set_cons_zero, List.set_cons_succ]
        refine WT_two 2 7 rfl rfl (by kernel_rfl) ?_ ?_
        · skip
          unfold stepT
          go_wp2_with fail
          refine (HCP.out _ (HR.out.to T.out)).mono ?_
          rintro e c1e ⟨a3, c3, rfl, -, hr3, hb, -⟩
          have HA := Lib.hid hr3
          clear hr3
          have hbd := Lib.hid (hb.mono T.out.size)
          replace T := Lib.hid (bThen T.out hb)
          try replace KA := Lib.hid (KA.out.to hb)
          clear hb
          go_wp2_with fail
          refine ⟨hbd.out, ?_⟩
          clear hbd
          refine WT_two 3 7 rfl rfl (by kernel_rfl) ?_ ?_
          · skip
            unfold stepT
            go_wp2_with fail
            refine (HE1.out _ _ _ HA.out).mono ?_
            rintro e c1f ⟨rfl, hb⟩
            have hbd := Lib.hid (hb.mono T.out.size)
            replace T := Lib.hid (bThen T.out hb)
            try replace KA := Lib.hid (KA.out.to hb)
            clear hb
            go_wp2_with fail
            refine ⟨hbd.out, ?_⟩
            clear hbd
            refine WT_yes 4 rfl (by kernel_rfl) (fun _ _ _ _ _ h => h) (by rfl) ?_; apply Exists.intro; refine ⟨fun w1 hb1 => ?_, ?_⟩; (focus ((skip; have hb1 := Lib.hid hb1; go_simp); (try (go_bits; try go_simp)); (try (rw [if_pos (by omega)]; try go_simp)); (first | done | (fail) | (with_reducible rfl) | exact rfl)))
            simp only [Act.put, List.setIfInBounds_toArray, List.set_cons_zero, List.set_cons_succ]
            refine WT_yes 5 rfl (by kernel_rfl) (fun _ _ _ _ _ h => h) (by rfl) ?_; apply Exists.intro; refine ⟨fun w1 hb1 => ?_, ?_⟩; (focus ((skip; have hb1 := Lib.hid hb1; go_simp); (try (go_bits; try go_simp)); (try (rw [if_pos (by omega)]; try go_simp)); (first | done | (fail) | (with_reducible rfl) | exact rfl)))
            simp only [Act.put, List.setIfInBounds_toArray, List.set_cons_zero, List.set_cons_succ]
            refine WT_yes 6 rfl (by kernel_rfl) (fun _ _ _ _ _ h => h) (by rfl) ?_; apply Exists.intro; refine ⟨fun w1 hb1 => ?_, ?_⟩; (focus ((skip; have hb1 := Lib.hid hb1; go_simp); (try (go_bits; try go_simp)); (try (rw [if_pos (by omega)]; try go_simp)); (first | done | (fail) | (with_reducible rfl) | exact rfl)))
            simp only [Act.put, List.setIfInBounds_toArray, List.set_cons_zero, List.set_cons_succ]
            refine WT_one 7 rfl (by kernel_rfl) ?_
            unfold stepT
            go_wp2_with fail
            obtain ⟨c1g, hwA⟩ : ∃ wA, c1f.alloc (.cells #[.int .i64 0, .int .i64 0] 23) = wA := ⟨_, rfl⟩
            rw [hwA]
            have hb : Below c1f.heap.size c1f c1g := by subst hwA; exact bAlloc (bSelf _) _
            have KA : Hid (Blk c1g c1f.heap.size #[.int .i64 0, .int .i64 0]) := by subst hwA; exact Blk.new _ _ _
            have KAN := Lib.hid T.out.size
            clear hwA
            have hbd := Lib.hid (hb.mono T.out.size)
            replace T := Lib.hid (bThen T.out hb)
            try replace HA := Lib.hid (HA.out.to hb)
            refine ⟨hbd.out, ?_⟩
            clear hbd hb
            refine WT_one 8 rfl (by kernel_rfl) ?_
            unfold stepT
            obtain ⟨hka, ka, fa⟩ := KA.out
            go_wp2_with fail
            clear ka fa
            refine ⟨((Below.refl _ _).setCell (p := ⟨_, 0, none⟩) KAN.out _).setCell (p := ⟨_, 1, none⟩) KAN.out _, ?_⟩
            refine WT_yes 9 rfl (by kernel_rfl) (fun _ _ _ _ _ h => h) (by rfl) ?_; apply Exists.intro; refine ⟨fun w1 hb1 => ?_, ?_⟩; (focus ((skip; have hb1 := Lib.hid hb1; go_simp); (try (go_bits; try go_simp)); (try (rw [if_pos (by omega)]; try go_simp)); (first | done | (fail) | (with_reducible rfl) | exact rfl)))
            simp only [Act.put, List.setIfInBounds_toArray, List.set_cons_zero, List.set_cons_succ]
            refine WT_done (by kernel_rfl) ?_
            go_wp2_with fail
            go_meet
            case rel => exact ⟨_, rfl, rfl, Lib.hid ((KA.out.set 0 (.int .i64 (0))).set 1 (.int .i64 (0))), Lib.hid ((T.out.setCell (p := ⟨_, 0, none⟩) KAN.out _).setCell (p := ⟨_, 1, none⟩) KAN.out _)⟩
          · skip
            unfold stepT
            go_wp2_with fail
            obtain ⟨c1f, hwA⟩ : ∃ wA, c1e.alloc (.cells #[.int .i64 0, .int .i64 0] 23) = wA := ⟨_, rfl⟩
            rw [hwA]
            have hb : Below c1e.heap.size c1e c1f := by subst hwA; exact bAlloc (bSelf _) _
            have KA : Hid (Blk c1f c1e.heap.size #[.int .i64 0, .int .i64 0]) := by subst hwA; exact Blk.new _ _ _
            have KAN := Lib.hid T.out.size
            clear hwA
            have hbd := Lib.hid (hb.mono T.out.size)
            replace T := Lib.hid (bThen T.out hb)
            try replace HA := Lib.hid (HA.out.to hb)
            refine ⟨hbd.out, ?_⟩
            clear hbd hb
            refine WT_one 3 rfl (by kernel_rfl) ?_
            unfold stepT
            go_wp2_with fail
            refine (HE1.out _ _ _ HA.out).mono ?_
            rintro e c1g ⟨rfl, hb⟩
            have hbd := Lib.hid (hb.mono T.out.size)
            replace T := Lib.hid (bThen T.out hb)
            try replace KA := Lib.hid (KA.out.to hb)
            clear hb
            go_wp2_with fail
            refine ⟨hbd.out, ?_⟩
            clear hbd
            refine WT_yes 4 rfl (by kernel_rfl) (fun _ _ _ _ _ h => h) (by rfl) ?_; apply Exists.intro; refine ⟨fun w1 hb1 => ?_, ?_⟩; (focus ((skip; have hb1 := Lib.hid hb1; go_simp); (try (go_bits; try go_simp)); (try (rw [if_pos (by omega)]; try go_simp)); (first | done | (fail) | (with_reducible rfl) | exact rfl)))
            simp only [Act.put, List.setIfInBounds_toArray, List.set_cons_zero, List.set_cons_succ]
            refine WT_yes 5 rfl (by kernel_rfl) (fun _ _ _ _ _ h => h) (by rfl) ?_; apply Exists.intro; refine ⟨fun w1 hb1 => ?_, ?_⟩; (focus ((skip; have hb1 := Lib.hid hb1; go_simp); (try (go_bits; try go_simp)); (try (rw [if_pos (by omega)]; try go_simp)); (first | done | (fail) | (with_reducible rfl) | exact rfl)))
            simp only [Act.put, List.setIfInBounds_toArray, List.set_cons_zero, List.set_cons_succ]
            refine WT_yes 6 rfl (by kernel_rfl) (fun _ _ _ _ _ h => h) (by rfl) ?_; apply Exists.intro; refine ⟨fun w1 hb1 => ?_, ?_⟩; (focus ((skip; have hb1 := Lib.hid hb1; go_simp); (try (go_bits; try go_simp)); (try (rw [if_pos (by omega)]; try go_simp)); (first | done | (fail) | (with_reducible rfl) | exact rfl)))
            simp only [Act.put, List.setIfInBounds_toArray, List.set_cons_zero, List.set_cons_succ]
            refine WT_one 8 rfl (by kernel_rfl) ?_
            unfold stepT
            obtain ⟨hka, ka, fa⟩ := KA.out
            go_wp2_with fail
            clear ka fa
            refine ⟨((Below.refl _ _).setCell (p := ⟨_, 0, none⟩) KAN.out _).setCell (p := ⟨_, 1, none⟩) KAN.out _, ?_⟩
            refine WT_yes 9 rfl (by kernel_rfl) (fun _ _ _ _ _ h => h) (by rfl) ?_; apply Exists.intro; refine ⟨fun w1 hb1 => ?_, ?_⟩; (focus ((skip; have hb1 := Lib.hid hb1; go_simp); (try (go_bits; try go_simp)); (try (rw [if_pos (by omega)]; try go_simp)); (first | done | (fail) | (with_reducible rfl) | exact rfl)))
            simp only [Act.put, List.setIfInBounds_toArray, List.set_cons_zero, List.set_cons_succ]
            refine WT_done (by kernel_rfl) ?_
            go_wp2_with fail
            go_meet
            case rel => exact ⟨_, rfl, rfl, Lib.hid ((KA.out.set 0 (.int .i64 (0))).set 1 (.int .i64 (0))), Lib.hid ((T.out.setCell (p := ⟨_, 0, none⟩) KAN.out _).setCell (p := ⟨_, 1, none⟩) KAN.out _)⟩
        · skip
          unfold stepT
          go_wp2_with fail
          obtain ⟨c1e, hwA⟩ : ∃ wA, c1d.alloc (.cells #[.int .i64 0, .int .i64 0] 23) = wA := ⟨_, rfl⟩
          rw [hwA]
          have hb : Below c1d.heap.size c1d c1e := by subst hwA; exact bAlloc (bSelf _) _
          have KA : Hid (Blk c1e c1d.heap.size #[.int .i64 0, .int .i64 0]) := by subst hwA; exact Blk.new _ _ _
          have KAN := Lib.hid T.out.size
          clear hwA
          have hbd := Lib.hid (hb.mono T.out.size)
          replace T := Lib.hid (bThen T.out hb)
          try replace HA := Lib.hid (HA.out.to hb)
          refine ⟨hbd.out, ?_⟩
          clear hbd hb
          refine WT_one 2 rfl (by kernel_rfl) ?_
          unfold stepT
          go_wp2_with fail
          refine (HCP.out _ (HR.out.to T.out)).mono ?_
          rintro e c1f ⟨a3, c3, rfl, -, hr3, hb, -⟩
          have HA := Lib.hid hr3
          clear hr3
          have hbd := Lib.hid (hb.mono T.out.size)
          replace T := Lib.hid (bThen T.out hb)
          try replace KA := Lib.hid (KA.out.to hb)
          clear hb
          go_wp2_with fail
          refine ⟨hbd.out, ?_⟩
          clear hbd
          refine WT_one 3 rfl (by kernel_rfl) ?_
          unfold stepT
          go_wp2_with fail
          refine (HE1.out _ _ _ HA.out).mono ?_
          rintro e c1g ⟨rfl, hb⟩
          have hbd := Lib.hid (hb.mono T.out.size)
          replace T := Lib.hid (bThen T.out hb)
          try replace KA := Lib.hid (KA.out.to hb)
          clear hb
          go_wp2_with fail
          refine ⟨hbd.out, ?_⟩
          clear hbd
          refine WT_yes 4 rfl (by kernel_rfl) (fun _ _ _ _ _ h => h) (by rfl) ?_; apply Exists.intro; refine ⟨fun w1 hb1 => ?_, ?_⟩; (focus ((skip; have hb1 := Lib.hid hb1; go_simp); (try (go_bits; try go_simp)); (try (rw [if_pos (by omega)]; try go_simp)); (first | done | (fail) | (with_reducible rfl) | exact rfl)))
          simp only [Act.put, List.setIfInBounds_toArray, List.set_cons_zero, List.set_cons_succ]
          refine WT_yes 5 rfl (by kernel_rfl) (fun _ _ _ _ _ h => h) (by rfl) ?_; apply Exists.intro; refine ⟨fun w1 hb1 => ?_, ?_⟩; (focus ((skip; have hb1 := Lib.hid hb1; go_simp); (try (go_bits; try go_simp)); (try (rw [if_pos (by omega)]; try go_simp)); (first | done | (fail) | (with_reducible rfl) | exact rfl)))
          simp only [Act.put, List.setIfInBounds_toArray, List.set_cons_zero, List.set_cons_succ]
          refine WT_yes 6 rfl (by kernel_rfl) (fun _ _ _ _ _ h => h) (by rfl) ?_; apply Exists.intro; refine ⟨fun w1 hb1 => ?_, ?_⟩; (focus ((skip; have hb1 := Lib.hid hb1; go_simp); (try (go_bits; try go_simp)); (try (rw [if_pos (by omega)]; try go_simp)); (first | done | (fail) | (with_reducible rfl) | exact rfl)))
          simp only [Act.put, List.setIfInBounds_toArray, List.set_cons_zero, List.set_cons_succ]
          refine WT_one 8 rfl (by kernel_rfl) ?_
          unfold stepT
          obtain ⟨hka, ka, fa⟩ := KA.out
          go_wp2_with fail
          clear ka fa
          refine ⟨((Below.refl _ _).setCell (p := ⟨_, 0, none⟩) KAN.out _).setCell (p := ⟨_, 1, none⟩) KAN.out _, ?_⟩
          refine WT_yes 9 rfl (by kernel_rfl) (fun _ _ _ _ _ h => h) (by rfl) ?_; apply Exists.intro; refine ⟨fun w1 hb1 => ?_, ?_⟩; (focus ((skip; have hb1 := Lib.hid hb1; go_simp); (try (go_bits; try go_simp)); (try (rw [if_pos (by omega)]; try go_simp)); (first | done | (fail) | (with_reducible rfl) | exact rfl)))
          simp only [Act.put, List.setIfInBounds_toArray, List.set_cons_zero, List.set_cons_succ]
          refine WT_done (by kernel_rfl) ?_
          go_wp2_with fail
          go_meet
          case rel => exact ⟨_, rfl, rfl, Lib.hid ((KA.out.set 0 (.int .i64 (0))).set 1 (.int .i64 (0))), Lib.hid ((T.out.setCell (p := ⟨_, 0, none⟩) KAN.out _).setCell (p := ⟨_, 1, none⟩) KAN.out _)⟩
    case rest =>
      obtain ⟨BZ, rfl, rfl, KZ, hb⟩ := hcut
      replace K0 := Lib.hid (K0.out.to hb.out)
      replace HR := Lib.hid (HR.out.to hb.out)
      replace HRR := Lib.hid (HRR.out.to hb.out)
      replace HB := Lib.hid (bThen HB.out hb.out)
      clear hb hKS KS
      obtain ⟨-, kz, -⟩ := KZ.out
      go_wp2_with fail
      clear kz KZ
      obtain ⟨wp, hwp⟩ : ∃ wp, wp = wc := ⟨_, rfl⟩
      subst hwp
      go_loopw [16] (fun v wr => ∃ i : Nat, 1 ≤ i ∧ i ≤ r.length ∧ v = .int .i64 i ∧ Hid (Below wp.heap.size wp wr)) (fun v _ => r.length - (intOf v).toNat)
      case atStart => exact ⟨1, Nat.le_refl _, hrl1, rfl, Lib.hid (bSelf _)⟩
      case round =>
        obtain ⟨i, hi1, hi2, rfl, hbel⟩ := hrel
        replace K0 := Lib.hid (K0.out.to hbel.out)
        replace HR := Lib.hid (HR.out.to hbel.out)
        replace HRR := Lib.hid (HRR.out.to hbel.out)
        by_cases hlt : i < r.length
        · skip
          as_aux_lemma =>
            obtain ⟨k, hk⟩ : ∃ k, i = k + 1 := ⟨i - 1, by omega⟩
            have hik : (i : Int) - 1 = (k : Int) := by omega
            have hltI : decide ((i : Int) < (r.length : Int)) = true := decide_eq_true (by omega)
            obtain ⟨⟨v1a, v1b⟩, ⟨bfa, bfb⟩, ⟨v2a, v2b⟩, ⟨rsa, rsb⟩, hinb, hkz⟩ := HWK.out k (by omega)
            obtain ⟨b', o', e', hbR, hcR⟩ := HRR.out.at (k := k) (by omega)
            cases e'
            obtain ⟨bz, oz, rfl, hbz, hcz⟩ := HR.out.at (k := k) hkz
            have hFb := HZ.out k hkz
            have c1 : Hid (wr.cell? ⟨bR, oR + k, none⟩ = some (.int .i64 (gi r k))) := Lib.hid (hcR k (by omega))
            have c2 : Hid (wr.cell? ⟨bR, oR + i, none⟩ = some (.int .i64 (gi r (k + 1)))) := Lib.hid (by rw [← hk]; exact hcR i hlt)
            have c3 : Hid (wr.cell? ⟨bz, oz + k, none⟩ = some (.int .i64 (gi zs k))) := Lib.hid (hcz k hkz)
            have hbf : Hid ((k = 0 ∧ bfV r k = 0) ∨ ∃ j, k = j + 1 ∧ wr.cell? ⟨bR, oR + j, none⟩ = some (.int .i64 (bfV r k))) := Lib.hid (by
              cases k with
              | zero => exact .inl ⟨rfl, rfl⟩
              | succ j =>
                refine .inr ⟨j, rfl, ?_⟩
                have e : bfV r (j + 1) = gi r j := by unfold bfV; rw [if_neg (by omega)]; rfl
                rw [e]; exact hcR j (by omega))
            clear hcR hcz
            obtain ⟨v1, hv1⟩ : ∃ v, gi r k = v := ⟨_, rfl⟩
            obtain ⟨v2, hv2⟩ : ∃ v, gi r (k + 1) = v := ⟨_, rfl⟩
            obtain ⟨F, hFe⟩ : ∃ v, gi zs k = v := ⟨_, rfl⟩
            obtain ⟨bf, hbe⟩ : ∃ v, bfV r k = v := ⟨_, rfl⟩
            rw [hv1] at c1 v1a v1b rsa rsb
            rw [hv2] at c2 v2a v2b rsa rsb hinb
            rw [hFe] at c3 hFb rsa rsb
            rw [hbe] at hbf bfa bfb rsa rsb
            clear hv1 hv2 hFe hbe
            obtain ⟨hF1, hF2⟩ := hFb
            have RS := Lib.hid (And.intro rsa rsb)
            have HIB := Lib.hid hinb
            have HKI := Lib.hid hk
            have HLT := Lib.hid hlt
            have HKZ := Lib.hid hkz
            clear rsa rsb hinb hk hkz
            have hbR2 : bR < wr.heap.size := hbR
            have hbz2 : bz < wr.heap.size := hbz
            go_upto_if 127 with (fail)
            clear hltI hlt
            go_cut [17] (fun s17 wd => s17 = .int .i64 bf ∧ wr = wd)
            case first =>
              rcases hbf.out with ⟨rfl, rfl⟩ | ⟨j, rfl, c4⟩
              · have hgt : decide ((1 : Int) < (i : Int)) = false := decide_eq_false (by have := HKI.out; omega)
                go_wp2_with fail
                go_meet
                case rel => exact ⟨rfl, rfl⟩
              · have hgt : decide ((1 : Int) < (i : Int)) = true := decide_eq_true (by have := HKI.out; omega)
                have hij : (i : Int) - 2 = (j : Int) := by have := HKI.out; omega
                have hjr : j < r.length := by have := HKI.out; have := HLT.out; omega
                go_wp2_with fail
                go_meet
                case rel => exact ⟨rfl, rfl⟩
            case rest =>
              obtain ⟨rfl, rfl⟩ := hcut
              clear hbf
              have HX2 := HX.out
              have m1 := HX2.m1; have m2 := HX2.m2; have xc1 := HX2.c1; have xc2 := HX2.c2; have xs1 := HX2.s1; have xs2 := HX2.s2; have xb1 := HX2.b1; have xb2 := HX2.b2
              have hp := mul_bd (a := x.d) (b := v1 - bf) (A := 1000) (B := 6) (by have := HX2.d1; omega) HX2.d2 (by omega) (by omega)
              obtain ⟨p1, p2⟩ := hp
              have hp := mul_bd (a := x.c + x.s) (b := v1) (A := 2000) (B := 3) (by omega) (by omega) (by omega) (by omega)
              obtain ⟨p3, p4⟩ := hp
              clear HX2
              have hkr : k < r.length := by have := HKI.out; have := HLT.out; omega
              have hkz : k < zs.length := HKZ.out
              have hir : i < r.length := HLT.out
              go_upto_region 26 with (fail)
              refine wp_region_quiet_all (fun w' => Below (World.heap wr).size (wr) w') (by kernel_rfl) (by kernel_rfl) (Below.refl _ _).drew ?_
              refine WQ.out ?_
              repeat (first | (refine WQ_no (by rfl) ?_; (simp only [Act.put, List.setIfInBounds_toArray, List.set_cons_zero, List.set_cons_succ])) | (refine WQ_yes (by rfl) ?_; apply Exists.intro; refine ⟨fun w1 hb1 => ?_, ?_⟩; (focus (((obtain ⟨-, k0, -⟩ := K0.out.to hb1; have k1 := (hb1.cell (p := ⟨bR, oR + k, none⟩) hbR2).trans c1.out; have k3 := (hb1.cell (p := ⟨bz, oz + k, none⟩) hbz2).trans c3.out); have hb1 := Lib.hid hb1; go_simp); (try (go_bits; try go_simp)); (try (rw [if_pos (by omega)]; try go_simp)); (first | done | (fail) | (with_reducible rfl) | exact rfl))); (simp only [Act.put, List.setIfInBounds_toArray, List.set_cons_zero, List.set_cons_succ])))
              refine WQ_nil ?_
              intro w1 hb1
              replace c1 := Lib.hid ((hb1.cell (p := ⟨bR, oR + k, none⟩) hbR2).trans c1.out)
              replace c2 := Lib.hid ((hb1.cell (p := ⟨bR, oR + i, none⟩) hbR2).trans c2.out)
              replace K0 := Lib.hid (K0.out.to hb1)
              replace hbel := Lib.hid (bThen hbel.out hb1)
              replace hbR2 : bR < w1.heap.size := Nat.lt_of_lt_of_le hbR2 hb1.size
              clear hb1 c3 hbz2 hkz
              obtain ⟨pl, hpl⟩ : ∃ pl, F - x.d * (v1 - bf) - (x.c + x.s) * v1 = pl := ⟨_, rfl⟩
              rw [hpl] at RS ⊢
              have hpb : -13000 ≤ pl ∧ pl ≤ 13000 := by omega
              obtain ⟨hpb1, hpb2⟩ := hpb
              clear hpl p1 p2 p3 p4
              obtain ⟨wq, hwq⟩ : ∃ wq, wq = w1 := ⟨_, rfl⟩
              subst hwq
              have hp := mul_bd (a := x.m) (b := v2 - 2 * v1 + bf) (A := 1000) (B := 200009) (by omega) (by omega) (by omega) (by omega)
              obtain ⟨p1, p2⟩ := hp
              go_upto_region 27 with (fail)
              refine wp_region_quiet_all (fun w' => Below (World.heap wq).size (wq) w') (by kernel_rfl) (by kernel_rfl) (Below.refl _ _).drew ?_
              refine WQ.out ?_
              repeat (first | (refine WQ_no (by rfl) ?_; (simp only [Act.put, List.setIfInBounds_toArray, List.set_cons_zero, List.set_cons_succ])) | (refine WQ_yes (by rfl) ?_; apply Exists.intro; refine ⟨fun w1 hb1 => ?_, ?_⟩; (focus (((obtain ⟨-, k0, -⟩ := K0.out.to hb1; have k1 := (hb1.cell (p := ⟨bR, oR + k, none⟩) hbR2).trans c1.out; have k2 := (hb1.cell (p := ⟨bR, oR + i, none⟩) hbR2).trans c2.out); have hb1 := Lib.hid hb1; go_simp); (try (go_bits; try go_simp)); (try (rw [if_pos (by omega)]; try go_simp)); (first | done | (fail) | (with_reducible rfl) | exact rfl))); (simp only [Act.put, List.setIfInBounds_toArray, List.set_cons_zero, List.set_cons_succ])))
              refine WQ_nil ?_
              intro w1 hb1
              replace c2 := Lib.hid ((hb1.cell (p := ⟨bR, oR + i, none⟩) hbR2).trans c2.out)
              replace K0 := Lib.hid (K0.out.to hb1)
              replace hbel := Lib.hid (bThen hbel.out hb1)
              replace hbR2 : bR < w1.heap.size := Nat.lt_of_lt_of_le hbR2 hb1.size
              clear hb1 c1
              obtain ⟨rs, hrs⟩ : ∃ rs, pl - x.m * (v2 - 2 * v1 + bf) = rs := ⟨_, rfl⟩
              rw [hrs] at RS ⊢
              obtain ⟨rs1, rs2⟩ := RS.out
              clear hrs p1 p2
              obtain ⟨wq2, hwq⟩ : ∃ wq, wq = w1 := ⟨_, rfl⟩
              subst hwq
              have hrs1 : decide (rs < 0) = false := decide_eq_false (by omega)
              have hrs2 : decide (x.m ≤ rs) = false := decide_eq_false (by omega)
              obtain ⟨-, k0, -⟩ := K0.out
              go_upto_region 30 with (fail)
              clear k0 hrs1 hrs2 rs1 rs2
              by_cases hin : i + 1 < r.length
              · have hinI : decide ((i : Int) < (r.length : Int) - 1) = true := decide_eq_true (by omega)
                obtain ⟨hb1', hb2'⟩ := HIB.out (by have := HKI.out; omega)
                have hsz : decide (x.b < sizeI v2) = false := decide_eq_false (by unfold sizeI; omega)
                clear hb1' hb2'
                refine wp_region_quiet_all (fun w' => Below (World.heap wq2).size (wq2) w') (by kernel_rfl) (by kernel_rfl) (Below.refl _ _).drew ?_
                refine WQ.out ?_
                repeat (first | (refine WQ_no (by rfl) ?_; (simp only [Act.put, List.setIfInBounds_toArray, List.set_cons_zero, List.set_cons_succ])) | (refine WQ_yes (by rfl) ?_; apply Exists.intro; refine ⟨fun w1 hb1 => ?_, ?_⟩; (focus (((obtain ⟨-, k0, -⟩ := K0.out.to hb1; have k2 := (hb1.cell (p := ⟨bR, oR + i, none⟩) hbR2).trans c2.out); have hb1 := Lib.hid hb1; go_simp); (try (go_bits; try go_simp)); (try (rw [if_pos (by omega)]; try go_simp)); (first | done | ((go_at_call 21; refine (Size_any _ _ (by omega) (by omega)).mono ?_; rintro e w' ⟨rfl, rfl⟩; exact ⟨rfl, hb1.out⟩)) | (with_reducible rfl) | exact rfl))); (simp only [Act.put, List.setIfInBounds_toArray, List.set_cons_zero, List.set_cons_succ])))
                refine WQ_nil ?_
                intro w1 hb1
                replace hbel := Lib.hid (bThen hbel.out hb1)
                clear hb1
                go_wp2_with fail
                go_roundw
                case rel => exact ⟨i + 1, by omega, by omega, by go_num, hbel⟩
                case measure => simp [intOf]; omega
              · have hinI : decide ((i : Int) < (r.length : Int) - 1) = false := decide_eq_false (by omega)
                refine wp_region_quiet_all (fun w' => Below (World.heap wq2).size (wq2) w') (by kernel_rfl) (by kernel_rfl) (Below.refl _ _).drew ?_
                refine WQ.out ?_
                repeat (first | (refine WQ_no (by rfl) ?_; (simp only [Act.put, List.setIfInBounds_toArray, List.set_cons_zero, List.set_cons_succ])) | (refine WQ_yes (by rfl) ?_; apply Exists.intro; refine ⟨fun w1 hb1 => ?_, ?_⟩; (focus (((obtain ⟨-, k0, -⟩ := K0.out.to hb1); have hb1 := Lib.hid hb1; go_simp); (try (go_bits; try go_simp)); (try (rw [if_pos (by omega)]; try go_simp)); (first | done | (fail) | (with_reducible rfl) | exact rfl))); (simp only [Act.put, List.setIfInBounds_toArray, List.set_cons_zero, List.set_cons_succ])))
                refine WQ_nil ?_
                intro w1 hb1
                replace hbel := Lib.hid (bThen hbel.out hb1)
                clear hb1
                go_wp2_with fail
                go_roundw
                case rel => exact ⟨i + 1, by omega, by omega, by go_num, hbel⟩
                case measure => simp [intOf]; omega
        · skip
          as_aux_lemma =>
            have hltI : decide ((i : Int) < (r.length : Int)) = false := decide_eq_false (by omega)
            have hltN : decide (i < r.length) = false := decide_eq_false hlt
            replace HB := Lib.hid (bThen HB.out hbel.out)
            clear hbel
            go_upto_region 32 with (fail)
            clear hltI hltN hlt hi1 hi2 HRR
            have hK0 := K0.out.1
            refine wp_region_mix [2, 3] (by kernel_rfl) (by kernel_rfl) (fun _ _ _ _ _ h => h) (fun x2d hwd => ?_)
            have T := Lib.hid hwd
            clear hwd
            repeat (first | (refine WM_no (by rfl) (by rfl) ?_; (simp only [Act.put, List.setIfInBounds_toArray, List.set_cons_zero, List.set_cons_succ])) | (refine WM_yes (by rfl) (by rfl) ?_; apply Exists.intro; refine ⟨fun w1 hb1 => ?_, ?_⟩; (focus (((obtain ⟨-, k0, -⟩ := (K0.out.to T.out).below hb1 hK0); have hb1 := Lib.hid hb1; go_simp); (try (go_bits; try go_simp)); (try (rw [if_pos (by omega)]; try go_simp)); (first | done | (fail) | (with_reducible rfl) | exact rfl))); (simp only [Act.put, List.setIfInBounds_toArray, List.set_cons_zero, List.set_cons_succ])))
            refine WM_x (by rfl) ?_
            go_wp2_with fail
            refine (HCP.out _ (HR.out.to T.out)).mono ?_
            rintro e x2e ⟨a3, c3, rfl, -, hr3, hb, -⟩
            have HA := Lib.hid hr3
            have hbd := Lib.hid (hb.mono T.out.size)
            replace T := Lib.hid (bThen T.out hb)
            clear hb hr3
            go_wp2_with fail
            refine ⟨hbd.out, ?_⟩
            clear hbd
            repeat (first | (refine WM_no (by rfl) (by rfl) ?_; (simp only [Act.put, List.setIfInBounds_toArray, List.set_cons_zero, List.set_cons_succ])) | (refine WM_yes (by rfl) (by rfl) ?_; apply Exists.intro; refine ⟨fun w1 hb1 => ?_, ?_⟩; (focus (((obtain ⟨-, k0, -⟩ := (K0.out.to T.out).below hb1 hK0); have hb1 := Lib.hid hb1; go_simp); (try (go_bits; try go_simp)); (try (rw [if_pos (by omega)]; try go_simp)); (first | done | (fail) | (with_reducible rfl) | exact rfl))); (simp only [Act.put, List.setIfInBounds_toArray, List.set_cons_zero, List.set_cons_succ])))
            refine WM_x (by rfl) ?_
            go_wp2_with fail
            refine (HR3.out _ _ _ HA.out).mono ?_
            rintro e x2f ⟨aO, cO, rfl, hcO, hrO, hb⟩
            have hbd := Lib.hid (hb.mono T.out.size)
            replace T := Lib.hid (bThen T.out hb)
            have HO := Lib.hid hrO
            clear hrO
            clear hb HA
            go_wp2_with fail
            refine ⟨hbd.out, ?_⟩
            clear hbd
            repeat (first | (refine WM_no (by rfl) (by rfl) ?_; (simp only [Act.put, List.setIfInBounds_toArray, List.set_cons_zero, List.set_cons_succ])) | (refine WM_yes (by rfl) (by rfl) ?_; apply Exists.intro; refine ⟨fun w1 hb1 => ?_, ?_⟩; (focus ((skip; have hb1 := Lib.hid hb1; go_simp); (try (go_bits; try go_simp)); (try (rw [if_pos (by omega)]; try go_simp)); (first | done | (fail) | (with_reducible rfl) | exact rfl))); (simp only [Act.put, List.setIfInBounds_toArray, List.set_cons_zero, List.set_cons_succ])))
            refine WM_nil ?_
            replace K0 := Lib.hid (K0.out.to T.out)
            replace HR := Lib.hid (HR.out.to T.out)
            replace HB := Lib.hid (bThen HB.out T.out)
            clear T hK0
            have hquo := HQUO.out
            go_upto_region 33 with (fail)
            have hK0 := K0.out.1
            refine wp_region_mix [6, 7] (by kernel_rfl) (by kernel_rfl) (fun _ _ _ _ _ h => h) (fun x3d hwd => ?_)
            have T := Lib.hid hwd
            clear hwd
            repeat (first | (refine WM_no (by rfl) (by rfl) ?_; (simp only [Act.put, List.setIfInBounds_toArray, List.set_cons_zero, List.set_cons_succ])) | (refine WM_yes (by rfl) (by rfl) ?_; apply Exists.intro; refine ⟨fun w1 hb1 => ?_, ?_⟩; (focus (((obtain ⟨-, k0, -⟩ := (K0.out.to T.out).below hb1 hK0); have hb1 := Lib.hid hb1; go_simp); (try (go_bits; try go_simp)); (try (rw [if_pos (by omega)]; try go_simp)); (first | done | (fail) | (with_reducible rfl) | exact rfl))); (simp only [Act.put, List.setIfInBounds_toArray, List.set_cons_zero, List.set_cons_succ])))
            refine WM_x (by rfl) ?_
            go_wp2_with fail
            refine (HCPH.out _ _ (HTK.out _ _ (HR.out.to T.out))).mono ?_
            rintro e x3e ⟨a3, c3, rfl, -, hr3, hb, -⟩
            have HA := Lib.hid hr3
            have hbd := Lib.hid (hb.mono T.out.size)
            replace T := Lib.hid (bThen T.out hb)
            clear hb hr3
            go_wp2_with fail
            refine ⟨hbd.out, ?_⟩
            clear hbd
            repeat (first | (refine WM_no (by rfl) (by rfl) ?_; (simp only [Act.put, List.setIfInBounds_toArray, List.set_cons_zero, List.set_cons_succ])) | (refine WM_yes (by rfl) (by rfl) ?_; apply Exists.intro; refine ⟨fun w1 hb1 => ?_, ?_⟩; (focus (((obtain ⟨-, k0, -⟩ := (K0.out.to T.out).below hb1 hK0); have hb1 := Lib.hid hb1; go_simp); (try (go_bits; try go_simp)); (try (rw [if_pos (by omega)]; try go_simp)); (first | done | (fail) | (with_reducible rfl) | exact rfl))); (simp only [Act.put, List.setIfInBounds_toArray, List.set_cons_zero, List.set_cons_succ])))
            refine WM_x (by rfl) ?_
            go_wp2_with fail
            refine (HR4.out _ _ _ HA.out).mono ?_
            rintro e x3f ⟨aH, cH, rfl, hrH, hb⟩
            have hbd := Lib.hid (hb.mono T.out.size)
            replace T := Lib.hid (bThen T.out hb)
            have HH := Lib.hid hrH
            clear hrH
            clear hb HA
            go_wp2_with fail
            refine ⟨hbd.out, ?_⟩
            clear hbd
            repeat (first | (refine WM_no (by rfl) (by rfl) ?_; (simp only [Act.put, List.setIfInBounds_toArray, List.set_cons_zero, List.set_cons_succ])) | (refine WM_yes (by rfl) (by rfl) ?_; apply Exists.intro; refine ⟨fun w1 hb1 => ?_, ?_⟩; (focus ((skip; have hb1 := Lib.hid hb1; go_simp); (try (go_bits; try go_simp)); (try (rw [if_pos (by omega)]; try go_simp)); (first | done | (fail) | (with_reducible rfl) | exact rfl))); (simp only [Act.put, List.setIfInBounds_toArray, List.set_cons_zero, List.set_cons_succ])))
            refine WM_nil ?_
            replace K0 := Lib.hid (K0.out.to T.out)
            replace HR := Lib.hid (HR.out.to T.out)
            replace HO := Lib.hid (HO.out.to T.out)
            replace HB := Lib.hid (bThen HB.out T.out)
            replace HO := HO
            clear T hK0 hquo
            obtain ⟨bO, oO, rfl, hbO, -⟩ := HO.out.at (k := 0) (by omega)
            have hq1 : ((own.length : Int) == 0) = false := beq_false_of_ne (by omega)
            have hq2 : decide ((zs.length : Int) + 1 < (own.length : Int)) = false := decide_eq_false (by omega)
            have hq3 : decide ((own.length : Int) < (half.length : Int)) = false := decide_eq_false (by omega)
            have hq4 : decide (own.length < half.length) = false := decide_eq_false (by omega)
            have hq5 : half.length ≤ cO := by omega
            go_wp2_with fail
            refine (HIN2.out aH (some ⟨bO, oO, none⟩) cH cO _ HH.out HO.out).mono ?_
            rintro e x4 ⟨rfl, hb⟩
            replace K0 := Lib.hid (K0.out.to hb)
            replace HR := Lib.hid (HR.out.to hb)
            replace HO := Lib.hid (HO.out.to hb)
            replace HB := Lib.hid (bThen HB.out hb)
            clear hb HH hq1 hq2 hq3 hq4 hq5 hbO
            go_upto_region 36 with (fail)
            have hK0 := K0.out.1
            go_cut [24, 25] (fun sA sB wc => ∃ B, sA = .pointer (some ⟨B, 0, none⟩) ∧ sB = .int .i64 0 ∧ Hid (Blk wc B #[.int .i64 (S), .int .i64 (S)]) ∧ Hid (Below x4.heap.size x4 wc))
            case first =>
              as_aux_lemma =>
                refine wp_region_tree (by kernel_rfl) (fun y1d hwd => ?_)
                have T := Lib.hid hwd
                clear hwd
                refine WT_yes 0 rfl (by kernel_rfl) (fun _ _ _ _ _ h => h) (by rfl) ?_; apply Exists.intro; refine ⟨fun w1 hb1 => ?_, ?_⟩; (focus (((obtain ⟨-, k0, -⟩ := (K0.out.to T.out).below hb1 hK0); have hb1 := Lib.hid hb1; go_simp); (try (go_bits; try go_simp)); (try (rw [if_pos (by omega)]; try go_simp)); (first | done | (fail) | (with_reducible rfl) | exact rfl)))
                simp only [Act.put, List.setIfInBounds_toArray, List.set_cons_zero, List.set_cons_succ]
                refine WT_yes 1 rfl (by kernel_rfl) (fun _ _ _ _ _ h => h) (by rfl) ?_; apply Exists.intro; refine ⟨fun w1 hb1 => ?_, ?_⟩; (focus ((skip; have hb1 := Lib.hid hb1; go_simp); (try (go_bits; try go_simp)); (try (rw [if_pos (by omega)]; try go_simp)); (first | done | (fail) | (with_reducible rfl) | exact rfl)))
                simp only [Act.put, List.setIfInBounds_toArray, List.set_cons_zero, List.set_cons_succ]
                refine WT_two 2 7 rfl rfl (by kernel_rfl) ?_ ?_
                · skip
                  unfold stepT
                  go_wp2_with fail
                  refine (HCP.out _ (HR.out.to T.out)).mono ?_
                  rintro e y1e ⟨a3, c3, rfl, -, hr3, hb, -⟩
                  have HA := Lib.hid hr3
                  clear hr3
                  have hbd := Lib.hid (hb.mono T.out.size)
                  replace T := Lib.hid (bThen T.out hb)
                  try replace KA := Lib.hid (KA.out.to hb)
                  clear hb
                  go_wp2_with fail
                  refine ⟨hbd.out, ?_⟩
                  clear hbd
                  refine WT_two 3 7 rfl rfl (by kernel_rfl) ?_ ?_
                  · skip
                    unfold stepT
                    go_wp2_with fail
                    refine (HE2.out _ _ _ HA.out).mono ?_
                    rintro e y1f ⟨rfl, hb⟩
                    have hbd := Lib.hid (hb.mono T.out.size)
                    replace T := Lib.hid (bThen T.out hb)
                    try replace KA := Lib.hid (KA.out.to hb)
                    clear hb
                    go_wp2_with fail
                    refine ⟨hbd.out, ?_⟩
                    clear hbd
                    refine WT_yes 4 rfl (by kernel_rfl) (fun _ _ _ _ _ h => h) (by rfl) ?_; apply Exists.intro; refine ⟨fun w1 hb1 => ?_, ?_⟩; (focus ((skip; have hb1 := Lib.hid hb1; go_simp); (try (go_bits; try go_simp)); (try (rw [if_pos (by omega)]; try go_simp)); (first | done | (fail) | (with_reducible rfl) | exact rfl)))
                    simp only [Act.put, List.setIfInBounds_toArray, List.set_cons_zero, List.set_cons_succ]
                    refine WT_yes 5 rfl (by kernel_rfl) (fun _ _ _ _ _ h => h) (by rfl) ?_; apply Exists.intro; refine ⟨fun w1 hb1 => ?_, ?_⟩; (focus ((skip; have hb1 := Lib.hid hb1; go_simp); (try (go_bits; try go_simp)); (try (rw [if_pos (by omega)]; try go_simp)); (first | done | (fail) | (with_reducible rfl) | exact rfl)))
                    simp only [Act.put, List.setIfInBounds_toArray, List.set_cons_zero, List.set_cons_succ]
                    refine WT_yes 6 rfl (by kernel_rfl) (fun _ _ _ _ _ h => h) (by rfl) ?_; apply Exists.intro; refine ⟨fun w1 hb1 => ?_, ?_⟩; (focus ((skip; have hb1 := Lib.hid hb1; go_simp); (try (go_bits; try go_simp)); (try (rw [if_pos (by omega)]; try go_simp)); (first | done | (fail) | (with_reducible rfl) | exact rfl)))
                    simp only [Act.put, List.setIfInBounds_toArray, List.set_cons_zero, List.set_cons_succ]
                    refine WT_one 7 rfl (by kernel_rfl) ?_
                    unfold stepT
                    go_wp2_with fail
                    obtain ⟨y1g, hwA⟩ : ∃ wA, y1f.alloc (.cells #[.int .i64 0, .int .i64 0] 23) = wA := ⟨_, rfl⟩
                    rw [hwA]
                    have hb : Below y1f.heap.size y1f y1g := by subst hwA; exact bAlloc (bSelf _) _
                    have KA : Hid (Blk y1g y1f.heap.size #[.int .i64 0, .int .i64 0]) := by subst hwA; exact Blk.new _ _ _
                    have KAN := Lib.hid T.out.size
                    clear hwA
                    have hbd := Lib.hid (hb.mono T.out.size)
                    replace T := Lib.hid (bThen T.out hb)
                    try replace HA := Lib.hid (HA.out.to hb)
                    refine ⟨hbd.out, ?_⟩
                    clear hbd hb
                    refine WT_one 8 rfl (by kernel_rfl) ?_
                    unfold stepT
                    obtain ⟨hka, ka, fa⟩ := KA.out
                    go_wp2_with fail
                    clear ka fa
                    refine ⟨((Below.refl _ _).setCell (p := ⟨_, 0, none⟩) KAN.out _).setCell (p := ⟨_, 1, none⟩) KAN.out _, ?_⟩
                    refine WT_yes 9 rfl (by kernel_rfl) (fun _ _ _ _ _ h => h) (by rfl) ?_; apply Exists.intro; refine ⟨fun w1 hb1 => ?_, ?_⟩; (focus ((skip; have hb1 := Lib.hid hb1; go_simp); (try (go_bits; try go_simp)); (try (rw [if_pos (by omega)]; try go_simp)); (first | done | (fail) | (with_reducible rfl) | exact rfl)))
                    simp only [Act.put, List.setIfInBounds_toArray, List.set_cons_zero, List.set_cons_succ]
                    refine WT_done (by kernel_rfl) ?_
                    go_wp2_with fail
                    go_meet
                    case rel => exact ⟨_, rfl, rfl, Lib.hid ((KA.out.set 0 (.int .i64 (S))).set 1 (.int .i64 (S))), Lib.hid ((T.out.setCell (p := ⟨_, 0, none⟩) KAN.out _).setCell (p := ⟨_, 1, none⟩) KAN.out _)⟩
                  · skip
                    unfold stepT
                    go_wp2_with fail
                    obtain ⟨y1f, hwA⟩ : ∃ wA, y1e.alloc (.cells #[.int .i64 0, .int .i64 0] 23) = wA := ⟨_, rfl⟩
                    rw [hwA]
                    have hb : Below y1e.heap.size y1e y1f := by subst hwA; exact bAlloc (bSelf _) _
                    have KA : Hid (Blk y1f y1e.heap.size #[.int .i64 0, .int .i64 0]) := by subst hwA; exact Blk.new _ _ _
                    have KAN := Lib.hid T.out.size
                    clear hwA
                    have hbd := Lib.hid (hb.mono T.out.size)
                    replace T := Lib.hid (bThen T.out hb)
                    try replace HA := Lib.hid (HA.out.to hb)
                    refine ⟨hbd.out, ?_⟩
                    clear hbd hb
                    refine WT_one 3 rfl (by kernel_rfl) ?_
                    unfold stepT
                    go_wp2_with fail
                    refine (HE2.out _ _ _ HA.out).mono ?_
                    rintro e y1g ⟨rfl, hb⟩
                    have hbd := Lib.hid (hb.mono T.out.size)
                    replace T := Lib.hid (bThen T.out hb)
                    try replace KA := Lib.hid (KA.out.to hb)
                    clear hb
                    go_wp2_with fail
                    refine ⟨hbd.out, ?_⟩
                    clear hbd
                    refine WT_yes 4 rfl (by kernel_rfl) (fun _ _ _ _ _ h => h) (by rfl) ?_; apply Exists.intro; refine ⟨fun w1 hb1 => ?_, ?_⟩; (focus ((skip; have hb1 := Lib.hid hb1; go_simp); (try (go_bits; try go_simp)); (try (rw [if_pos (by omega)]; try go_simp)); (first | done | (fail) | (with_reducible rfl) | exact rfl)))
                    simp only [Act.put, List.setIfInBounds_toArray, List.set_cons_zero, List.set_cons_succ]
                    refine WT_yes 5 rfl (by kernel_rfl) (fun _ _ _ _ _ h => h) (by rfl) ?_; apply Exists.intro; refine ⟨fun w1 hb1 => ?_, ?_⟩; (focus ((skip; have hb1 := Lib.hid hb1; go_simp); (try (go_bits; try go_simp)); (try (rw [if_pos (by omega)]; try go_simp)); (first | done | (fail) | (with_reducible rfl) | exact rfl)))
                    simp only [Act.put, List.setIfInBounds_toArray, List.set_cons_zero, List.set_cons_succ]
                    refine WT_yes 6 rfl (by kernel_rfl) (fun _ _ _ _ _ h => h) (by rfl) ?_; apply Exists.intro; refine ⟨fun w1 hb1 => ?_, ?_⟩; (focus ((skip; have hb1 := Lib.hid hb1; go_simp); (try (go_bits; try go_simp)); (try (rw [if_pos (by omega)]; try go_simp)); (first | done | (fail) | (with_reducible rfl) | exact rfl)))
                    simp only [Act.put, List.setIfInBounds_toArray, List.set_cons_zero, List.set_cons_succ]
                    refine WT_one 8 rfl (by kernel_rfl) ?_
                    unfold stepT
                    obtain ⟨hka, ka, fa⟩ := KA.out
                    go_wp2_with fail
                    clear ka fa
                    refine ⟨((Below.refl _ _).setCell (p := ⟨_, 0, none⟩) KAN.out _).setCell (p := ⟨_, 1, none⟩) KAN.out _, ?_⟩
                    refine WT_yes 9 rfl (by kernel_rfl) (fun _ _ _ _ _ h => h) (by rfl) ?_; apply Exists.intro; refine ⟨fun w1 hb1 => ?_, ?_⟩; (focus ((skip; have hb1 := Lib.hid hb1; go_simp); (try (go_bits; try go_simp)); (try (rw [if_pos (by omega)]; try go_simp)); (first | done | (fail) | (with_reducible rfl) | exact rfl)))
                    simp only [Act.put, List.setIfInBounds_toArray, List.set_cons_zero, List.set_cons_succ]
                    refine WT_done (by kernel_rfl) ?_
                    go_wp2_with fail
                    go_meet
                    case rel => exact ⟨_, rfl, rfl, Lib.hid ((KA.out.set 0 (.int .i64 (S))).set 1 (.int .i64 (S))), Lib.hid ((T.out.setCell (p := ⟨_, 0, none⟩) KAN.out _).setCell (p := ⟨_, 1, none⟩) KAN.out _)⟩
                · skip
                  unfold stepT
                  go_wp2_with fail
                  obtain ⟨y1e, hwA⟩ : ∃ wA, y1d.alloc (.cells #[.int .i64 0, .int .i64 0] 23) = wA := ⟨_, rfl⟩
                  rw [hwA]
                  have hb : Below y1d.heap.size y1d y1e := by subst hwA; exact bAlloc (bSelf _) _
                  have KA : Hid (Blk y1e y1d.heap.size #[.int .i64 0, .int .i64 0]) := by subst hwA; exact Blk.new _ _ _
                  have KAN := Lib.hid T.out.size
                  clear hwA
                  have hbd := Lib.hid (hb.mono T.out.size)
                  replace T := Lib.hid (bThen T.out hb)
                  try replace HA := Lib.hid (HA.out.to hb)
                  refine ⟨hbd.out, ?_⟩
                  clear hbd hb
                  refine WT_one 2 rfl (by kernel_rfl) ?_
                  unfold stepT
                  go_wp2_with fail
                  refine (HCP.out _ (HR.out.to T.out)).mono ?_
                  rintro e y1f ⟨a3, c3, rfl, -, hr3, hb, -⟩
                  have HA := Lib.hid hr3
                  clear hr3
                  have hbd := Lib.hid (hb.mono T.out.size)
                  replace T := Lib.hid (bThen T.out hb)
                  try replace KA := Lib.hid (KA.out.to hb)
                  clear hb
                  go_wp2_with fail
                  refine ⟨hbd.out, ?_⟩
                  clear hbd
                  refine WT_one 3 rfl (by kernel_rfl) ?_
                  unfold stepT
                  go_wp2_with fail
                  refine (HE2.out _ _ _ HA.out).mono ?_
                  rintro e y1g ⟨rfl, hb⟩
                  have hbd := Lib.hid (hb.mono T.out.size)
                  replace T := Lib.hid (bThen T.out hb)
                  try replace KA := Lib.hid (KA.out.to hb)
                  clear hb
                  go_wp2_with fail
                  refine ⟨hbd.out, ?_⟩
                  clear hbd
                  refine WT_yes 4 rfl (by kernel_rfl) (fun _ _ _ _ _ h => h) (by rfl) ?_; apply Exists.intro; refine ⟨fun w1 hb1 => ?_, ?_⟩; (focus ((skip; have hb1 := Lib.hid hb1; go_simp); (try (go_bits; try go_simp)); (try (rw [if_pos (by omega)]; try go_simp)); (first | done | (fail) | (with_reducible rfl) | exact rfl)))
                  simp only [Act.put, List.setIfInBounds_toArray, List.set_cons_zero, List.set_cons_succ]
                  refine WT_yes 5 rfl (by kernel_rfl) (fun _ _ _ _ _ h => h) (by rfl) ?_; apply Exists.intro; refine ⟨fun w1 hb1 => ?_, ?_⟩; (focus ((skip; have hb1 := Lib.hid hb1; go_simp); (try (go_bits; try go_simp)); (try (rw [if_pos (by omega)]; try go_simp)); (first | done | (fail) | (with_reducible rfl) | exact rfl)))
                  simp only [Act.put, List.setIfInBounds_toArray, List.set_cons_zero, List.set_cons_succ]
                  refine WT_yes 6 rfl (by kernel_rfl) (fun _ _ _ _ _ h => h) (by rfl) ?_; apply Exists.intro; refine ⟨fun w1 hb1 => ?_, ?_⟩; (focus ((skip; have hb1 := Lib.hid hb1; go_simp); (try (go_bits; try go_simp)); (try (rw [if_pos (by omega)]; try go_simp)); (first | done | (fail) | (with_reducible rfl) | exact rfl)))
                  simp only [Act.put, List.setIfInBounds_toArray, List.set_cons_zero, List.set_cons_succ]
                  refine WT_one 8 rfl (by kernel_rfl) ?_
                  unfold stepT
                  obtain ⟨hka, ka, fa⟩ := KA.out
                  go_wp2_with fail
                  clear ka fa
                  refine ⟨((Below.refl _ _).setCell (p := ⟨_, 0, none⟩) KAN.out _).setCell (p := ⟨_, 1, none⟩) KAN.out _, ?_⟩
                  refine WT_yes 9 rfl (by kernel_rfl) (fun _ _ _ _ _ h => h) (by rfl) ?_; apply Exists.intro; refine ⟨fun w1 hb1 => ?_, ?_⟩; (focus ((skip; have hb1 := Lib.hid hb1; go_simp); (try (go_bits; try go_simp)); (try (rw [if_pos (by omega)]; try go_simp)); (first | done | (fail) | (with_reducible rfl) | exact rfl)))
                  simp only [Act.put, List.setIfInBounds_toArray, List.set_cons_zero, List.set_cons_succ]
                  refine WT_done (by kernel_rfl) ?_
                  go_wp2_with fail
                  go_meet
                  case rel => exact ⟨_, rfl, rfl, Lib.hid ((KA.out.set 0 (.int .i64 (S))).set 1 (.int .i64 (S))), Lib.hid ((T.out.setCell (p := ⟨_, 0, none⟩) KAN.out _).setCell (p := ⟨_, 1, none⟩) KAN.out _)⟩
            case rest =>
              obtain ⟨BA, rfl, rfl, KB1, hb⟩ := hcut
              replace K0 := Lib.hid (K0.out.to hb.out)
              replace HR := Lib.hid (HR.out.to hb.out)
              replace HO := Lib.hid (HO.out.to hb.out)
              replace HB := Lib.hid (bThen HB.out hb.out)
              clear hb hK0
              obtain ⟨x5, hx5⟩ : ∃ x5, x5 = wc := ⟨_, rfl⟩
              subst hx5
              go_upto_region 37 with (fail)
              have hK0 := K0.out.1
              go_cut [26, 27] (fun sA sB wc => ∃ B, sA = .pointer (some ⟨B, 0, none⟩) ∧ sB = .int .i64 0 ∧ Hid (Blk wc B #[.int .i64 (S - off * WE), .int .i64 (S + off * WE)]) ∧ Hid (Below x5.heap.size x5 wc))
              case first =>
                as_aux_lemma =>
                  refine wp_region_tree (by kernel_rfl) (fun y2d hwd => ?_)
                  have T := Lib.hid hwd
                  clear hwd
                  refine WT_yes 0 rfl (by kernel_rfl) (fun _ _ _ _ _ h => h) (by rfl) ?_; apply Exists.intro; refine ⟨fun w1 hb1 => ?_, ?_⟩; (focus (((obtain ⟨-, k0, -⟩ := (K0.out.to T.out).below hb1 hK0); have hb1 := Lib.hid hb1; go_simp); (try (go_bits; try go_simp)); (try (rw [if_pos (by omega)]; try go_simp)); (first | done | (fail) | (with_reducible rfl) | exact rfl)))
                  simp only [Act.put, List.setIfInBounds_toArray, List.set_cons_zero, List.set_cons_succ]
                  refine WT_yes 1 rfl (by kernel_rfl) (fun _ _ _ _ _ h => h) (by rfl) ?_; apply Exists.intro; refine ⟨fun w1 hb1 => ?_, ?_⟩; (focus ((skip; have hb1 := Lib.hid hb1; go_simp); (try (go_bits; try go_simp)); (try (rw [if_pos (by omega)]; try go_simp)); (first | done | (fail) | (with_reducible rfl) | exact rfl)))
                  simp only [Act.put, List.setIfInBounds_toArray, List.set_cons_zero, List.set_cons_succ]
                  refine WT_yes 3 rfl (by kernel_rfl) (fun _ _ _ _ _ h => h) (by rfl) ?_; apply Exists.intro; refine ⟨fun w1 hb1 => ?_, ?_⟩; (focus ((skip; have hb1 := Lib.hid hb1; go_simp); (try (go_bits; try go_simp)); (try (rw [if_pos (by omega)]; try go_simp)); (first | done | (fail) | (with_reducible rfl) | exact rfl)))
                  simp only [Act.put, List.setIfInBounds_toArray, List.set_cons_zero, List.set_cons_succ]
                  refine WT_two 2 8 rfl rfl (by kernel_rfl) ?_ ?_
                  · skip
                    unfold stepT
                    go_wp2_with fail
                    refine (HCP.out _ (HR.out.to T.out)).mono ?_
                    rintro e y2e ⟨a3, c3, rfl, -, hr3, hb, -⟩
                    have HA := Lib.hid hr3
                    clear hr3
                    have hbd := Lib.hid (hb.mono T.out.size)
                    replace T := Lib.hid (bThen T.out hb)
                    try replace KA := Lib.hid (KA.out.to hb)
                    clear hb
                    go_wp2_with fail
                    refine ⟨hbd.out, ?_⟩
                    clear hbd
                    refine WT_two 4 8 rfl rfl (by kernel_rfl) ?_ ?_
                    · skip
                      unfold stepT
                      go_wp2_with fail
                      refine (HE3.out _ _ _ HA.out).mono ?_
                      rintro e y2f ⟨rfl, hb⟩
                      have hbd := Lib.hid (hb.mono T.out.size)
                      replace T := Lib.hid (bThen T.out hb)
                      try replace KA := Lib.hid (KA.out.to hb)
                      clear hb
                      go_wp2_with fail
                      refine ⟨hbd.out, ?_⟩
                      clear hbd
                      refine WT_yes 5 rfl (by kernel_rfl) (fun _ _ _ _ _ h => h) (by rfl) ?_; apply Exists.intro; refine ⟨fun w1 hb1 => ?_, ?_⟩; (focus ((skip; have hb1 := Lib.hid hb1; go_simp); (try (go_bits; try go_simp)); (try (rw [if_pos (by omega)]; try go_simp)); (first | done | (fail) | (with_reducible rfl) | exact rfl)))
                      simp only [Act.put, List.setIfInBounds_toArray, List.set_cons_zero, List.set_cons_succ]
                      refine WT_yes 6 rfl (by kernel_rfl) (fun _ _ _ _ _ h => h) (by rfl) ?_; apply Exists.intro; refine ⟨fun w1 hb1 => ?_, ?_⟩; (focus ((skip; have hb1 := Lib.hid hb1; go_simp); (try (go_bits; try go_simp)); (try (rw [if_pos (by omega)]; try go_simp)); (first | done | (fail) | (with_reducible rfl) | exact rfl)))
                      simp only [Act.put, List.setIfInBounds_toArray, List.set_cons_zero, List.set_cons_succ]
                      refine WT_yes 7 rfl (by kernel_rfl) (fun _ _ _ _ _ h => h) (by rfl) ?_; apply Exists.intro; refine ⟨fun w1 hb1 => ?_, ?_⟩; (focus ((skip; have hb1 := Lib.hid hb1; go_simp); (try (go_bits; try go_simp)); (try (rw [if_pos (by omega)]; try go_simp)); (first | done | (fail) | (with_reducible rfl) | exact rfl)))
                      simp only [Act.put, List.setIfInBounds_toArray, List.set_cons_zero, List.set_cons_succ]
                      refine WT_one 8 rfl (by kernel_rfl) ?_
                      unfold stepT
                      go_wp2_with fail
                      obtain ⟨y2g, hwA⟩ : ∃ wA, y2f.alloc (.cells #[.int .i64 0, .int .i64 0] 23) = wA := ⟨_, rfl⟩
                      rw [hwA]
                      have hb : Below y2f.heap.size y2f y2g := by subst hwA; exact bAlloc (bSelf _) _
                      have KA : Hid (Blk y2g y2f.heap.size #[.int .i64 0, .int .i64 0]) := by subst hwA; exact Blk.new _ _ _
                      have KAN := Lib.hid T.out.size
                      clear hwA
                      have hbd := Lib.hid (hb.mono T.out.size)
                      replace T := Lib.hid (bThen T.out hb)
                      try replace HA := Lib.hid (HA.out.to hb)
                      refine ⟨hbd.out, ?_⟩
                      clear hbd hb
                      refine WT_one 9 rfl (by kernel_rfl) ?_
                      unfold stepT
                      obtain ⟨hka, ka, fa⟩ := KA.out
                      go_wp2_with fail
                      clear ka fa
                      refine ⟨((Below.refl _ _).setCell (p := ⟨_, 0, none⟩) KAN.out _).setCell (p := ⟨_, 1, none⟩) KAN.out _, ?_⟩
                      refine WT_yes 10 rfl (by kernel_rfl) (fun _ _ _ _ _ h => h) (by rfl) ?_; apply Exists.intro; refine ⟨fun w1 hb1 => ?_, ?_⟩; (focus ((skip; have hb1 := Lib.hid hb1; go_simp); (try (go_bits; try go_simp)); (try (rw [if_pos (by omega)]; try go_simp)); (first | done | (fail) | (with_reducible rfl) | exact rfl)))
                      simp only [Act.put, List.setIfInBounds_toArray, List.set_cons_zero, List.set_cons_succ]
                      refine WT_done (by kernel_rfl) ?_
                      go_wp2_with fail
                      go_meet
                      case rel => exact ⟨_, rfl, rfl, Lib.hid ((KA.out.set 0 (.int .i64 (S - off * WE))).set 1 (.int .i64 (S + off * WE))), Lib.hid ((T.out.setCell (p := ⟨_, 0, none⟩) KAN.out _).setCell (p := ⟨_, 1, none⟩) KAN.out _)⟩
                    · skip
                      unfold stepT
                      go_wp2_with fail
                      obtain ⟨y2f, hwA⟩ : ∃ wA, y2e.alloc (.cells #[.int .i64 0, .int .i64 0] 23) = wA := ⟨_, rfl⟩
                      rw [hwA]
                      have hb : Below y2e.heap.size y2e y2f := by subst hwA; exact bAlloc (bSelf _) _
                      have KA : Hid (Blk y2f y2e.heap.size #[.int .i64 0, .int .i64 0]) := by subst hwA; exact Blk.new _ _ _
                      have KAN := Lib.hid T.out.size
                      clear hwA
                      have hbd := Lib.hid (hb.mono T.out.size)
                      replace T := Lib.hid (bThen T.out hb)
                      try replace HA := Lib.hid (HA.out.to hb)
                      refine ⟨hbd.out, ?_⟩
                      clear hbd hb
                      refine WT_one 4 rfl (by kernel_rfl) ?_
                      unfold stepT
                      go_wp2_with fail
                      refine (HE3.out _ _ _ HA.out).mono ?_
                      rintro e y2g ⟨rfl, hb⟩
                      have hbd := Lib.hid (hb.mono T.out.size)
                      replace T := Lib.hid (bThen T.out hb)
                      try replace KA := Lib.hid (KA.out.to hb)
                      clear hb
                      go_wp2_with fail
                      refine ⟨hbd.out, ?_⟩
                      clear hbd
                      refine WT_yes 5 rfl (by kernel_rfl) (fun _ _ _ _ _ h => h) (by rfl) ?_; apply Exists.intro; refine ⟨fun w1 hb1 => ?_, ?_⟩; (focus ((skip; have hb1 := Lib.hid hb1; go_simp); (try (go_bits; try go_simp)); (try (rw [if_pos (by omega)]; try go_simp)); (first | done | (fail) | (with_reducible rfl) | exact rfl)))
                      simp only [Act.put, List.setIfInBounds_toArray, List.set_cons_zero, List.set_cons_succ]
                      refine WT_yes 6 rfl (by kernel_rfl) (fun _ _ _ _ _ h => h) (by rfl) ?_; apply Exists.intro; refine ⟨fun w1 hb1 => ?_, ?_⟩; (focus ((skip; have hb1 := Lib.hid hb1; go_simp); (try (go_bits; try go_simp)); (try (rw [if_pos (by omega)]; try go_simp)); (first | done | (fail) | (with_reducible rfl) | exact rfl)))
                      simp only [Act.put, List.setIfInBounds_toArray, List.set_cons_zero, List.set_cons_succ]
                      refine WT_yes 7 rfl (by kernel_rfl) (fun _ _ _ _ _ h => h) (by rfl) ?_; apply Exists.intro; refine ⟨fun w1 hb1 => ?_, ?_⟩; (focus ((skip; have hb1 := Lib.hid hb1; go_simp); (try (go_bits; try go_simp)); (try (rw [if_pos (by omega)]; try go_simp)); (first | done | (fail) | (with_reducible rfl) | exact rfl)))
                      simp only [Act.put, List.setIfInBounds_toArray, List.set_cons_zero, List.set_cons_succ]
                      refine WT_one 9 rfl (by kernel_rfl) ?_
                      unfold stepT
                      obtain ⟨hka, ka, fa⟩ := KA.out
                      go_wp2_with fail
                      clear ka fa
                      refine ⟨((Below.refl _ _).setCell (p := ⟨_, 0, none⟩) KAN.out _).setCell (p := ⟨_, 1, none⟩) KAN.out _, ?_⟩
                      refine WT_yes 10 rfl (by kernel_rfl) (fun _ _ _ _ _ h => h) (by rfl) ?_; apply Exists.intro; refine ⟨fun w1 hb1 => ?_, ?_⟩; (focus ((skip; have hb1 := Lib.hid hb1; go_simp); (try (go_bits; try go_simp)); (try (rw [if_pos (by omega)]; try go_simp)); (first | done | (fail) | (with_reducible rfl) | exact rfl)))
                      simp only [Act.put, List.setIfInBounds_toArray, List.set_cons_zero, List.set_cons_succ]
                      refine WT_done (by kernel_rfl) ?_
                      go_wp2_with fail
                      go_meet
                      case rel => exact ⟨_, rfl, rfl, Lib.hid ((KA.out.set 0 (.int .i64 (S - off * WE))).set 1 (.int .i64 (S + off * WE))), Lib.hid ((T.out.setCell (p := ⟨_, 0, none⟩) KAN.out _).setCell (p := ⟨_, 1, none⟩) KAN.out _)⟩
                  · skip
                    unfold stepT
                    go_wp2_with fail
                    obtain ⟨y2e, hwA⟩ : ∃ wA, y2d.alloc (.cells #[.int .i64 0, .int .i64 0] 23) = wA := ⟨_, rfl⟩
                    rw [hwA]
                    have hb : Below y2d.heap.size y2d y2e := by subst hwA; exact bAlloc (bSelf _) _
                    have KA : Hid (Blk y2e y2d.heap.size #[.int .i64 0, .int .i64 0]) := by subst hwA; exact Blk.new _ _ _
                    have KAN := Lib.hid T.out.size
                    clear hwA
                    have hbd := Lib.hid (hb.mono T.out.size)
                    replace T := Lib.hid (bThen T.out hb)
                    try replace HA := Lib.hid (HA.out.to hb)
                    refine ⟨hbd.out, ?_⟩
                    clear hbd hb
                    refine WT_one 2 rfl (by kernel_rfl) ?_
                    unfold stepT
                    go_wp2_with fail
                    refine (HCP.out _ (HR.out.to T.out)).mono ?_
                    rintro e y2f ⟨a3, c3, rfl, -, hr3, hb, -⟩
                    have HA := Lib.hid hr3
                    clear hr3
                    have hbd := Lib.hid (hb.mono T.out.size)
                    replace T := Lib.hid (bThen T.out hb)
                    try replace KA := Lib.hid (KA.out.to hb)
                    clear hb
                    go_wp2_with fail
                    refine ⟨hbd.out, ?_⟩
                    clear hbd
                    refine WT_one 4 rfl (by kernel_rfl) ?_
                    unfold stepT
                    go_wp2_with fail
                    refine (HE3.out _ _ _ HA.out).mono ?_
                    rintro e y2g ⟨rfl, hb⟩
                    have hbd := Lib.hid (hb.mono T.out.size)
                    replace T := Lib.hid (bThen T.out hb)
                    try replace KA := Lib.hid (KA.out.to hb)
                    clear hb
                    go_wp2_with fail
                    refine ⟨hbd.out, ?_⟩
                    clear hbd
                    refine WT_yes 5 rfl (by kernel_rfl) (fun _ _ _ _ _ h => h) (by rfl) ?_; apply Exists.intro; refine ⟨fun w1 hb1 => ?_, ?_⟩; (focus ((skip; have hb1 := Lib.hid hb1; go_simp); (try (go_bits; try go_simp)); (try (rw [if_pos (by omega)]; try go_simp)); (first | done | (fail) | (with_reducible rfl) | exact rfl)))
                    simp only [Act.put, List.setIfInBounds_toArray, List.set_cons_zero, List.set_cons_succ]
                    refine WT_yes 6 rfl (by kernel_rfl) (fun _ _ _ _ _ h => h) (by rfl) ?_; apply Exists.intro; refine ⟨fun w1 hb1 => ?_, ?_⟩; (focus ((skip; have hb1 := Lib.hid hb1; go_simp); (try (go_bits; try go_simp)); (try (rw [if_pos (by omega)]; try go_simp)); (first | done | (fail) | (with_reducible rfl) | exact rfl)))
                    simp only [Act.put, List.setIfInBounds_toArray, List.set_cons_zero, List.set_cons_succ]
                    refine WT_yes 7 rfl (by kernel_rfl) (fun _ _ _ _ _ h => h) (by rfl) ?_; apply Exists.intro; refine ⟨fun w1 hb1 => ?_, ?_⟩; (focus ((skip; have hb1 := Lib.hid hb1; go_simp); (try (go_bits; try go_simp)); (try (rw [if_pos (by omega)]; try go_simp)); (first | done | (fail) | (with_reducible rfl) | exact rfl)))
                    simp only [Act.put, List.setIfInBounds_toArray, List.set_cons_zero, List.set_cons_succ]
                    refine WT_one 9 rfl (by kernel_rfl) ?_
                    unfold stepT
                    obtain ⟨hka, ka, fa⟩ := KA.out
                    go_wp2_with fail
                    clear ka fa
                    refine ⟨((Below.refl _ _).setCell (p := ⟨_, 0, none⟩) KAN.out _).setCell (p := ⟨_, 1, none⟩) KAN.out _, ?_⟩
                    refine WT_yes 10 rfl (by kernel_rfl) (fun _ _ _ _ _ h => h) (by rfl) ?_; apply Exists.intro; refine ⟨fun w1 hb1 => ?_, ?_⟩; (focus ((skip; have hb1 := Lib.hid hb1; go_simp); (try (go_bits; try go_simp)); (try (rw [if_pos (by omega)]; try go_simp)); (first | done | (fail) | (with_reducible rfl) | exact rfl)))
                    simp only [Act.put, List.setIfInBounds_toArray, List.set_cons_zero, List.set_cons_succ]
                    refine WT_done (by kernel_rfl) ?_
                    go_wp2_with fail
                    go_meet
                    case rel => exact ⟨_, rfl, rfl, Lib.hid ((KA.out.set 0 (.int .i64 (S - off * WE))).set 1 (.int .i64 (S + off * WE))), Lib.hid ((T.out.setCell (p := ⟨_, 0, none⟩) KAN.out _).setCell (p := ⟨_, 1, none⟩) KAN.out _)⟩
              case rest =>
                obtain ⟨BB, rfl, rfl, KB2, hb⟩ := hcut
                replace K0 := Lib.hid (K0.out.to hb.out)
                replace HO := Lib.hid (HO.out.to hb.out)
                replace KB1 := Lib.hid (KB1.out.to hb.out)
                replace HB := Lib.hid (bThen HB.out hb.out)
                clear hb hK0 HR K0
                obtain ⟨x6, hx6⟩ : ∃ x6, x6 = wc := ⟨_, rfl⟩
                subst hx6
                go_wp2_with fail
                go_loopw [28, 29] (fun u v wr => ∃ i : Nat, ∃ t : Int, 1 ≤ i ∧ i ≤ own.length ∧ v = .int .i64 i ∧ u = .int .i64 t ∧ Hid (t = waysV own (i - 1)) ∧ 0 ≤ t ∧ t ≤ 200003 * (i : Int) ∧ Hid (x6 = wr)) (fun _ v _ => own.length - (intOf v).toNat)
                case atStart => exact ⟨1, 0, Nat.le_refl _, hol1, rfl, rfl, Lib.hid rfl, Int.le_refl 0, by omega, Lib.hid rfl⟩
                case round =>
                  obtain ⟨i, t, hi1, hi2, rfl, rfl, ht, ht1, ht2, hw⟩ := hrel
                  replace HO := Lib.hid (show Reads _ _ _ _ from hw.out ▸ HO.out)
                  replace KB1 := Lib.hid (show Blk _ _ _ from hw.out ▸ KB1.out)
                  replace KB2 := Lib.hid (show Blk _ _ _ from hw.out ▸ KB2.out)
                  by_cases hlt : i < own.length
                  · skip
                    obtain ⟨k, hk⟩ : ∃ k, i = k + 1 := ⟨i - 1, by omega⟩
                    have hltI : decide ((i : Int) < (own.length : Int)) = true := decide_eq_true (by omega)
                    obtain ⟨⟨v2a, v2b⟩, bfa, bfb⟩ := HWY.out k (by omega)
                    obtain ⟨b', o', e', hbO, hcO⟩ := HO.out.at (k := k) (by omega)
                    cases e'
                    have c2 : wr.cell? ⟨bO, oO + i, none⟩ = some (.int .i64 (gi own (k + 1))) := by rw [← hk]; exact hcO i hlt
                    have hbf : Hid ((k = 0 ∧ bfV own k = 0) ∨ ∃ j, k = j + 1 ∧ wr.cell? ⟨bO, oO + j, none⟩ = some (.int .i64 (bfV own k))) := Lib.hid (by
                      cases k with
                      | zero => exact .inl ⟨rfl, rfl⟩
                      | succ j =>
                        refine .inr ⟨j, rfl, ?_⟩
                        have e : bfV own (j + 1) = gi own j := by unfold bfV; rw [if_neg (by omega)]; rfl
                        rw [e]; exact hcO j (by omega))
                    have hww : Hid (waysV own (i + 1 - 1) = waysV own (i - 1) + sizeI (gi own (k + 1) - bfV own k)) := Lib.hid (by rw [hk]; rfl)
                    clear hcO
                    obtain ⟨v2, hv2⟩ : ∃ v, gi own (k + 1) = v := ⟨_, rfl⟩
                    obtain ⟨bf, hbe⟩ : ∃ v, bfV own k = v := ⟨_, rfl⟩
                    rw [hv2] at c2 v2a v2b hww
                    rw [hbe] at hbf bfa bfb hww
                    have HC2 := Lib.hid c2
                    clear hv2 hbe c2
                    have HKI := Lib.hid hk
                    clear hk
                    go_upto_if 277 with (fail)
                    go_cut [30] (fun s30 wd => s30 = .int .i64 bf ∧ wr = wd)
                    case first =>
                      rcases hbf.out with ⟨rfl, rfl⟩ | ⟨j, rfl, c4⟩
                      · have hile : (i : Int) ≤ 1 := by have := HKI.out; omega
                        have hgt : decide ((1 : Int) < (i : Int)) = false := decide_eq_false (by omega)
                        go_wp2_with fail
                        go_meet
                        case rel => exact ⟨rfl, rfl⟩
                      · have hgt : decide ((1 : Int) < (i : Int)) = true := decide_eq_true (by have := HKI.out; omega)
                        have hij : (i : Int) - 2 = (j : Int) := by have := HKI.out; omega
                        have hjr : j < own.length := by have := HKI.out; omega
                        go_wp2_with fail
                        go_meet
                        case rel => exact ⟨rfl, rfl⟩
                    case rest =>
                      obtain ⟨rfl, rfl⟩ := hcut
                      clear hbf
                      have c2 := HC2.out
                      obtain ⟨sz1, sz2⟩ := sizeI_bd (n := v2 - bf) (B := 200003) (by omega) (by omega)
                      go_wp2_with (go_at_call 21; refine (Size_any _ _ (by omega) (by omega)).mono ?_; rintro e w' ⟨rfl, rfl⟩)
                      go_roundw
                      case rel => exact ⟨i + 1, t + sizeI (v2 - bf), by omega, by omega, by go_num, rfl, Lib.hid (by rw [hww.out, ht.out]), by omega, by omega, hw⟩
                      case measure => simp [intOf]; omega
                  · skip
                    have hii : i = own.length := by omega
                    have htw : t = WE := by rw [ht.out, hii]; exact HWE2.out
                    have hltI : decide ((i : Int) < (own.length : Int)) = false := decide_eq_false (by omega)
                    have hltN : decide (i < own.length) = false := decide_eq_false hlt
                    clear ht hii
                    subst htw
                    have hp := mul_bd (a := off) (b := t) (A := 1000) (B := 200003 * 40) (by omega) ho2 (by omega) hWE2
                    obtain ⟨p1, p2⟩ := hp
                    have hs1 : (S == S) = true := by simp
                    have hs2 : (S - off * t == S - off * t) = true := by simp
                    have hs3 : (S + off * t == S + off * t) = true := by simp
                    obtain ⟨-, k1, -⟩ := KB1.out
                    obtain ⟨-, k2, -⟩ := KB2.out
                    go_wp2_with fail
                    go_ret
                    exact ⟨rfl, by rw [← hw.out]; exact HB.out⟩

end Go.Proofs.Ytjieojkfpoiabaa
