/-
  Texts of this claim, in their build order: OR6 OR7 OR8 OL4 OW1 OW2 OW3 OW4 OR10 OR11 OR12 OW6 R1 OL5.
-/
import Derived.Test.YtjfedpblkejmkaaGreatWit47
import Derived.Test.YtjfedpblkejmkaaGreatWit18
import Derived.Test.YtjfedpblkejmkaaGreatWit19
import Derived.Test.YtjfedpblkejmkaaGreatWit46
import Derived.Test.YtjfedpblkejmkaaGreatWit25
import Derived.Test.YtjfedpblkejmkaaGreatWit26
import Derived.Test.YtjfedpblkejmkaaGreatWit36
import Derived.Test.YtjfedpblkejmkaaGreatWit29
import Derived.Test.YtjfedpblkejmkaaGreatWit22

/-
  The reference: CheckPlant, PlantErr.
-/
namespace Go.Proofs.YtjfedpblkejmkaaGreat
open Go.RowKit
attribute [local go_sem] Oper.semAt_some

theorem ptE_val (l : List (Int × Int)) (k : Nat) : ptE l k = if wthn (fg l k).1 0 200 = false then 2 else if wthn (fg l k).2 0 1000 = false then 2 else if ordB l k = false then 9 else 0 := by
  unfold ptE
  cases wthn (fg l k).1 0 200 <;> cases wthn (fg l k).2 0 1000 <;> cases ordB l k <;> rfl
theorem pltE_val (p : Plt) : pltE p = if wthn p.pump 0 50 = false then 2 else if wthn p.on 0 1000 = false then 2 else if wthn p.off 0 1000 = false then 2 else if decide (p.on < p.off) = false then 9 else 0 := by
  unfold pltE
  cases wthn p.pump 0 50 <;> cases wthn p.on 0 1000 <;> cases wthn p.off 0 1000 <;> cases decide (p.on < p.off) <;> rfl
theorem fewE_val (n : Int) : fewE n = if n < 2 then 10 else if 8 < n then 8 else 0 := by
  unfold fewE
  by_cases h1 : n < 2
  · rw [if_pos h1, decide_eq_false (show ¬ 2 ≤ n by omega)]; rfl
  · rw [if_neg h1, decide_eq_true (show 2 ≤ n by omega)]
    by_cases h2 : 8 < n
    · rw [if_pos h2, decide_eq_false (show ¬ n ≤ 8 by omega)]; rfl
    · rw [if_neg h2, decide_eq_true (show n ≤ 8 by omega)]; rfl

set_option maxHeartbeats 6400000 in
set_option maxRecDepth 100000 in
theorem rCheckPlant_any (p : Plt) (a : Option Addr) (cap : Nat) (w : World) (hlen : p.pts.length ≤ 100000) (hr : Reads w a (p.pts.length * 2) (fracs p.pts)) :
    Calls Tryz.prog 62 #[.agg (plC p a cap)] w fun e w' => e = .returned (.tuple #[.int .i64 (chP p).1, .int .i64 (chP p).2]) ∧ Below w.heap.size w w' := by
  have HCH : Hid (chP p = if fewE p.pts.length ≠ 0 then (0, fewE p.pts.length) else if (eachR (ptE p.pts) 0 p.pts.length).2 ≠ 0 then eachR (ptE p.pts) 0 p.pts.length else (0, pltE p)) := Lib.hid rfl
  have HFE := Lib.hid (fewE_val p.pts.length)
  have HPE := Lib.hid (fun k => ptE_val p.pts k)
  have HLE := Lib.hid (pltE_val p)
  have HR := Lib.hid hr
  obtain ⟨⟨c1, c2⟩, hc⟩ : ∃ c, chP p = c := ⟨_, rfl⟩
  rw [hc] at HCH ⊢
  obtain ⟨l, pump, on, off⟩ := p
  unfold plC
  dsimp only at HR hlen HCH HFE HPE HLE ⊢
  obtain ⟨pe, hpe⟩ : ∃ e, pltE ⟨l, pump, on, off⟩ = e := ⟨_, rfl⟩
  rw [hpe] at HCH HLE
  obtain ⟨n, hn⟩ : ∃ n, l.length = n := ⟨_, rfl⟩
  have HN := Lib.hid hn
  rw [hn] at HR hlen HCH HFE ⊢
  obtain ⟨fe, hfe⟩ : ∃ e, fewE n = e := ⟨_, rfl⟩
  rw [hfe] at HCH HFE
  clear hr hc hpe hn hfe
  go_enter Tryz.func62, Tryz.ntmps62
  by_cases n2 : (n : Int) < 2
  · have hq : (c1, c2) = (0, 10) := by rw [HCH.out, HFE.out, if_pos n2]; rfl
    injection hq with h1 h2
    subst h1 h2
    clear HCH HFE HPE HLE
    go_wp2_with fail
    go_ret2
    exact ⟨rfl, bAlloc (bSelf w) _⟩
  · by_cases n8 : 8 < (n : Int)
    · have hq : (c1, c2) = (0, 8) := by rw [HCH.out, HFE.out, if_neg n2, if_pos n8]; rfl
      injection hq with h1 h2
      subst h1 h2
      clear HCH HFE HPE HLE
      go_wp2_with fail
      go_ret2
      exact ⟨rfl, bAlloc (bSelf w) _⟩
    · have hf0 : fe = 0 := by rw [HFE.out, if_neg n2, if_neg n8]
      subst hf0
      have hq : (c1, c2) = if (eachR (ptE l) 0 n).2 ≠ 0 then eachR (ptE l) 0 n else (0, pe) := by rw [HCH.out]; rfl
      replace HCH := Lib.hid hq
      clear hq HFE
      go_wp2_with fail
      obtain ⟨W, hW⟩ : ∃ W, w.alloc (.cells #[.slice a n cap, .int .i64 pump, .int .i64 on, .int .i64 off] 44) = W := ⟨_, rfl⟩
      rw [hW]
      have K1 : Hid (Blk W w.heap.size #[.slice a n cap, .int .i64 pump, .int .i64 on, .int .i64 off]) := by subst hW; exact Lib.hid (Blk.new _ _ _)
      have HB : Hid (Below w.heap.size w W) := by subst hW; exact Lib.hid (bAlloc (bSelf w) _)
      replace HR := Lib.hid (HR.out.to HB.out)
      clear hW
      go_loopw [5] (fun s5 wr => ∃ k : Nat, k ≤ n ∧ s5 = .int .i64 k ∧ Hid (eachR (ptE l) 0 n = eachR (ptE l) k (n - k)) ∧ Hid (Below W.heap.size W wr)) (fun s5 _ => n - (intOf s5).toNat)
      case atStart => exact ⟨0, Nat.zero_le _, rfl, Lib.hid rfl, Lib.hid (bSelf W)⟩
      case round =>
        obtain ⟨k, hk, rfl, hee, hB⟩ := hrel
        obtain ⟨wo, hwo⟩ : ∃ wo, wo = wr := ⟨_, rfl⟩
        subst hwo
        by_cases hlt : k < n
        · have HPK := Lib.hid (HPE.out k)
          have HBAD : Hid (∀ e, ptE l k = e → e ≠ 0 → (c1, c2) = ((k : Int), e)) := Lib.hid (fun e he hne => by
            have h1 := eachR_stop (err := ptE l) hlt (by rw [he]; exact hne)
            rw [HCH.out, hee.out, h1, he, if_pos hne])
          have HGO : Hid (ptE l k = 0 → eachR (ptE l) 0 n = eachR (ptE l) (k + 1) (n - (k + 1))) := Lib.hid (fun h => hee.out.trans (eachR_step hlt h))
          obtain ⟨b, off', rfl, hb, hc⟩ := (HR.out.to hB.out).at (k := k * 2) (by omega)
          obtain ⟨⟨v, q⟩, hv⟩ : ∃ v, fg l k = v := ⟨_, rfl⟩
          have H0 : Hid (wo.cell? ⟨b, off' + k * 2, none⟩ = some (.int .i64 v)) := Lib.hid (by have := hc (k * 2) (by omega); rw [fracs0, hv] at this; exact this)
          have H1 : Hid (wo.cell? ⟨b, off' + k * 2 + 1, none⟩ = some (.int .i64 q)) := Lib.hid (by have := hc (k * 2 + 1) (by omega); rw [fracs1, hv] at this; exact this)
          have HBL : Hid (b < wo.heap.size) := Lib.hid hb
          have HOB : Hid (ordB l k = if k = 0 then v == 0 else decide ((fg l (k - 1)).1 < v) && decide ((fg l (k - 1)).2 < q)) := Lib.hid (by
            unfold ordB
            by_cases h0 : k = 0
            · subst h0; rw [if_pos rfl, if_pos rfl, hv]
            · rw [if_neg h0, if_neg h0, hv])
          rw [hv] at HPK
          dsimp only at HPK
          obtain ⟨bv, hbv⟩ : ∃ b, wthn v 0 200 = b := ⟨_, rfl⟩
          obtain ⟨bq, hbq⟩ : ∃ b, wthn q 0 1000 = b := ⟨_, rfl⟩
          obtain ⟨bo, hbo⟩ : ∃ b, ordB l k = b := ⟨_, rfl⟩
          have HV := Lib.hid (fun W => (show Calls Tryz.prog 42 #[.int .i64 v, .int .i64 0, .int .i64 200] W fun e w' => e = .returned (.bool bv) ∧ W = w' from by rw [← hbv]; exact bWth_any v 0 200 W))
          have HQ := Lib.hid (fun W => (show Calls Tryz.prog 42 #[.int .i64 q, .int .i64 0, .int .i64 1000] W fun e w' => e = .returned (.bool bq) ∧ W = w' from by rw [← hbq]; exact bWth_any q 0 1000 W))
          rw [hbv, hbq, hbo] at HPK
          rw [hbo] at HOB
          have HIN : Hid (0 < k → ∃ v' q', wo.cell? ⟨b, off' + (k - 1) * 2, none⟩ = some (.int .i64 v') ∧ wo.cell? ⟨b, off' + (k - 1) * 2 + 1, none⟩ = some (.int .i64 q') ∧ fg l (k - 1) = (v', q')) := Lib.hid (fun h0 => by
            refine ⟨(fg l (k - 1)).1, (fg l (k - 1)).2, ?_, ?_, rfl⟩
            · have := hc ((k - 1) * 2) (by omega); rw [fracs0] at this; exact this
            · have := hc ((k - 1) * 2 + 1) (by omega); rw [fracs1] at this; exact this)
          clear hc hv hbv hbq hbo hb
          obtain c0 := H0.out
          obtain c1' := H1.out
          go_wp2_with fail
          refine (HV.out _).mono ?_
          rintro e w' ⟨rfl, rfl⟩
          cases bv with
          | false =>
            have hq := HBAD.out 2 (by rw [HPK.out]; rfl) (by decide)
            injection hq with h1 h2
            subst h1 h2
            go_wp2_with fail
            go_ret2
            exact ⟨rfl, bThen HB.out hB.out⟩
          | true =>
            go_wp2_with fail
            refine (HQ.out _).mono ?_
            rintro e w' ⟨rfl, rfl⟩
            cases bq with
            | false =>
              have hq := HBAD.out 2 (by rw [HPK.out]; rfl) (by decide)
              injection hq with h1 h2
              subst h1 h2
              go_wp2_with fail
              go_ret2
              exact ⟨rfl, bThen HB.out hB.out⟩
            | true =>
              clear c0 c1'
              go_upto_region 11 with (fail)
              go_cut [78] from 37 to 78 (fun s78 wc => s78 = .bool (!bo) ∧ Hid (Below wo.heap.size wo wc))
              case first =>
                by_cases hk0 : k = 0
                · subst hk0
                  have hbo := HOB.out
                  rw [if_pos rfl] at hbo
                  replace H0 : Hid (wo.cell? ⟨b, off', none⟩ = some (.int .i64 v)) := Lib.hid (by have := H0.out; rwa [Nat.zero_mul, Nat.add_zero] at this)
                  have hn0 : (0 : Int) < (n : Int) := by omega
                  clear HOB HBAD HGO HIN HPK H1 hee
                  cases hz : v == 0
                  · rw [hz] at hbo
                    subst hbo
                    have hz' : (v != 0) = true := by rw [bne, hz]; rfl
                    clear hz
                    refine wp_region_quiet_all (fun w' => Below (World.heap wo).size (wo) w') (by kernel_rfl) (by kernel_rfl) (Below.refl _ _).drew ?_
                    refine WQ.out ?_
                    repeat (first | (refine WQ_no (by rfl) ?_; (simp only [Act.put, List.setIfInBounds_toArray, List.set_cons_zero, List.set_cons_succ])) | (refine WQ_yes (by rfl) ?_; apply Exists.intro; refine ⟨fun w1 hb1 => ?_, ?_⟩; (focus (((have c0 := (hb1.cell (p := ⟨b, off', none⟩) HBL.out).trans H0.out); have hb1 := Lib.hid hb1; go_simp); (try (go_bits; try go_simp)); (try (rw [if_pos (by omega)]; try go_simp)); (first | done | (fail) | (with_reducible rfl) | exact rfl))); (simp only [Act.put, List.setIfInBounds_toArray, List.set_cons_zero, List.set_cons_succ])))
                    refine WQ_nil ?_
                    intro w1 hb1
                    go_wp2_with fail
                    go_meet
                    case rel => exact ⟨rfl, Lib.hid hb1⟩
                  · rw [hz] at hbo
                    subst hbo
                    have hz' : (v != 0) = false := by rw [bne, hz]; rfl
                    clear hz
                    refine wp_region_quiet_all (fun w' => Below (World.heap wo).size (wo) w') (by kernel_rfl) (by kernel_rfl) (Below.refl _ _).drew ?_
                    refine WQ.out ?_
                    repeat (first | (refine WQ_no (by rfl) ?_; (simp only [Act.put, List.setIfInBounds_toArray, List.set_cons_zero, List.set_cons_succ])) | (refine WQ_yes (by rfl) ?_; apply Exists.intro; refine ⟨fun w1 hb1 => ?_, ?_⟩; (focus (((have c0 := (hb1.cell (p := ⟨b, off', none⟩) HBL.out).trans H0.out); have hb1 := Lib.hid hb1; go_simp); (try (go_bits; try go_simp)); (try (rw [if_pos (by omega)]; try go_simp)); (first | done | (fail) | (with_reducible rfl) | exact rfl))); (simp only [Act.put, List.setIfInBounds_toArray, List.set_cons_zero, List.set_cons_succ])))
                    refine WQ_nil ?_
                    intro w1 hb1
                    go_wp2_with fail
                    go_meet
                    case rel => exact ⟨rfl, Lib.hid hb1⟩
                · obtain ⟨j, hj⟩ : ∃ j, k = j + 1 := ⟨k - 1, by omega⟩
                  obtain ⟨v', q', d0, d1, hf⟩ := HIN.out (by omega)
                  have hbo := HOB.out
                  rw [if_neg hk0, hf] at hbo
                  have D0 : Hid (wo.cell? ⟨b, off' + j * 2, none⟩ = some (.int .i64 v')) := Lib.hid (by rw [show k - 1 = j by omega] at d0; exact d0)
                  have D1 : Hid (wo.cell? ⟨b, off' + j * 2 + 1, none⟩ = some (.int .i64 q')) := Lib.hid (by rw [show k - 1 = j by omega] at d1; exact d1)
                  have g1 : ((k : Int) == 0) = false := by rw [beq_eq_false_iff_ne]; omega
                  have g2 : decide ((0 : Int) < (k : Int)) = true := decide_eq_true (by omega)
                  have g2' : 0 < k := by omega
                  have g3 : (k : Int) - 1 = (j : Int) := by omega
                  have g4 : (k : Int) < (n : Int) := by omega
                  have g5 : (j : Int) < (n : Int) := by omega
                  clear HOB HBAD HGO HIN HPK hee d0 d1 hf hj hk0
                  cases h1 : decide (v ≤ v')
                  · cases h2 : decide (q ≤ q')
                    · have hb' : bo = true := by
                        have e1 := of_decide_eq_false h1
                        have e2 := of_decide_eq_false h2
                        rw [hbo, decide_eq_true (show (v', q').1 < v by dsimp only; omega), decide_eq_true (show (v', q').2 < q by dsimp only; omega)]; rfl
                      clear hbo
                      subst hb'
                      refine wp_region_quiet_all (fun w' => Below (World.heap wo).size (wo) w') (by kernel_rfl) (by kernel_rfl) (Below.refl _ _).drew ?_
                      refine WQ.out ?_
                      repeat (first | (refine WQ_no (by rfl) ?_; (simp only [Act.put, List.setIfInBounds_toArray, List.set_cons_zero, List.set_cons_succ])) | (refine WQ_yes (by rfl) ?_; apply Exists.intro; refine ⟨fun w1 hb1 => ?_, ?_⟩; (focus (((have c0 := (hb1.cell (p := ⟨b, off' + k * 2, none⟩) HBL.out).trans H0.out; have c1 := (hb1.cell (p := ⟨b, off' + k * 2 + 1, none⟩) HBL.out).trans H1.out; have d0 := (hb1.cell (p := ⟨b, off' + j * 2, none⟩) HBL.out).trans D0.out; have d1 := (hb1.cell (p := ⟨b, off' + j * 2 + 1, none⟩) HBL.out).trans D1.out); have hb1 := Lib.hid hb1; go_simp); (try (go_bits; try go_simp)); (try (rw [if_pos (by omega)]; try go_simp)); (first | done | (fail) | (with_reducible rfl) | exact rfl))); (simp only [Act.put, List.setIfInBounds_toArray, List.set_cons_zero, List.set_cons_succ])))
                      refine WQ_nil ?_
                      intro w1 hb1
                      go_wp2_with fail
                      go_meet
                      case rel => exact ⟨rfl, Lib.hid hb1⟩
                    · have hb' : bo = false := by
                        have e2 := of_decide_eq_true h2
                        rw [hbo, decide_eq_false (show ¬ (v', q').2 < q by dsimp only; omega), Bool.and_false]
                      clear hbo
                      subst hb'
                      refine wp_region_quiet_all (fun w' => Below (World.heap wo).size (wo) w') (by kernel_rfl) (by kernel_rfl) (Below.refl _ _).drew ?_
                      refine WQ.out ?_
                      repeat (first | (refine WQ_no (by rfl) ?_; (simp only [Act.put, List.setIfInBounds_toArray, List.set_cons_zero, List.set_cons_succ])) | (refine WQ_yes (by rfl) ?_; apply Exists.intro; refine ⟨fun w1 hb1 => ?_, ?_⟩; (focus (((have c0 := (hb1.cell (p := ⟨b, off' + k * 2, none⟩) HBL.out).trans H0.out; have c1 := (hb1.cell (p := ⟨b, off' + k * 2 + 1, none⟩) HBL.out).trans H1.out; have d0 := (hb1.cell (p := ⟨b, off' + j * 2, none⟩) HBL.out).trans D0.out; have d1 := (hb1.cell (p := ⟨b, off' + j * 2 + 1, none⟩) HBL.out).trans D1.out); have hb1 := Lib.hid hb1; go_simp); (try (go_bits; try go_simp)); (try (rw [if_pos (by omega)]; try go_simp)); (first | done | (fail) | (with_reducible rfl) | exact rfl))); (simp only [Act.put, List.setIfInBounds_toArray, List.set_cons_zero, List.set_cons_succ])))
                      refine WQ_nil ?_
                      intro w1 hb1
                      go_wp2_with fail
                      go_meet
                      case rel => exact ⟨rfl, Lib.hid hb1⟩
                  · have hb' : bo = false := by
                      have e1 := of_decide_eq_true h1
                      rw [hbo, decide_eq_false (show ¬ (v', q').1 < v by dsimp only; omega), Bool.false_and]
                    clear hbo
                    subst hb'
                    refine wp_region_quiet_all (fun w' => Below (World.heap wo).size (wo) w') (by kernel_rfl) (by kernel_rfl) (Below.refl _ _).drew ?_
                    refine WQ.out ?_
                    repeat (first | (refine WQ_no (by rfl) ?_; (simp only [Act.put, List.setIfInBounds_toArray, List.set_cons_zero, List.set_cons_succ])) | (refine WQ_yes (by rfl) ?_; apply Exists.intro; refine ⟨fun w1 hb1 => ?_, ?_⟩; (focus (((have c0 := (hb1.cell (p := ⟨b, off' + k * 2, none⟩) HBL.out).trans H0.out; have c1 := (hb1.cell (p := ⟨b, off' + k * 2 + 1, none⟩) HBL.out).trans H1.out; have d0 := (hb1.cell (p := ⟨b, off' + j * 2, none⟩) HBL.out).trans D0.out; have d1 := (hb1.cell (p := ⟨b, off' + j * 2 + 1, none⟩) HBL.out).trans D1.out); have hb1 := Lib.hid hb1; go_simp); (try (go_bits; try go_simp)); (try (rw [if_pos (by omega)]; try go_simp)); (first | done | (fail) | (with_reducible rfl) | exact rfl))); (simp only [Act.put, List.setIfInBounds_toArray, List.set_cons_zero, List.set_cons_succ])))
                    refine WQ_nil ?_
                    intro w1 hb1
                    go_wp2_with fail
                    go_meet
                    case rel => exact ⟨rfl, Lib.hid hb1⟩
              obtain ⟨wq, hwq⟩ : ∃ wq, wq = wc := ⟨_, rfl⟩
              subst hwq
              obtain ⟨rfl, HWC⟩ := hcut
              cases bo with
              | false =>
                have hq := HBAD.out 9 (by rw [HPK.out]; rfl) (by decide)
                injection hq with h1 h2
                subst h1 h2
                go_wp2_with fail
                go_ret2
                exact ⟨rfl, bThen HB.out (bThen hB.out HWC.out)⟩
              | true =>
                have HG := Lib.hid (HGO.out (by rw [HPK.out]; rfl))
                go_wp2_with fail
                go_roundw
                case rel => exact ⟨k + 1, by omega, by go_num, HG, Lib.hid (bThen hB.out HWC.out)⟩
                case measure => simp [intOf]; omega
        · obtain rfl : k = n := by omega
          have HCE : Hid ((c1, c2) = (0, pe)) := Lib.hid (by rw [HCH.out, hee.out, Nat.sub_self]; rfl)
          have hq := HCE.out
          injection hq with h1 h2
          subst h1 h2
          clear HCH HPE hee HCE
          have HF1 := Lib.hid (fun W => rFlowErr_any pump W)
          have HF2 := Lib.hid (fun W => rLimitErr_any on W)
          have HF3 := Lib.hid (fun W => rLimitErr_any off W)
          obtain ⟨bp, hbp⟩ : ∃ b, wthn pump 0 50 = b := ⟨_, rfl⟩
          obtain ⟨bn, hbn⟩ : ∃ b, wthn on 0 1000 = b := ⟨_, rfl⟩
          obtain ⟨bf, hbf⟩ : ∃ b, wthn off 0 1000 = b := ⟨_, rfl⟩
          rw [hbp] at HF1 HLE
          rw [hbn] at HF2 HLE
          rw [hbf] at HF3 HLE
          clear hbp hbn hbf
          obtain ⟨-, k1, -⟩ := K1.out.to hB.out
          go_wp2_with fail
          refine (HF1.out _).mono ?_
          rintro e w' ⟨rfl, rfl⟩
          cases bp with
          | false =>
            obtain rfl : c2 = 2 := HLE.out
            go_wp2_with fail
            go_ret2
            exact ⟨rfl, bThen HB.out hB.out⟩
          | true =>
            go_wp2_with fail
            refine (HF2.out _).mono ?_
            rintro e w' ⟨rfl, rfl⟩
            cases bn with
            | false =>
              obtain rfl : c2 = 2 := HLE.out
              go_wp2_with fail
              go_ret2
              exact ⟨rfl, bThen HB.out hB.out⟩
            | true =>
              go_wp2_with fail
              refine (HF3.out _).mono ?_
              rintro e w' ⟨rfl, rfl⟩
              cases bf with
              | false =>
                obtain rfl : c2 = 2 := HLE.out
                go_wp2_with fail
                go_ret2
                exact ⟨rfl, bThen HB.out hB.out⟩
              | true =>
                cases g1 : decide (on < off) with
                | false =>
                  obtain rfl : c2 = 9 := by rw [HLE.out, g1]; rfl
                  have g2 : decide (off ≤ on) = true := decide_eq_true (by have := of_decide_eq_false g1; omega)
                  clear g1
                  go_wp2_with fail
                  go_ret2
                  exact ⟨rfl, bThen HB.out hB.out⟩
                | true =>
                  obtain rfl : c2 = 0 := by rw [HLE.out, g1]; rfl
                  have g2 : decide (off ≤ on) = false := decide_eq_false (by have := of_decide_eq_true g1; omega)
                  clear g1
                  go_wp2_with fail
                  go_ret2
                  exact ⟨rfl, bThen HB.out hB.out⟩

theorem rPlantErr_any (p : Plt) (a : Option Addr) (cap : Nat) (w : World) (hlen : p.pts.length ≤ 100000) (hr : Reads w a (p.pts.length * 2) (fracs p.pts)) :
    Calls Tryz.prog 27 #[.agg (plC p a cap)] w fun e w' => e = .returned (.int .i64 (chP p).2) ∧ Below w.heap.size w w' := by
  have HC := Lib.hid (fun W (hb : Below w.heap.size w W) => rCheckPlant_any p a cap W hlen (hr.to hb))
  clear hr
  go_enter Tryz.func27, Tryz.ntmps27
  go_wp2_with fail
  refine (HC.out _ (bAlloc (bSelf w) _)).mono ?_
  rintro e w1 ⟨rfl, hb⟩
  have HB := Lib.hid (bThen (bAlloc (bSelf w) _) hb)
  clear hb
  go_wp2_with fail
  go_ret
  exact ⟨rfl, HB.out⟩

end Go.Proofs.YtjfedpblkejmkaaGreat

/-
  The reference's pressures: line, Pressure.
-/
namespace Go.Proofs.YtjfedpblkejmkaaGreat
open Go.RowKit
attribute [local go_sem] Oper.semAt_some

theorem dg_few {n : Int} (h1 : -1000000000000 ≤ n) (h2 : n ≤ 1000000000000) : (dg n).length ≤ 20 := Nat.le_trans (dg_small 3 (Nat.lt_of_lt_of_le (show n.natAbs < 1000000000000000000 by omega) (by decide))) (by decide)
theorem RR.st4 {W : World} {a1 a2 : Option Addr} {v : Value} {q : Int × Int} {b : Nat} (h : RR W a1 a2 v q) (hl : Loc (fun c => c ≠ b) a1 q.1 ∧ Loc (fun c => c ≠ b) a2 q.2) (x0 x1 x2 x3 : Value) : RR (Go.Proofs.YtjfedpblkejmkaaGreat.st4 W b x0 x1 x2 x3) a1 a2 v q :=
  (((h.set1 hl.1 hl.2 x0).set1 hl.1 hl.2 x1).set1 hl.1 hl.2 x2).set1 hl.1 hl.2 x3
set_option maxHeartbeats 3200000 in
set_option maxRecDepth 100000 in
theorem rLine_any (x y u v at' : Int) (w : World) (hx : -100000 ≤ x ∧ x ≤ 100000) (hy : -100000 ≤ y ∧ y ≤ 100000) (hu : u ≤ 100000) (hv : -100000 ≤ v ∧ v ≤ 100000) (ha : -100000 ≤ at' ∧ at' ≤ 100000) (hxu : x < u) :
    Calls Tryz.prog 139 #[.int .i64 x, .int .i64 y, .int .i64 u, .int .i64 v, .int .i64 at'] w fun e w1 => RPost [] (rAdd (y, 1) (fr ((v - y) * (at' - x)) (u - x))) w e w1 := by
  obtain ⟨x1, x2⟩ := hx
  obtain ⟨y1, y2⟩ := hy
  obtain ⟨v1, v2⟩ := hv
  obtain ⟨a1, a2⟩ := ha
  have pm := mul_bd (a := v - y) (b := at' - x) (A := 200000) (B := 200000) (by omega) (by omega) (by omega) (by omega)
  obtain ⟨pm1, pm2⟩ := pm
  have HI := Lib.hid (fun W => RatioInt_any y W (by omega) (by omega))
  have HF := Lib.hid (fun W => RatioOf_any ((v - y) * (at' - x)) (u - x) W (by omega) (by omega) (by omega) (by omega))
  have HA := Lib.hid (fun W c1 c2 d1 d2 z1 z2 h1 h2 => RatioAdd_any (y, 1) (fr ((v - y) * (at' - x)) (u - x)) c1 c2 d1 d2 z1 z2 W h1 h2 (dg_few (by dsimp only; omega) (by dsimp only; omega)) (dg_few (by dsimp only; omega) (by dsimp only; omega)) (dg_fr1 (dg_few (by omega) (by omega))) (dg_fr2 (dg_few (by omega) (by omega))) (by dsimp only; omega) (fr_pos (by omega)))
  obtain ⟨q, hq⟩ : ∃ q, rAdd (y, 1) (fr ((v - y) * (at' - x)) (u - x)) = q := ⟨_, rfl⟩
  rw [hq] at HA ⊢
  obtain ⟨f, hf⟩ : ∃ f, fr ((v - y) * (at' - x)) (u - x) = f := ⟨_, rfl⟩
  rw [hf] at HA HF
  clear hq hf
  go_enter Tryz.func139, Tryz.ntmps139
  go_wp2_with fail
  obtain ⟨W, hW⟩ : ∃ W, w.alloc (.cells #[.int .i64 0, .slice none 0 0, .int .i64 0, .slice none 0 0] 112) = W := ⟨_, rfl⟩
  rw [hW]
  have K : Hid (Blk W w.heap.size #[.int .i64 0, .slice none 0 0, .int .i64 0, .slice none 0 0]) := by subst hW; exact Lib.hid (Blk.new _ _ _)
  have HB : Hid (Below w.heap.size w W) := by subst hW; exact Lib.hid (bAlloc (bSelf w) _)
  clear hW
  refine (HI.out _).mono ?_
  rintro e w1 ⟨c1, c2, z1, rfl, hr1, hb, -⟩
  have HR1 := Lib.hid hr1
  replace K := Lib.hid (K.out.to hb)
  replace HB := Lib.hid (bThen HB.out hb)
  obtain ⟨s1, n1, k1, t1, m1, l1, rfl, -, -⟩ := hr1.ex
  clear hb hr1
  go_wp2_with fail
  refine (HF.out _).mono ?_
  rintro e w2 ⟨d1, d2, z2, rfl, hr2, hb, -⟩
  have HR2 := Lib.hid hr2
  replace HR1 := Lib.hid (HR1.out.to hb)
  replace K := Lib.hid (K.out.to hb)
  replace HB := Lib.hid (bThen HB.out hb)
  obtain ⟨s2, n2, k2, t2, m2, l2, rfl, -, -⟩ := hr2.ex
  clear hb hr2
  go_wp2_with fail
  refine (HA.out _ _ _ _ _ _ _ HR1.out HR2.out).mono ?_
  rintro e w3 ⟨g1, g2, z3, rfl, hr3, hb, hloc⟩
  have HR3 := Lib.hid hr3
  have HL := Lib.hid (fun (P : Nat → Prop) (h : ∀ b, w2.heap.size ≤ b → P b) => hloc P h (fun i hi => by cases hi))
  have HLB := Lib.hid (HL.out (fun c => c ≠ w.heap.size) (fun b hb => by have := K.out.1; omega))
  have HSZ : Hid (w.heap.size ≤ w2.heap.size) := Lib.hid HB.out.size
  replace K := Lib.hid (K.out.to hb)
  replace HB := Lib.hid (bThen HB.out hb)
  obtain ⟨s3, n3, k3, t3, m3, l3, rfl, -, -⟩ := hr3.ex
  clear hb hr3 hloc HR1 HR2
  obtain ⟨-, k, f'⟩ := K.out
  go_wp2_with fail
  clear k f'
  have F := (K.out.st4 (.int .i64 s3) (.slice g1 n3 k3) (.int .i64 t3) (.slice g2 m3 l3)).2.1
  have F0 := F 0; have F1 := F 1; have F2 := F 2; have F3 := F 3
  unfold st4 at F0 F1 F2 F3
  clear F
  have HP : Hid (RPost [] q w (.returned (.agg #[.int .i64 s3, .slice g1 n3 k3, .int .i64 t3, .slice g2 m3 l3])) (st4 w3 w.heap.size (.int .i64 s3) (.slice g1 n3 k3) (.int .i64 t3) (.slice g2 m3 l3))) := Lib.hid
    ⟨g1, g2, _, rfl, HR3.out.st4 HLB.out _ _ _ _, HB.out.trans (below_st4 w3 (Nat.le_refl _) _ _ _ _), fun P hf _ => HL.out P (fun b hb => hf b (by have := HSZ.out; omega))⟩
  refine bodyPost_ret (v := .agg #[.int .i64 s3, .slice g1 n3 k3, .int .i64 t3, .slice g2 m3 l3]) ?_ rfl HP.out
  simp [results, Tryz.results139, go_sem, F0, F1, F2, F3]

set_option maxHeartbeats 6400000 in
set_option maxRecDepth 100000 in
theorem rPressure_any (p : Plt) (v : Int) (a : Option Addr) (cap : Nat) (w : World) (hp : PtsOk p.pts) (hv : -100000 ≤ v ∧ v ≤ 100000) (hr : Reads w a (p.pts.length * 2) (fracs p.pts)) :
    Calls Tryz.prog 64 #[.agg (plC p a cap), .int .i64 v] w fun e w1 => RPost [] (rPr p.pts v) w e w1 := by
  have HR := Lib.hid hr
  obtain ⟨l, pump, on, off⟩ := p
  unfold plC
  dsimp only at HR hp ⊢
  have HPR : Hid (rPr l v = if rPrI l v < l.length then rSeg (fg l (rPrI l v - 1)) (fg l (rPrI l v)) v else (0, 1)) := Lib.hid rfl
  have HPI : Hid (rPrI l v = ixF (fun j => decide (v ≤ (fg l j).1)) 1 (l.length - 1)) := Lib.hid rfl
  have HLI := Lib.hid (fun W (k : Nat) (h1 : 1 ≤ k) (h2 : k < l.length) => rLine_any (fg l (k - 1)).1 (fg l (k - 1)).2 (fg l k).1 (fg l k).2 v W (by have := hp.vol (k - 1) (by omega); omega) (by have := hp.prs (k - 1) (by omega); omega) (by have := hp.vol k h2; omega) (by have := hp.prs k h2; omega) hv (by have := (hp.up (k - 1) (by omega)).1; rwa [Nat.sub_add_cancel h1] at this))
  have HRI := Lib.hid (fun W => RatioInt_any 0 W (by decide) (by decide))
  obtain ⟨q, hq⟩ : ∃ q, rPr l v = q := ⟨_, rfl⟩
  obtain ⟨pi, hpi⟩ : ∃ i, rPrI l v = i := ⟨_, rfl⟩
  rw [hq] at HPR ⊢
  rw [hpi] at HPR HPI
  have h2 := hp.two
  have h8 := hp.few
  obtain ⟨n, hn⟩ : ∃ n, l.length = n := ⟨_, rfl⟩
  have HN := Lib.hid hn
  rw [hn] at HR HPR HPI HLI h2 h8 ⊢
  clear hr hq hpi hn hp
  go_enter Tryz.func64, Tryz.ntmps64
  go_wp2_with fail
  obtain ⟨W, hW⟩ : ∃ W, (w.alloc (.cells #[.slice a n cap, .int .i64 pump, .int .i64 on, .int .i64 off] 44)).alloc (.cells #[.int .i64 0, .slice none 0 0, .int .i64 0, .slice none 0 0] 112) = W := ⟨_, rfl⟩
  rw [hW]
  have K : Hid (Blk W (w.heap.size + 1) #[.int .i64 0, .slice none 0 0, .int .i64 0, .slice none 0 0]) := by subst hW; exact Lib.hid (Blk.newAt _ _ _ (by simp))
  have HB : Hid (Below w.heap.size w W) := by subst hW; exact Lib.hid (bAlloc (bAlloc (bSelf w) _) _)
  replace HR := Lib.hid (HR.out.to HB.out)
  clear hW
  go_loopw [6] (fun s6 wr => ∃ k : Nat, 1 ≤ k ∧ k ≤ n ∧ s6 = .int .i64 k ∧ Hid (pi = ixF (fun j => decide (v ≤ (fg l j).1)) k (n - k)) ∧ W = wr) (fun s6 _ => n - (intOf s6).toNat)
  case atStart => exact ⟨1, Nat.le_refl _, by omega, rfl, HPI, rfl⟩
  case round =>
    obtain ⟨k, hk1, hk, rfl, hee, rfl⟩ := hrel
    by_cases hlt : k < n
    · obtain ⟨b, off', rfl, hb, hc⟩ := HR.out.at (k := k * 2) (by omega)
      have HBL : Hid (b < W.heap.size) := Lib.hid hb
      obtain ⟨⟨x1, y1⟩, hx1⟩ : ∃ x, fg l k = x := ⟨_, rfl⟩
      obtain ⟨⟨x0, y0⟩, hx0⟩ : ∃ x, fg l (k - 1) = x := ⟨_, rfl⟩
      obtain ⟨j, hj⟩ : ∃ j, k - 1 = j := ⟨_, rfl⟩
      have C0 : Hid (W.cell? ⟨b, off' + k * 2, none⟩ = some (.int .i64 x1)) := Lib.hid (by have := hc (k * 2) (by omega); rw [fracs0, hx1] at this; exact this)
      have C1 : Hid (W.cell? ⟨b, off' + k * 2 + 1, none⟩ = some (.int .i64 y1)) := Lib.hid (by have := hc (k * 2 + 1) (by omega); rw [fracs1, hx1] at this; exact this)
      have D0 : Hid (W.cell? ⟨b, off' + j * 2, none⟩ = some (.int .i64 x0)) := Lib.hid (by have := hc (j * 2) (by omega); rw [fracs0, ← hj, hx0, hj] at this; exact this)
      have D1 : Hid (W.cell? ⟨b, off' + j * 2 + 1, none⟩ = some (.int .i64 y0)) := Lib.hid (by have := hc (j * 2 + 1) (by omega); rw [fracs1, ← hj, hx0, hj] at this; exact this)
      have HLK := Lib.hid (fun W' => HLI.out W' k hk1 hlt)
      rw [hx1, hx0] at HLK
      dsimp only at HLK
      have hkn : (k : Int) < (n : Int) := by omega
      have hjn : (j : Int) < (n : Int) := by omega
      have hkj : (k : Int) - 1 = (j : Int) := by omega
      have c0 := C0.out
      cases g : decide (v ≤ x1) with
      | false =>
        have HS := Lib.hid (ixF_step (p := fun j => decide (v ≤ (fg l j).1)) hlt (by rw [hx1]; exact g))
        clear hx1 hx0 hj hc hb hkj hjn
        go_wp2_with fail
        go_roundw
        case rel => exact ⟨k + 1, by omega, by omega, by go_num, Lib.hid (hee.out.trans HS.out), trivial⟩
        case measure => simp [intOf]; omega
      | true =>
        have HS := Lib.hid (ixF_stop (p := fun j => decide (v ≤ (fg l j).1)) hlt (by rw [hx1]; exact g))
        have HQ : Hid (q = rAdd (y0, 1) (fr ((y1 - y0) * (v - x0)) (x1 - x0))) := Lib.hid (by
          rw [HPR.out, hee.out, HS.out, if_pos hlt, hx1, hx0]; rfl)
        rw [← HQ.out] at HLK
        clear hx1 hx0 hj hc hb
        go_upto_region 6 with (fail)
        clear c0
        refine wp_region_quiet_tail 23 (fun w' => Below (World.heap W).size (W) w') (by kernel_rfl) (by kernel_rfl) (Below.refl _ _).drew ?_
        simp only [List.take_succ_cons, List.take_zero, List.drop_succ_cons, List.drop_zero]
        refine WQ.out ?_
        repeat (first | (refine WQ_no (by rfl) ?_; (simp only [Act.put, List.setIfInBounds_toArray, List.set_cons_zero, List.set_cons_succ])) | (refine WQ_yes (by rfl) ?_; apply Exists.intro; refine ⟨fun w1 hb1 => ?_, ?_⟩; (focus (((have c0 := (hb1.cell (p := ⟨b, off' + k * 2, none⟩) HBL.out).trans C0.out; have c1 := (hb1.cell (p := ⟨b, off' + k * 2 + 1, none⟩) HBL.out).trans C1.out; have d0 := (hb1.cell (p := ⟨b, off' + j * 2, none⟩) HBL.out).trans D0.out; have d1 := (hb1.cell (p := ⟨b, off' + j * 2 + 1, none⟩) HBL.out).trans D1.out); have hb1 := Lib.hid hb1; go_simp); (try (go_bits; try go_simp)); (try (rw [if_pos (by omega)]; try go_simp)); (first | done | (fail) | (with_reducible rfl) | exact rfl))); (simp only [Act.put, List.setIfInBounds_toArray, List.set_cons_zero, List.set_cons_succ])))
        refine WQ_nil ?_
        intro w1 hb1
        go_wp2_with fail
        replace K := Lib.hid (K.out.to hb1)
        replace HB := Lib.hid (bThen HB.out hb1)
        clear HRI HR C0 C1 D0 D1 HQ HS
        refine (HLK.out _).mono ?_
        rintro e w3 ⟨g1, g2, z3, rfl, hr3, hb, hloc⟩
        have HR3 := Lib.hid hr3
        have HL := Lib.hid (fun (P : Nat → Prop) (h : ∀ b, w1.heap.size ≤ b → P b) => hloc P h (fun i hi => by cases hi))
        have HLB := Lib.hid (HL.out (fun c => c ≠ w.heap.size + 1) (fun b hb => by have := K.out.1; omega))
        have HSZ : Hid (w.heap.size ≤ w1.heap.size) := Lib.hid HB.out.size
        replace K := Lib.hid (K.out.to hb)
        replace HB := Lib.hid (bThen HB.out hb)
        obtain ⟨s3, n3, k3, t3, m3, l3, rfl, -, -⟩ := hr3.ex
        clear hb hr3 hloc
        obtain ⟨-, kk, f'⟩ := K.out
        go_wp2_with fail
        clear kk f'
        have F := (K.out.st4 (.int .i64 s3) (.slice g1 n3 k3) (.int .i64 t3) (.slice g2 m3 l3)).2.1
        have F0 := F 0; have F1 := F 1; have F2 := F 2; have F3 := F 3
        unfold st4 at F0 F1 F2 F3
        clear F
        have HP : Hid (RPost [] q w (.returned (.agg #[.int .i64 s3, .slice g1 n3 k3, .int .i64 t3, .slice g2 m3 l3])) (st4 w3 (w.heap.size + 1) (.int .i64 s3) (.slice g1 n3 k3) (.int .i64 t3) (.slice g2 m3 l3))) := Lib.hid
          ⟨g1, g2, _, rfl, HR3.out.st4 HLB.out _ _ _ _, HB.out.trans (below_st4 w3 (Nat.le_succ _) _ _ _ _), fun P hf _ => HL.out P (fun b hb => hf b (by have := HSZ.out; omega))⟩
        refine bodyPost_ret (v := .agg #[.int .i64 s3, .slice g1 n3 k3, .int .i64 t3, .slice g2 m3 l3]) ?_ rfl HP.out
        simp [results, Tryz.results64, go_sem, F0, F1, F2, F3]
    · obtain rfl : k = n := by omega
      have HQ : Hid (q = (0, 1)) := Lib.hid (by
        have hpi : pi = k := by
          rw [hee.out, Nat.sub_self]; rfl
        rw [HPR.out, hpi, if_neg (Nat.lt_irrefl _)])
      rw [← HQ.out] at HRI
      clear HR HLI HPR HPI hee
      go_wp2_with fail
      refine (HRI.out _).mono ?_
      rintro e w3 ⟨g1, g2, z3, rfl, hr3, hb, hloc⟩
      have HR3 := Lib.hid hr3
      have HL := Lib.hid (fun (P : Nat → Prop) (h : ∀ b, W.heap.size ≤ b → P b) => hloc P h (fun i hi => by cases hi))
      have HLB := Lib.hid (HL.out (fun c => c ≠ w.heap.size + 1) (fun b hb => by have := K.out.1; omega))
      have HSZ : Hid (w.heap.size ≤ W.heap.size) := Lib.hid HB.out.size
      replace K := Lib.hid (K.out.to hb)
      replace HB := Lib.hid (bThen HB.out hb)
      obtain ⟨s3, n3, k3, t3, m3, l3, rfl, -, -⟩ := hr3.ex
      clear hb hr3 hloc
      obtain ⟨-, kk, f'⟩ := K.out
      go_wp2_with fail
      clear kk f'
      have F := (K.out.st4 (.int .i64 s3) (.slice g1 n3 k3) (.int .i64 t3) (.slice g2 m3 l3)).2.1
      have F0 := F 0; have F1 := F 1; have F2 := F 2; have F3 := F 3
      unfold st4 at F0 F1 F2 F3
      clear F
      have HP : Hid (RPost [] q w (.returned (.agg #[.int .i64 s3, .slice g1 n3 k3, .int .i64 t3, .slice g2 m3 l3])) (st4 w3 (w.heap.size + 1) (.int .i64 s3) (.slice g1 n3 k3) (.int .i64 t3) (.slice g2 m3 l3))) := Lib.hid
        ⟨g1, g2, _, rfl, HR3.out.st4 HLB.out _ _ _ _, HB.out.trans (below_st4 w3 (Nat.le_succ _) _ _ _ _), fun P hf _ => HL.out P (fun b hb => hf b (by have := HSZ.out; omega))⟩
      refine bodyPost_ret (v := .agg #[.int .i64 s3, .slice g1 n3 k3, .int .i64 t3, .slice g2 m3 l3]) ?_ rfl HP.out
      simp [results, Tryz.results64, go_sem, F0, F1, F2, F3]

end Go.Proofs.YtjfedpblkejmkaaGreat

/-
  The reference: Below, Next.
-/
namespace Go.Proofs.YtjfedpblkejmkaaGreat
open Go.RowKit
attribute [local go_sem] Oper.semAt_some

theorem dg_frL {q : Int × Int} (h : QOk q) : (dg (fr q.1 q.2).1).length ≤ 50 ∧ (dg (fr q.1 q.2).2).length ≤ 50 := ⟨Nat.le_trans (dg_fr1 (dg_few (by have := h.n0; omega) (by have := h.n1; omega))) (by decide), Nat.le_trans (dg_fr2 (dg_few (by have := h.d0; omega) (by have := h.d1; omega))) (by decide)⟩
/-- A fraction in a box. -/
def RBlk (W : World) (b : Nat) (q : Int × Int) : Prop :=
  ∃ a1 a2 s1 n1 c1 s2 n2 c2, Blk W b #[.int .i64 s1, .slice a1 n1 c1, .int .i64 s2, .slice a2 n2 c2] ∧ RR W a1 a2 (.agg #[.int .i64 s1, .slice a1 n1 c1, .int .i64 s2, .slice a2 n2 c2]) q
theorem RBlk.to {W W' : World} {b : Nat} {q : Int × Int} (h : RBlk W b q) (hb : Below W.heap.size W W') : RBlk W' b q := by
  obtain ⟨a1, a2, s1, n1, c1, s2, n2, c2, h1, h2⟩ := h
  exact ⟨a1, a2, s1, n1, c1, s2, n2, c2, h1.to hb, h2.to hb⟩

set_option maxHeartbeats 1600000 in
set_option maxRecDepth 100000 in
theorem rBelow_any (p : Plt) (s : OSt) (lim : Int) (a : Option Addr) (cap : Nat) (w : World) (hp : PtsOk p.pts) (hs : 0 ≤ s.1 ∧ s.1 ≤ capV p.pts) (hl : -100000 ≤ lim ∧ lim ≤ 100000) (hr : Reads w a (p.pts.length * 2) (fracs p.pts)) :
    Calls Tryz.prog 43 #[.agg (plC p a cap), .agg #[.int .i64 s.1, .bool s.2], .int .i64 lim] w fun e w' => e = .returned (.bool (lessQ (prQ p.pts s.1) (lim, 1))) ∧ Below w.heap.size w w' := by
  have hq := QOk.of_pts hp hs.1 hs.2
  have hcl := OnOk.of_pts hp hs.1 hs.2
  have HE : Hid (decide ((((rPr p.pts s.1).1 * 1 - lim * (rPr p.pts s.1).2).sign) < 0) = lessQ (prQ p.pts s.1) (lim, 1)) := Lib.hid (by
    rw [rPr_eq hp hs.1 hs.2]
    exact cmp_lt (N := (prQ p.pts s.1).1) lim (show 0 < (prQ p.pts s.1).2 by have := hq.d0; omega))
  have HPR := Lib.hid (fun W (hb : Below w.heap.size w W) => rPressure_any p s.1 a cap W hp (by have := hcl.x0; omega) (hr.to hb))
  have HRI := Lib.hid (fun W => RatioInt_any lim W (by omega) (by omega))
  have hd := dg_frL hq
  rw [← rPr_eq hp hs.1 hs.2] at hd
  have HCM := Lib.hid (fun W a1 a2 b1 b2 v1 v2 h1 h2 => RatioCmp_any (rPr p.pts s.1) (lim, 1) a1 a2 b1 b2 v1 v2 W h1 h2 hd.1 hd.2 (Nat.le_trans (dg_few (by dsimp only; omega) (by dsimp only; omega)) (by decide)) (Nat.le_trans (dg_few (by dsimp only; omega) (by dsimp only; omega)) (by decide)))
  dsimp only at HCM
  obtain ⟨c, hc⟩ : ∃ c, ((rPr p.pts s.1).1 * 1 - lim * (rPr p.pts s.1).2).sign = c := ⟨_, rfl⟩
  obtain ⟨q, hq'⟩ : ∃ q, rPr p.pts s.1 = q := ⟨_, rfl⟩
  obtain ⟨bl, hbl⟩ : ∃ b, lessQ (prQ p.pts s.1) (lim, 1) = b := ⟨_, rfl⟩
  rw [hc] at HE HCM
  rw [hbl] at HE ⊢
  rw [hq'] at HPR HCM
  clear hc hq' hbl hq hcl hp hs hl hr hd
  obtain ⟨s1, s2⟩ := s
  dsimp only at HPR ⊢
  go_enter Tryz.func43, Tryz.ntmps43
  go_wp2_with fail
  refine (HPR.out _ (bAlloc (bAlloc (bSelf w) _) _)).mono ?_
  rintro e w1 ⟨a1, a2, v, rfl, hrr, hb, -⟩
  have HB := Lib.hid (bThen (bAlloc (bAlloc (bSelf w) _) _) hb)
  have HRR := Lib.hid hrr
  obtain ⟨t1, n1, c1, t2, n2, c2, rfl, -, -⟩ := hrr.ex
  clear hb hrr
  go_wp2_with fail
  refine (HRI.out _).mono ?_
  rintro e w2 ⟨b1, b2, v, rfl, hrr, hb, -⟩
  replace HB := Lib.hid (bThen HB.out hb)
  replace HRR := Lib.hid (HRR.out.to hb)
  have HR2 := Lib.hid hrr
  obtain ⟨u1, m1, d1, u2, m2, d2, rfl, -, -⟩ := hrr.ex
  clear hb hrr
  go_wp2_with fail
  refine (HCM.out _ _ _ _ _ _ _ HRR.out HR2.out).mono ?_
  rintro e w3 ⟨rfl, hb⟩
  replace HB := Lib.hid (bThen HB.out hb)
  clear hb
  go_wp2_with fail
  go_ret
  exact ⟨ret_bool (by rw [← HE.out]), HB.out⟩

end Go.Proofs.YtjfedpblkejmkaaGreat

/-
  OilRuns.
-/
namespace Go.Proofs.YtjfedpblkejmkaaGreat
open Go.RowKit
attribute [local go_sem] Oper.semAt_some

theorem lFew_any (p : Plt) (a : Option Addr) (cap : Nat) (w : World) :
    Calls Tryz.prog 23 #[.agg (plC p a cap)] w fun e w' => e = .returned (.bool (decide ((p.pts.length : Int) ≤ 10))) ∧ Below w.heap.size w w' := by
  obtain ⟨l, pump, on, off⟩ := p
  unfold plC
  dsimp only
  obtain ⟨n, hn⟩ : ∃ n, l.length = n := ⟨_, rfl⟩
  rw [hn]
  clear hn
  go_enter Tryz.func23, Tryz.ntmps23
  go_wp2_with fail
  go_ret
  exact ⟨rfl, bAlloc (bSelf w) _⟩

end Go.Proofs.YtjfedpblkejmkaaGreat

/-
  Plain laws for OilWitness: when there is no witness, what a run over demands answers.
-/
namespace Go.Proofs.YtjfedpblkejmkaaGreat

theorem witA_none {p : Plt} {s : OSt} {lim : Int} {c : List (Int × Int)} : witA p lim (tks p c [(s, [])]) = none ↔ ∀ k, k ≤ c.length → ∀ ds, inC (c.take k) ds → GdQ p s lim ds := by
  obtain ⟨h1, h2⟩ := wit_law (lim := lim) c [] [(s, [])] (LvOk.start p s)
  simp only [List.nil_append, List.length_nil] at h1 h2
  constructor
  · intro h k hk ds hd
    exact h2 h k (Nat.zero_le _) hk ds hd
  · intro h
    cases e : witA p lim (tks p c [(s, [])]) with
    | none => rfl
    | some w =>
      have hw := h1 w e
      exact absurd (h _ hw.len w hw.cls) hw.bad
theorem witA_some {p : Plt} {s : OSt} {lim : Int} {c : List (Int × Int)} {w : List Int} (h : witA p lim (tks p c [(s, [])]) = some w) : WitS p s c lim 0 w := by
  have h1 := (wit_law (lim := lim) c [] [(s, [])] (LvOk.start p s)).1 w h
  simpa using h1
/-- Fewer ticks than the witness has: none. -/
theorem witA_short {p : Plt} {s : OSt} {lim : Int} {c : List (Int × Int)} {w : List Int} (h : WitS p s c lim 0 w) {n : Nat} (hn : n < w.length) : witA p lim (tks p (c.take n) [(s, [])]) = none := by
  rw [witA_none]
  intro k hk ds hd
  have hk' : k ≤ n := by rw [List.length_take] at hk; omega
  rw [List.take_take, Nat.min_eq_left hk'] at hd
  exact h.low k (by omega) (Nat.zero_le _) ds hd
/-- A class within one that is permitted. -/
theorem witA_within {p : Plt} {s : OSt} {lim : Int} {c o : List (Int × Int)} (h : witA p lim (tks p c [(s, [])]) = none) (hl : o.length = c.length) (hw : ∀ k ds, inC (o.take k) ds → inC (c.take k) ds) : witA p lim (tks p o [(s, [])]) = none := by
  rw [witA_none] at h ⊢
  intro k hk ds hd
  exact h k (by omega) ds (hw k ds hd)
theorem run_none {p : Plt} : ∀ {ds : List Int} {s : OSt}, (∀ k, k < ds.length → wthn (gi ds k) 0 50 = true) → goQ p s ds = none → (runA p s ds).2 = 22
  | [], s, _, h => by simp [goQ] at h
  | d :: ds, s, hf, h => by
    have h0 : wthn d 0 50 = true := hf 0 (by simp)
    have h' : (nxtA p s d).bind (fun u => goQ p u ds) = none := h
    unfold runA
    rw [if_neg (by rw [h0]; simp)]
    cases e : nxtA p s d with
    | none => rfl
    | some t =>
      rw [e] at h'
      exact run_none (fun k hk => hf (k + 1) (by simp only [List.length_cons]; omega)) h'
theorem run_some {p : Plt} : ∀ {ds : List Int} {s t : OSt}, (∀ k, k < ds.length → wthn (gi ds k) 0 50 = true) → goQ p s ds = some t → (runA p s ds).2 = 0 ∧ (runA p s ds).1.length = ds.length ∧ sg (s :: (runA p s ds).1) ds.length = t
  | [], s, t, _, h => by
    have : s = t := by simpa [goQ] using h
    subst this
    exact ⟨rfl, rfl, rfl⟩
  | d :: ds, s, t, hf, h => by
    have h0 : wthn d 0 50 = true := hf 0 (by simp)
    have h' : (nxtA p s d).bind (fun u => goQ p u ds) = some t := h
    unfold runA
    rw [if_neg (by rw [h0]; simp)]
    cases e : nxtA p s d with
    | none => rw [e] at h'; cases h'
    | some u =>
      rw [e] at h'
      obtain ⟨r1, r2, r3⟩ := run_some (fun k hk => hf (k + 1) (by simp only [List.length_cons]; omega)) h'
      exact ⟨r1, by simp only [List.length_cons]; omega, r3⟩

end Go.Proofs.YtjfedpblkejmkaaGreat

/-
  Plain laws for OilWitness: the witness, its run, what is before it.
-/
namespace Go.Proofs.YtjfedpblkejmkaaGreat

theorem mem_rngL {r : Int × Int} {n : Int} (h : n ∈ rngL r) : r.1 ≤ n ∧ n ≤ r.2 := by
  unfold rngL at h
  obtain ⟨k, hk, rfl⟩ := List.mem_map.1 h
  have := List.mem_range.1 hk
  omega
theorem fgs_take {l : List (Int × Int)} {n k : Nat} (h : k < n) : fg (l.take n) k = fg l k := by
  unfold fg
  rw [List.getD_eq_getElem?_getD, List.getD_eq_getElem?_getD, List.getElem?_take, if_pos h]
/-- The witness has demands of the class. -/
theorem wit_in {p : Plt} {s : OSt} {lim : Int} {c : List (Int × Int)} {w : List Int} (h : WitS p s c lim 0 w) {k : Nat} (hk : k < w.length) : (fg c k).1 ≤ gi w k ∧ gi w k ≤ (fg c k).2 := by
  have h1 := h.cls.2 k (by rw [List.length_take]; have := h.len; omega)
  rw [fgs_take hk] at h1
  exact mem_rngL h1
theorem goQ_ok {p : Plt} : ∀ {ds : List Int} {s t : OSt}, StOk p s → goQ p s ds = some t → StOk p t
  | [], s, t, hs, h => by
    have : s = t := by simpa [goQ] using h
    subst this
    exact hs
  | d :: ds, s, t, hs, h => by
    have h' : (nxtA p s d).bind (fun u => goQ p u ds) = some t := h
    cases e : nxtA p s d with
    | none => rw [e] at h'; cases h'
    | some u => rw [e] at h'; exact goQ_ok (nxtA_ok e) h'

end Go.Proofs.YtjfedpblkejmkaaGreat

/-
  Plain laws for OilWitness: the run of a witness.
-/
namespace Go.Proofs.YtjfedpblkejmkaaGreat

theorem gis_take {l : List Int} {n k : Nat} (h : k < n) : gi (l.take n) k = gi l k := by
  unfold gi
  rw [List.getD_eq_getElem?_getD, List.getD_eq_getElem?_getD, List.getElem?_take, if_pos h]
theorem opLE_parts {p : Plt} {s : OSt} {c : List (Int × Int)} {lim : Int} (h : opLE p s.1 c lim = 0) : opSE p s.1 = 0 ∧ (chCl c).2 = 0 ∧ unl (wthn lim 0 1000) 2 = 0 := by
  obtain ⟨h1, h2⟩ := firstE2.1 (show firstE [_, _] = 0 from h)
  obtain ⟨h3, h4⟩ := firstE2.1 (show firstE [_, _] = 0 from h1)
  exact ⟨h3, h4, h2⟩
theorem rnR_ok {p : Plt} {s : OSt} {ds : List Int} (h : opSE p s.1 = 0) (hl : ds.length ≤ 20) : rnR p s ds = (runA p s ds).2 :=
  runR_of (firstE2.2 ⟨h, by rw [unlZ (by decide), decide_eq_true_eq]; omega⟩)
theorem wit_flow {p : Plt} {s : OSt} {lim : Int} {c : List (Int × Int)} {w : List Int} (h0 : opLE p s.1 c lim = 0) (h : WitS p s c lim 0 w) : ∀ k, k < w.length → wthn (gi w k) 0 50 = true := by
  intro k hk
  have h1 := wit_in h hk
  have h2 := (opLE_ok h0).1.2.2.2 k (by have := h.len; omega)
  rw [wthn_iff]
  omega
theorem wit_run {p : Plt} {s : OSt} {lim : Int} {c : List (Int × Int)} {w : List Int} (h0 : opLE p s.1 c lim = 0) (h : WitS p s c lim 0 w) :
    rnR p s w = 22 ∨ (rnR p s w = 0 ∧ (runO p s w).length = w.length + 1 ∧ stE p (sg (runO p s w) w.length).1 = 0 ∧ lessQ (prQ p.pts (sg (runO p s w) w.length).1) (lim, 1) = true) := by
  have hs := (opLE_parts h0).1
  have hl := (opLE_ok h0).1.2.2.1
  have hr := rnR_ok (ds := w) hs (by have := h.len; omega)
  have hf := wit_flow h0 h
  cases e : goQ p s w with
  | none => exact .inl (by rw [hr]; exact run_none hf e)
  | some t =>
    obtain ⟨r1, r2, r3⟩ := run_some hf e
    have h3 : rnR p s w = 0 := by rw [hr]; exact r1
    have ho : runO p s w = s :: (runA p s w).1 := by unfold runO; rw [if_pos h3]
    have ht : StOk p t := goQ_ok (opLE_ok h0).1.2.1 e
    have hb : blwQ p lim t = true := by
      cases hb : blwQ p lim t with
      | true => rfl
      | false => exact absurd ⟨t, e, hb⟩ h.bad
    refine .inr ⟨h3, by rw [ho, List.length_cons, r2], ?_, ?_⟩
    · rw [ho, r3]
      unfold stE
      rw [unlZ (by decide), wthn_iff]
      exact ht
    · rw [ho, r3]
      exact hb
/-- Without its last demand the witness is not bad yet. -/
theorem wit_way {p : Plt} {s : OSt} {lim : Int} {c : List (Int × Int)} {w : List Int} (h0 : opLE p s.1 c lim = 0) (h : WitS p s c lim 0 w) {n : Nat} (hn : n < w.length) : rnR p s (w.take n) = 0 := by
  obtain ⟨t, ht⟩ := h.way n hn
  have hl := (opLE_ok h0).1.2.2.1
  rw [rnR_ok (opLE_parts h0).1 (by rw [List.length_take]; have := h.len; omega)]
  refine (run_some (fun k hk => ?_) ht).1
  have hk' : k < n := by rw [List.length_take] at hk; omega
  rw [gis_take hk']
  exact wit_flow h0 h k (by omega)

end Go.Proofs.YtjfedpblkejmkaaGreat

/-
  Plain law for OilWitness and OilEvery: classes of single demands, and classes of fewer ticks.
-/
namespace Go.Proofs.YtjfedpblkejmkaaGreat
open Go.RowKit

theorem eachR_nil {err : Nat → Int} : ∀ (n k : Nat), (∀ j, k ≤ j → j < k + n → err j = 0) → (eachR err k n).2 = 0
  | 0, _, _ => rfl
  | n + 1, k, h => by
    have h0 := h k (Nat.le_refl _) (by omega)
    have h1 := eachR_step (err := err) (k := k) (n := k + (n + 1)) (by omega) h0
    rw [show k + (n + 1) - k = n + 1 by omega, show k + (n + 1) - (k + 1) = n by omega] at h1
    rw [h1]
    exact eachR_nil n (k + 1) (fun j h2 h3 => h j (by omega) (by omega))
theorem rgE_of {r : Int × Int} (h0 : 0 ≤ r.1) (h1 : r.2 ≤ 50) (h2 : r.1 ≤ r.2) : rgE r = 0 :=
  firstE2.2 ⟨by rw [unlZ (by decide)]; simp only [Bool.and_eq_true, wthn_iff]; omega, by rw [unlZ (by decide), decide_eq_true_eq]; exact h2⟩
theorem chCl_of {c : List (Int × Int)} (hl : c.length ≤ 20) (h : ∀ k, k < c.length → 0 ≤ (fg c k).1 ∧ (fg c k).2 ≤ 50 ∧ (fg c k).1 ≤ (fg c k).2) : (chCl c).2 = 0 := by
  unfold chCl
  rw [if_neg (by omega)]
  exact eachR_nil _ _ (fun j _ hj => rgE_of (h j (by omega)).1 (h j (by omega)).2.1 (h j (by omega)).2.2)
theorem opLE_cls {p : Plt} {s : OSt} {c o : List (Int × Int)} {lim : Int} (h : opLE p s.1 c lim = 0) (ho : (chCl o).2 = 0) : opLE p s.1 o lim = 0 := by
  obtain ⟨h1, -, h3⟩ := opLE_parts h
  exact firstE2.2 ⟨firstE2.2 ⟨h1, ho⟩, h3⟩
theorem opLE_take {p : Plt} {s : OSt} {c : List (Int × Int)} {lim : Int} (h : opLE p s.1 c lim = 0) (n : Nat) : opLE p s.1 (c.take n) lim = 0 := by
  obtain ⟨h1, h2⟩ := chCl_ok (opLE_parts h).2.1
  refine opLE_cls h (chCl_of (by rw [List.length_take]; omega) (fun k hk => ?_))
  rw [List.length_take] at hk
  rw [fgs_take (by omega)]
  exact h2 k (by omega)
theorem rngL_in {r : Int × Int} {n : Int} (h1 : r.1 ≤ n) (h2 : n ≤ r.2) : n ∈ rngL r := by
  unfold rngL
  exact List.mem_map.2 ⟨(n - r.1).toNat, List.mem_range.2 (by omega), by omega⟩

/-- The k-th demand that xs chooses in a class; the class of these demands alone. -/
def ownD (c : List (Int × Int)) (xs : List Int) (k : Nat) : Int := (fg c k).1 + gi xs k % ((fg c k).2 - (fg c k).1 + 1)
def ownL (c : List (Int × Int)) (xs : List Int) : Nat → List (Int × Int)
  | 0 => []
  | k + 1 => ownL c xs k ++ [(ownD c xs k, ownD c xs k)]
theorem ownL_len {c : List (Int × Int)} {xs : List Int} : ∀ k, (ownL c xs k).length = k
  | 0 => rfl
  | k + 1 => by unfold ownL; rw [List.length_append, ownL_len k]; rfl
theorem ownL_fg {c : List (Int × Int)} {xs : List Int} {j : Nat} : ∀ {k : Nat}, j < k → fg (ownL c xs k) j = (ownD c xs j, ownD c xs j)
  | 0, h => absurd h (Nat.not_lt_zero _)
  | k + 1, h => by
    unfold ownL fg
    rw [List.getD_eq_getElem?_getD]
    by_cases hj : j < k
    · rw [List.getElem?_append_left (by rw [ownL_len]; exact hj), ← List.getD_eq_getElem?_getD]
      exact ownL_fg hj
    · obtain rfl : j = k := by omega
      rw [List.getElem?_append_right (by rw [ownL_len]; omega), ownL_len, Nat.sub_self]
      rfl
theorem ownD_in {c : List (Int × Int)} {xs : List Int} {k : Nat} (h : (fg c k).1 ≤ (fg c k).2) : (fg c k).1 ≤ ownD c xs k ∧ ownD c xs k ≤ (fg c k).2 := by
  unfold ownD
  have h1 := Int.emod_nonneg (gi xs k) (show (fg c k).2 - (fg c k).1 + 1 ≠ 0 by omega)
  have h2 := Int.emod_lt_of_pos (gi xs k) (show 0 < (fg c k).2 - (fg c k).1 + 1 by omega)
  omega
theorem own_err {p : Plt} {s : OSt} {c : List (Int × Int)} {xs : List Int} {lim : Int} (h : opLE p s.1 c lim = 0) : opLE p s.1 (ownL c xs c.length) lim = 0 := by
  obtain ⟨h1, h2⟩ := chCl_ok (opLE_parts h).2.1
  refine opLE_cls h (chCl_of (by rw [ownL_len]; exact h1) (fun k hk => ?_))
  rw [ownL_len] at hk
  rw [ownL_fg hk]
  have h3 := h2 k hk
  have h4 := ownD_in (xs := xs) h3.2.2
  dsimp only
  omega
theorem own_prm {p : Plt} {s : OSt} {c : List (Int × Int)} {xs : List Int} {lim : Int} (h : opLE p s.1 c lim = 0) (hw : witA p lim (tks p c [(s, [])]) = none) : prmB p s (ownL c xs c.length) lim = true := by
  obtain ⟨h1, h2⟩ := chCl_ok (opLE_parts h).2.1
  unfold prmB
  rw [if_pos (own_err h), witA_within hw (ownL_len _) (fun k ds hd => ?_)]
  · rfl
  · obtain ⟨e1, e2⟩ := hd
    rw [List.length_take, ownL_len] at e1 e2
    refine ⟨by rw [List.length_take]; exact e1, fun i hi => ?_⟩
    rw [List.length_take] at hi
    have e3 := e2 i hi
    rw [fgs_take (by omega), ownL_fg (by omega)] at e3
    have e4 := mem_rngL e3
    have e5 := ownD_in (xs := xs) (h2 i (by omega)).2.2
    rw [fgs_take (by omega)]
    dsimp only at e4
    exact rngL_in (by omega) (by omega)
theorem take_prm {p : Plt} {s : OSt} {c : List (Int × Int)} {lim : Int} {w : List Int} (h : opLE p s.1 c lim = 0) (hw : WitS p s c lim 0 w) {n : Nat} (hn : n < w.length) : prmB p s (c.take n) lim = true := by
  unfold prmB
  rw [if_pos (opLE_take h n), witA_short hw hn]
  rfl

end Go.Proofs.YtjfedpblkejmkaaGreat

/-
  The reference and the law: RangeErr, CheckClass, ClassErr, openErr.
-/
namespace Go.Proofs.YtjfedpblkejmkaaGreat
open Go.RowKit
attribute [local go_sem] Oper.semAt_some

theorem rgE_val (lo hi : Int) : rgE (lo, hi) = if wthn lo 0 50 = false then 2 else if wthn hi 0 50 = false then 2 else if hi < lo then 9 else 0 := by
  unfold rgE
  dsimp only
  by_cases h : hi < lo
  · rw [if_pos h, decide_eq_false (show ¬ lo ≤ hi by omega)]
    cases wthn lo 0 50 <;> cases wthn hi 0 50 <;> rfl
  · rw [if_neg h, decide_eq_true (show lo ≤ hi by omega)]
    cases wthn lo 0 50 <;> cases wthn hi 0 50 <;> rfl

set_option maxHeartbeats 800000 in
set_option maxRecDepth 100000 in
theorem rRangeErr_any (lo hi : Int) (w : World) :
    Calls Tryz.prog 53 #[.agg #[.int .i64 lo, .int .i64 hi]] w fun e w' => e = .returned (.int .i64 (rgE (lo, hi))) ∧ Below w.heap.size w w' := by
  have H1 := Lib.hid (fun W => rFlowErr_any lo W)
  have H2 := Lib.hid (fun W => rFlowErr_any hi W)
  have HV := Lib.hid (rgE_val lo hi)
  obtain ⟨r, hr⟩ : ∃ r, rgE (lo, hi) = r := ⟨_, rfl⟩
  rw [hr] at HV ⊢
  obtain ⟨b1, hb1⟩ : ∃ b, wthn lo 0 50 = b := ⟨_, rfl⟩
  obtain ⟨b2, hb2⟩ : ∃ b, wthn hi 0 50 = b := ⟨_, rfl⟩
  rw [hb1] at H1 HV
  rw [hb2] at H2 HV
  clear hr hb1 hb2
  cases b1
  · obtain rfl : r = 2 := HV.out
    clear HV
    go_enter Tryz.func53, Tryz.ntmps53
    go_wp2_with (go_at_call 33; refine (H1.out _).mono ?_; rintro e w' ⟨rfl, rfl⟩; rw [show unl false 2 = 2 from rfl])
    go_ret
    exact ⟨rfl, bAlloc (bSelf w) _⟩
  · cases b2
    · obtain rfl : r = 2 := HV.out
      clear HV
      go_enter Tryz.func53, Tryz.ntmps53
      go_wp2_with (go_at_call 33; first | (refine (H1.out _).mono ?_; rintro e w' ⟨rfl, rfl⟩; rw [show unl true 2 = 0 from rfl]) | (refine (H2.out _).mono ?_; rintro e w' ⟨rfl, rfl⟩; rw [show unl false 2 = 2 from rfl]))
      go_ret
      exact ⟨rfl, bAlloc (bSelf w) _⟩
    · by_cases h : hi < lo
      · obtain rfl : r = 9 := by rw [HV.out, if_neg (by decide), if_neg (by decide), if_pos h]
        clear HV
        go_enter Tryz.func53, Tryz.ntmps53
        go_wp2_with (go_at_call 33; first | (refine (H1.out _).mono ?_; rintro e w' ⟨rfl, rfl⟩; rw [show unl true 2 = 0 from rfl]) | (refine (H2.out _).mono ?_; rintro e w' ⟨rfl, rfl⟩; rw [show unl true 2 = 0 from rfl]))
        go_ret
        exact ⟨rfl, bAlloc (bSelf w) _⟩
      · obtain rfl : r = 0 := by rw [HV.out, if_neg (by decide), if_neg (by decide), if_neg h]
        clear HV
        go_enter Tryz.func53, Tryz.ntmps53
        go_wp2_with (go_at_call 33; first | (refine (H1.out _).mono ?_; rintro e w' ⟨rfl, rfl⟩; rw [show unl true 2 = 0 from rfl]) | (refine (H2.out _).mono ?_; rintro e w' ⟨rfl, rfl⟩; rw [show unl true 2 = 0 from rfl]))
        go_ret
        exact ⟨rfl, bAlloc (bSelf w) _⟩

set_option maxHeartbeats 1600000 in
set_option maxRecDepth 100000 in
theorem rCheckClass_any (c : List (Int × Int)) (a : Option Addr) (cap : Nat) (w : World) (hr : Reads w a (c.length * 2) (fracs c)) :
    Calls Tryz.prog 71 #[.slice a c.length cap] w fun e w' => e = .returned (.tuple #[.int .i64 (chCl c).1, .int .i64 (chCl c).2]) ∧ Below w.heap.size w w' := by
  have HR := Lib.hid hr
  have HRG := Lib.hid (fun lo hi W => rRangeErr_any lo hi W)
  have HCH : Hid (chCl c = if 20 < c.length then (0, 8) else eachR (fun k => rgE (fg c k)) 0 c.length) := Lib.hid rfl
  obtain ⟨⟨c1, c2⟩, hc⟩ : ∃ x, chCl c = x := ⟨_, rfl⟩
  rw [hc] at HCH ⊢
  obtain ⟨n, hn⟩ : ∃ n, c.length = n := ⟨_, rfl⟩
  rw [hn] at HR HCH ⊢
  dsimp only
  clear hr hc hn
  by_cases h20 : 20 < n
  · have hq := HCH.out
    rw [if_pos h20] at hq
    injection hq with h1 h2
    subst h1 h2
    clear HCH
    go_enter Tryz.func71, Tryz.ntmps71
    go_wp2_with fail
    go_ret2
    exact ⟨rfl, bSelf w⟩
  · have hq := HCH.out
    rw [if_neg h20] at hq
    replace HCH := Lib.hid hq
    clear hq
    go_enter Tryz.func71, Tryz.ntmps71
    go_wp2_with fail
    go_loopw [4, 5] (fun s4 _ wr => ∃ k : Nat, k ≤ n ∧ s4 = .int .i64 k ∧ Hid (eachR (fun k => rgE (fg c k)) 0 n = eachR (fun k => rgE (fg c k)) k (n - k)) ∧ Hid (Below w.heap.size w wr)) (fun s4 _ _ => n - (intOf s4).toNat)
    case atStart => exact ⟨0, Nat.zero_le _, rfl, Lib.hid rfl, Lib.hid (bSelf w)⟩
    case round =>
      obtain ⟨k, hk, rfl, hee, hB⟩ := hrel
      by_cases hlt : k < n
      · have HBAD : Hid (∀ e, rgE (fg c k) = e → e ≠ 0 → (c1, c2) = ((k : Int), e)) := Lib.hid (fun e he hne => by
          have h1 := eachR_stop (err := fun k => rgE (fg c k)) hlt (by rw [he]; exact hne)
          rw [HCH.out, hee.out, h1, he])
        have HGO : Hid (rgE (fg c k) = 0 → eachR (fun k => rgE (fg c k)) 0 n = eachR (fun k => rgE (fg c k)) (k + 1) (n - (k + 1))) := Lib.hid (fun h => hee.out.trans (eachR_step (err := fun k => rgE (fg c k)) hlt h))
        obtain ⟨b, off, rfl, hb, hc⟩ := (HR.out.to hB.out).at (k := k * 2) (by omega)
        obtain ⟨⟨v, q⟩, hv⟩ : ∃ v, fg c k = v := ⟨_, rfl⟩
        have h0 : wr.cell? ⟨b, off + k * 2, none⟩ = some (.int .i64 v) := by have := hc (k * 2) (by omega); rw [fracs0, hv] at this; exact this
        have h1 : wr.cell? ⟨b, off + k * 2 + 1, none⟩ = some (.int .i64 q) := by have := hc (k * 2 + 1) (by omega); rw [fracs1, hv] at this; exact this
        rw [hv] at HBAD HGO
        clear hc hv
        obtain ⟨e0, he0⟩ : ∃ e, rgE (v, q) = e := ⟨_, rfl⟩
        have HRK := Lib.hid (fun W => HRG.out v q W)
        rw [he0] at HBAD HGO HRK
        clear he0
        by_cases hz : e0 = 0
        · subst hz
          go_wp2_with (go_at_call 53; refine (HRK.out _).mono ?_; rintro e w' ⟨rfl, hb5⟩; have HB5 := Lib.hid hb5; clear hb5)
          go_roundw
          case rel => exact ⟨k + 1, by omega, by go_num, Lib.hid (HGO.out (by first | trivial | rfl)), Lib.hid (bThen hB.out HB5.out)⟩
          case measure => simp [intOf]; omega
        · have hq := HBAD.out e0 rfl hz
          injection hq with q1 q2
          subst q1 q2
          have hz' : (c2 != 0) = true := by simpa using hz
          go_wp2_with (go_at_call 53; refine (HRK.out _).mono ?_; rintro e w' ⟨rfl, hb5⟩; have HB5 := Lib.hid hb5; clear hb5)
          go_ret2
          exact ⟨rfl, bThen hB.out HB5.out⟩
      · obtain rfl : n = k := by omega
        have hq : (c1, c2) = (0, 0) := by rw [HCH.out, hee.out, Nat.sub_self]; rfl
        injection hq with q1 q2
        subst q1 q2
        go_wp2_with fail
        go_ret2
        exact ⟨rfl, hB.out⟩

set_option maxHeartbeats 400000 in
set_option maxRecDepth 100000 in
theorem rClassErr_any (c : List (Int × Int)) (a : Option Addr) (cap : Nat) (w : World) (hr : Reads w a (c.length * 2) (fracs c)) :
    Calls Tryz.prog 81 #[.slice a c.length cap] w fun e w' => e = .returned (.int .i64 (chCl c).2) ∧ Below w.heap.size w w' := by
  have HC := Lib.hid (rCheckClass_any c a cap w hr)
  obtain ⟨⟨c1, c2⟩, hc⟩ : ∃ x, chCl c = x := ⟨_, rfl⟩
  rw [hc] at HC ⊢
  obtain ⟨n, hn⟩ : ∃ n, c.length = n := ⟨_, rfl⟩
  rw [hn] at HC ⊢
  dsimp only at HC ⊢
  clear hr hc hn
  go_enter Tryz.func81, Tryz.ntmps81
  go_wp2_with fail
  refine HC.out.mono ?_
  rintro e w' ⟨rfl, hb⟩
  have HB := Lib.hid hb
  clear hb
  go_wp2_with fail
  go_ret
  exact ⟨rfl, HB.out⟩

set_option maxHeartbeats 800000 in
set_option maxRecDepth 100000 in
theorem lOpenErr_any (p : Plt) (s : OSt) (c : List (Int × Int)) (a ac : Option Addr) (cap cc : Nat) (w : World) (hlen : p.pts.length ≤ 100000) (hr : Reads w a (p.pts.length * 2) (fracs p.pts)) (hrc : Reads w ac (c.length * 2) (fracs c)) :
    Calls Tryz.prog 35 #[.agg (plC p a cap), .agg #[.int .i64 s.1, .bool s.2], .slice ac c.length cc] w fun e w' => e = .returned (.int .i64 (opCE p s.1 c)) ∧ Below w.heap.size w w' := by
  have HPE := Lib.hid (fun W (hb : Below w.heap.size w W) => rPlantErr_any p a cap W hlen (hr.to hb))
  have HSE := Lib.hid (fun W (h0 : (chP p).2 = 0) (hb : Below w.heap.size w W) => rStateErr_any p s a cap W (by have := (chP_ok h0).pts.two; omega) hlen (hr.to hb))
  have HCE := Lib.hid (fun W (hb : Below w.heap.size w W) => rClassErr_any c ac cc W (hrc.to hb))
  have HV : Hid (opCE p s.1 c = if (chP p).2 = 0 then (if stE p s.1 = 0 then (chCl c).2 else stE p s.1) else (chP p).2) := Lib.hid (by
    unfold opCE firstE
    rw [show opSE p s.1 = if (chP p).2 = 0 then stE p s.1 else (chP p).2 from rfl]
    by_cases h : (chP p).2 = 0
    · rw [if_pos h, if_pos h]
      by_cases h2 : stE p s.1 = 0
      · rw [if_pos h2, if_pos h2]
        unfold firstE
        by_cases h3 : (chCl c).2 = 0
        · rw [if_pos h3, h3]; rfl
        · rw [if_neg h3]
      · rw [if_neg h2, if_neg h2]
    · rw [if_neg h, if_neg h, if_neg h])
  obtain ⟨ch, hch⟩ : ∃ n, (chP p).2 = n := ⟨_, rfl⟩
  obtain ⟨st, hst⟩ : ∃ n, stE p s.1 = n := ⟨_, rfl⟩
  obtain ⟨ce, hce⟩ : ∃ n, (chCl c).2 = n := ⟨_, rfl⟩
  obtain ⟨o, ho⟩ : ∃ n, opCE p s.1 c = n := ⟨_, rfl⟩
  obtain ⟨m, hm⟩ : ∃ n, p.pts.length = n := ⟨_, rfl⟩
  obtain ⟨n, hn⟩ : ∃ n, c.length = n := ⟨_, rfl⟩
  rw [hch] at HPE HSE HV
  rw [hst] at HSE HV
  rw [hce] at HCE HV
  rw [ho] at HV ⊢
  unfold plC at HPE HSE ⊢
  rw [hm] at HPE HSE ⊢
  rw [hn] at HCE ⊢
  obtain ⟨s1, sr⟩ := s
  dsimp only at HSE ⊢
  clear hch hst hce ho hm hn hr hrc hlen
  go_enter Tryz.func35, Tryz.ntmps35
  go_wp2_with fail
  refine (HPE.out _ (bAlloc (bAlloc (bSelf w) _) _)).mono ?_
  rintro e w1 ⟨rfl, hb⟩
  have K3 : Hid (Blk w1 w.heap.size #[.slice a m cap, .int .i64 p.pump, .int .i64 p.on, .int .i64 p.off]) := Lib.hid (((Blk.new _ _ _).alloc _).to hb)
  have K4 : Hid (Blk w1 (w.heap.size + 1) #[.int .i64 s1, .bool sr]) := Lib.hid ((Blk.newAt _ _ _ (by simp)).to hb)
  have HB := Lib.hid (bThen (bAlloc (bAlloc (bSelf w) _) _) hb)
  clear hb HPE
  by_cases hc : ch = 0
  · subst hc
    rw [if_pos rfl] at HV
    obtain ⟨-, k3, -⟩ := K3.out
    obtain ⟨-, k4, -⟩ := K4.out
    go_wp2_with fail
    refine (HSE.out _ (by first | trivial | rfl) HB.out).mono ?_
    rintro e w2 ⟨rfl, hb⟩
    replace HB := Lib.hid (bThen HB.out hb)
    clear hb k3 k4 K3 K4 HSE
    by_cases hs : st = 0
    · subst hs
      rw [if_pos rfl] at HV
      obtain rfl : o = ce := HV.out
      go_wp2_with fail
      refine (HCE.out _ HB.out).mono ?_
      rintro e w3 ⟨rfl, hb⟩
      replace HB := Lib.hid (bThen HB.out hb)
      clear hb HCE
      go_wp2_with fail
      go_ret
      exact ⟨rfl, HB.out⟩
    · rw [if_neg hs] at HV
      obtain rfl : o = st := HV.out
      have hs' : (o != 0) = true := by simpa using hs
      go_wp2_with fail
      go_ret
      exact ⟨rfl, HB.out⟩
  · rw [if_neg hc] at HV
    obtain rfl : o = ch := HV.out
    have hs' : (o != 0) = true := by simpa using hc
    go_wp2_with fail
    go_ret
    exact ⟨rfl, HB.out⟩

end Go.Proofs.YtjfedpblkejmkaaGreat

/-
  The law: short, classes.
-/
namespace Go.Proofs.YtjfedpblkejmkaaGreat
open Go.RowKit
attribute [local go_sem] Oper.semAt_some

/-- No range is wider than so much. -/
def spanB (d : Int) (c : List (Int × Int)) : Bool := decide (∀ k, k < c.length → (fg c k).2 - (fg c k).1 ≤ d)
theorem spanB_no {d : Int} {c : List (Int × Int)} {k : Nat} (hk : k < c.length) (h : d < (fg c k).2 - (fg c k).1) : spanB d c = false := by
  unfold spanB
  exact decide_eq_false (fun hh => by have := hh k hk; omega)
theorem spanB_yes {d : Int} {c : List (Int × Int)} (h : ∀ k, k < c.length → (fg c k).2 - (fg c k).1 ≤ d) : spanB d c = true := decide_eq_true h
def shrtB (c : List (Int × Int)) : Bool := spanB 5 c && decide (c.length ≤ 3)
def clssB (c : List (Int × Int)) : Bool := if 22 < c.length then false else if (chCl c).2 = 0 then spanB 11 c && decide (c.length ≤ 5) else true

set_option maxHeartbeats 1600000 in
set_option maxRecDepth 100000 in
theorem lShort_any (c : List (Int × Int)) (a : Option Addr) (cap : Nat) (w : World) (hc0 : (chCl c).2 = 0) (hr : Reads w a (c.length * 2) (fracs c)) :
    Calls Tryz.prog 36 #[.slice a c.length cap] w fun e w' => e = .returned (.bool (shrtB c)) ∧ Below w.heap.size w w' := by
  have HR := Lib.hid hr
  have HCK := Lib.hid (chCl_ok hc0)
  have HSN := Lib.hid (fun k (hk : k < c.length) h => (show shrtB c = false from by unfold shrtB; rw [spanB_no hk h]; rfl))
  have HSY := Lib.hid (fun h => (show shrtB c = decide (c.length ≤ 3) from by unfold shrtB; rw [spanB_yes h]; rfl))
  obtain ⟨r, hr'⟩ : ∃ r, shrtB c = r := ⟨_, rfl⟩
  obtain ⟨n, hn⟩ : ∃ n, c.length = n := ⟨_, rfl⟩
  rw [hr'] at HSN HSY ⊢
  rw [hn] at HR HCK HSN HSY ⊢
  have hn20 := HCK.out.1
  clear hr hr' hn hc0
  go_enter Tryz.func36, Tryz.ntmps36
  go_wp2_with fail
  go_loopw [3] (fun s3 wr => ∃ k : Nat, k ≤ n ∧ s3 = .int .i64 k ∧ Hid (∀ j, j < k → (fg c j).2 - (fg c j).1 ≤ 5) ∧ Hid (Below w.heap.size w wr)) (fun s3 _ => n - (intOf s3).toNat)
  case atStart => exact ⟨0, Nat.zero_le _, rfl, Lib.hid (fun j hj => by omega), Lib.hid (bSelf w)⟩
  case round =>
    obtain ⟨k, hk, rfl, hp, hB⟩ := hrel
    by_cases hlt : k < n
    · obtain ⟨b, off, rfl, hb, hc⟩ := (HR.out.to hB.out).at (k := k * 2) (by omega)
      obtain ⟨⟨v, q⟩, hv⟩ : ∃ v, fg c k = v := ⟨_, rfl⟩
      have HVQ := Lib.hid hv
      have H0 : Hid (wr.cell? ⟨b, off + k * 2, none⟩ = some (.int .i64 v)) := Lib.hid (by have := hc (k * 2) (by omega); rw [fracs0, hv] at this; exact this)
      have H1 : Hid (wr.cell? ⟨b, off + k * 2 + 1, none⟩ = some (.int .i64 q)) := Lib.hid (by have := hc (k * 2 + 1) (by omega); rw [fracs1, hv] at this; exact this)
      have hvb := HCK.out.2 k hlt
      rw [hv] at hvb
      dsimp only at hvb
      have HNO := Lib.hid (fun (h : 5 < q - v) => HSN.out k hlt (by rw [hv]; exact h))
      clear hc hv
      go_wp2_with fail
      refine wp_region_quiet_all (fun w' => Below (World.heap wr).size (wr) w') (by kernel_rfl) (by kernel_rfl) (Below.refl _ _).drew ?_
      refine WQ.out ?_
      repeat (first | (refine WQ_no (by rfl) ?_; (simp only [Act.put, List.setIfInBounds_toArray, List.set_cons_zero, List.set_cons_succ])) | (refine WQ_yes (by rfl) ?_; apply Exists.intro; refine ⟨fun w1 hb1 => ?_, ?_⟩; (focus (((have k1 := (hb1.cell (p := ⟨b, off + k * 2, none⟩) hb).trans H0.out; have k2 := (hb1.cell (p := ⟨b, off + k * 2 + 1, none⟩) hb).trans H1.out); have hb1 := Lib.hid hb1; go_simp); (try (go_bits; try go_simp)); (try (rw [if_pos (by omega)]; try go_simp)); (first | done | (fail) | (with_reducible rfl) | exact rfl))); (simp only [Act.put, List.setIfInBounds_toArray, List.set_cons_zero, List.set_cons_succ])))
      refine WQ_nil ?_
      intro w1 hb1
      have HB1 := Lib.hid hb1
      clear hb1 H0 H1
      by_cases hw : 5 < q - v
      · obtain rfl : r = false := HNO.out hw
        go_wp2_with fail
        go_ret
        exact ⟨rfl, bThen (hB.out) HB1.out⟩
      · go_wp2_with fail
        go_roundw
        case rel =>
          refine ⟨k + 1, by omega, by go_num, Lib.hid (fun j hj => ?_), Lib.hid (bThen hB.out HB1.out)⟩
          by_cases h : j = k
          · subst h; rw [HVQ.out]; dsimp only; omega
          · exact hp.out j (by omega)
        case measure => simp [intOf]; omega
    · obtain rfl : n = k := by omega
      have hq := HSY.out hp.out
      subst hq
      go_wp2_with fail
      go_ret
      exact ⟨ret_bool (by by_cases h : n ≤ 3 <;> simp [h] <;> omega), hB.out⟩

set_option maxHeartbeats 1600000 in
set_option maxRecDepth 100000 in
theorem lClasses_any (c : List (Int × Int)) (a : Option Addr) (cap : Nat) (w : World) (hr : Reads w a (c.length * 2) (fracs c)) :
    Calls Tryz.prog 34 #[.slice a c.length cap] w fun e w' => e = .returned (.bool (clssB c)) ∧ Below w.heap.size w w' := by
  have HCE := Lib.hid (rClassErr_any c a cap w hr)
  have HR := Lib.hid hr
  have HCK := Lib.hid (fun hc0 => chCl_ok (c := c) hc0)
  have HV : Hid (clssB c = if 22 < c.length then false else if (chCl c).2 = 0 then spanB 11 c && decide (c.length ≤ 5) else true) := Lib.hid rfl
  have HSN0 := Lib.hid (fun k (hk : k < c.length) h => spanB_no (d := 11) hk h)
  have HSY0 := Lib.hid (fun h => spanB_yes (d := 11) (c := c) h)
  obtain ⟨r, hr'⟩ : ∃ r, clssB c = r := ⟨_, rfl⟩
  obtain ⟨sp, hsp⟩ : ∃ r, spanB 11 c = r := ⟨_, rfl⟩
  obtain ⟨ce, hce⟩ : ∃ r, (chCl c).2 = r := ⟨_, rfl⟩
  obtain ⟨n, hn⟩ : ∃ n, c.length = n := ⟨_, rfl⟩
  rw [hr'] at HV ⊢
  rw [hsp] at HV HSN0 HSY0
  rw [hce] at HCE HCK HV
  rw [hn] at HR HCE HCK HV HSN0 HSY0 ⊢
  clear hr hr' hn hsp hce
  by_cases h22 : 22 < n
  · obtain rfl : r = false := by rw [HV.out, if_pos h22]
    go_enter Tryz.func34, Tryz.ntmps34
    go_wp2_with fail
    go_ret
    exact ⟨rfl, bSelf w⟩
  · replace HV : Hid (r = if ce = 0 then sp && decide (n ≤ 5) else true) := Lib.hid (by rw [HV.out, if_neg h22])
    by_cases hz : ce = 0
    · subst hz
      obtain ⟨hn20, hck⟩ := HCK.out rfl
      replace HCK := Lib.hid (And.intro hn20 hck)
      clear hck
      have HSN := Lib.hid (fun k (hk : k < n) h => (show r = false from by rw [HV.out, if_pos rfl, HSN0.out k hk h]; rfl))
      have HSY := Lib.hid (fun h => (show r = decide (n ≤ 5) from by rw [HV.out, if_pos rfl, HSY0.out h]; rfl))
      clear HSN0 HSY0 HV
      go_enter Tryz.func34, Tryz.ntmps34
      go_wp2_with fail
      refine HCE.out.mono ?_
      rintro e w1 ⟨rfl, hb⟩
      have HB := Lib.hid hb
      replace HR := Lib.hid (HR.out.to hb)
      clear hb HCE
      go_wp2_with fail
      go_loopw [3] (fun s3 wr => ∃ k : Nat, k ≤ n ∧ s3 = .int .i64 k ∧ Hid (∀ j, j < k → (fg c j).2 - (fg c j).1 ≤ 11) ∧ Hid (Below w1.heap.size w1 wr)) (fun s3 _ => n - (intOf s3).toNat)
      case atStart => exact ⟨0, Nat.zero_le _, rfl, Lib.hid (fun j hj => by omega), Lib.hid (bSelf w1)⟩
      case round =>
        obtain ⟨k, hk, rfl, hp, hB⟩ := hrel
        by_cases hlt : k < n
        · obtain ⟨b, off, rfl, hb, hc⟩ := (HR.out.to hB.out).at (k := k * 2) (by omega)
          obtain ⟨⟨v, q⟩, hv⟩ : ∃ v, fg c k = v := ⟨_, rfl⟩
          have HVQ := Lib.hid hv
          have H0 : Hid (wr.cell? ⟨b, off + k * 2, none⟩ = some (.int .i64 v)) := Lib.hid (by have := hc (k * 2) (by omega); rw [fracs0, hv] at this; exact this)
          have H1 : Hid (wr.cell? ⟨b, off + k * 2 + 1, none⟩ = some (.int .i64 q)) := Lib.hid (by have := hc (k * 2 + 1) (by omega); rw [fracs1, hv] at this; exact this)
          have hvb := HCK.out.2 k hlt
          rw [hv] at hvb
          dsimp only at hvb
          have HNO := Lib.hid (fun (h : 11 < q - v) => HSN.out k hlt (by rw [hv]; exact h))
          clear hc hv
          go_wp2_with fail
          refine wp_region_quiet_all (fun w' => Below (World.heap wr).size (wr) w') (by kernel_rfl) (by kernel_rfl) (Below.refl _ _).drew ?_
          refine WQ.out ?_
          repeat (first | (refine WQ_no (by rfl) ?_; (simp only [Act.put, List.setIfInBounds_toArray, List.set_cons_zero, List.set_cons_succ])) | (refine WQ_yes (by rfl) ?_; apply Exists.intro; refine ⟨fun w1 hb1 => ?_, ?_⟩; (focus (((have k1 := (hb1.cell (p := ⟨b, off + k * 2, none⟩) hb).trans H0.out; have k2 := (hb1.cell (p := ⟨b, off + k * 2 + 1, none⟩) hb).trans H1.out); have hb1 := Lib.hid hb1; go_simp); (try (go_bits; try go_simp)); (try (rw [if_pos (by omega)]; try go_simp)); (first | done | (fail) | (with_reducible rfl) | exact rfl))); (simp only [Act.put, List.setIfInBounds_toArray, List.set_cons_zero, List.set_cons_succ])))
          refine WQ_nil ?_
          intro w1 hb1
          have HB1 := Lib.hid hb1
          clear hb1 H0 H1
          by_cases hw : 11 < q - v
          · obtain rfl : r = false := HNO.out hw
            go_wp2_with fail
            go_ret
            exact ⟨rfl, bThen (bThen HB.out hB.out) HB1.out⟩
          · go_wp2_with fail
            go_roundw
            case rel =>
              refine ⟨k + 1, by omega, by go_num, Lib.hid (fun j hj => ?_), Lib.hid (bThen hB.out HB1.out)⟩
              by_cases h : j = k
              · subst h; rw [HVQ.out]; dsimp only; omega
              · exact hp.out j (by omega)
            case measure => simp [intOf]; omega
        · obtain rfl : n = k := by omega
          have hq := HSY.out hp.out
          subst hq
          go_wp2_with fail
          go_ret
          exact ⟨ret_bool (by by_cases h : n ≤ 5 <;> simp [h] <;> omega), bThen HB.out hB.out⟩
    · obtain rfl : r = true := by rw [HV.out, if_neg hz]
      have hz' : (ce != 0) = true := by simpa using hz
      clear HCK HSN0 HSY0 HV
      go_enter Tryz.func34, Tryz.ntmps34
      go_wp2_with fail
      refine HCE.out.mono ?_
      rintro e w1 ⟨rfl, hb⟩
      have HB := Lib.hid hb
      clear hb HCE
      go_wp2_with fail
      go_ret
      exact ⟨rfl, HB.out⟩

end Go.Proofs.YtjfedpblkejmkaaGreat

/-
  CopyRanges.
-/
namespace Go.Proofs.YtjfedpblkejmkaaGreat
open Go.RowKit
attribute [local go_sem] Oper.semAt_some

theorem rtRg : RowTy Tryz.prog 65 25 2 16 (.agg #[.int .i64 0, .int .i64 0]) := by
  obtain ⟨i, h1, h2, h3, h4⟩ := info_parts (show (Tryz.prog.info? 25).map (fun i => (i.zero, i.size, i.bytes)) = some (some (.agg #[.int .i64 0, .int .i64 0]), 2, 16) by kernel_rfl)
  exact ⟨by kernel_rfl, ⟨i, h1, h2, h3, h4⟩, rfl, by omega, by omega⟩

set_option maxHeartbeats 800000 in
set_option maxRecDepth 100000 in
theorem CopyRanges_any (c : List (Int × Int)) (a : Option Addr) (cap : Nat) (w : World) (hfew : c.length ≤ 100000) (hr : Reads w a (c.length * 2) (fracs c)) :
    Calls Tryz.prog 39 #[.slice a c.length cap] w fun e w' => ∃ a' cap', e = .returned (.slice a' c.length cap') ∧ c.length ≤ cap' ∧ Reads w' a' (c.length * 2) (fracs c) ∧ Below w.heap.size w w' ∧ ∀ p, a' = some p → w.heap.size ≤ p.block := by
  cases a with
  | none =>
    have h0 : c.length = 0 := by
      rcases hr with h | ⟨b, off, e, -⟩
      · omega
      · cases e
    rw [h0]
    clear hr
    go_enter Tryz.func39, Tryz.ntmps39
    go_wp2_with fail
    go_ret
    exact ⟨_, _, rfl, by omega, .inl rfl, bAlloc (bSelf w) _, fun p hp => by cases hp; exact Nat.le_refl _⟩
  | some ad =>
    have HR := Lib.hid hr
    have HN := Lib.hid (Reads.newsF (HR.out.alloc (.cells #[] 25)))
    have HPO : Hid (∀ (u2 : World) (v : Value), u2.ownsRow w.heap.size 25 2 v c.length (fcells c) → ∃ a' c', v = .slice a' c.length c' ∧ c.length ≤ c' ∧ Reads u2 a' (c.length * 2) (fracs c) ∧ ∀ q, a' = some q → w.heap.size ≤ q.block) := Lib.hid (fun u2 v h => Reads.of_row (f := fracs c) h (fun i hi => fcells_get c i hi))
    have HCL : Hid ((fcells c).length = c.length * 2) := Lib.hid (fcells_len c)
    have HON := Lib.hid (onesF c)
    obtain ⟨n, hn⟩ : ∃ n, c.length = n := ⟨_, rfl⟩
    rw [hn] at HPO HCL hfew ⊢
    clear hr HR hn
    go_enter Tryz.func39, Tryz.ntmps39
    go_wp2_with (at_builtin; refine wpList_app w.heap.size rtRg rfl (.tmp 3) (.tmp 4) rfl (.slice (some ⟨w.heap.size, 0, none⟩) 0 0) 0 [] rfl (World.ownsRow_lit w #[] 0 (Nat.le_refl _) (by decide) rfl) ad n cap (fcells c) rfl HCL.out HN.out HON.out (by unfold maxLen; omega) (by omega) (by simp) ?_; intro v' w2 hown' hgrow _ hwhere; have HO := Lib.hid hown'; have HBB : Hid (Below w.heap.size w w2) := Lib.hid ((bAlloc (bSelf w) _).grown hgrow (by simp) (fun k e => by cases e; exact Nat.le_refl _)); clear hown' hgrow hwhere)
    go_ret
    have hrow := HO.out
    rw [Nat.zero_add, List.nil_append] at hrow
    obtain ⟨a', cap', rfl, hcp, hrd, hfr⟩ := HPO.out _ _ hrow
    exact ⟨a', cap', rfl, hcp, hrd, HBB.out, hfr⟩

end Go.Proofs.YtjfedpblkejmkaaGreat

/-
  Contracts for OilWitness: the calls of the law at a valid class.
-/
namespace Go.Proofs.YtjfedpblkejmkaaGreat
open Go.RowKit

theorem own_cells {c : List (Int × Int)} {xs : List Int} (k : Nat) : fcells (ownL c xs (k + 1)) = fcells (ownL c xs k) ++ [.int .i64 (ownD c xs k), .int .i64 (ownD c xs k)] := by
  show fcells (ownL c xs k ++ [_]) = _
  unfold fcells
  rw [List.flatMap_append]
  rfl
theorem wit_two {p : Plt} {s : OSt} {c : List (Int × Int)} {lim : Int} (h : opLE p s.1 c lim = 0) :
    ((wtnO p s c lim).getD [] = [] ∧ wtnE p s c lim = 12 ∧ prmB p s c lim = true ∧ witA p lim (tks p c [(s, [])]) = none) ∨ (wtnE p s c lim = 0 ∧ prmB p s c lim = false ∧ WitS p s c lim 0 ((wtnO p s c lim).getD [])) := by
  unfold wtnO wtnE prmB
  rw [if_pos h, if_pos h, if_pos h]
  cases hw : witA p lim (tks p c [(s, [])]) with
  | none => exact .inl ⟨rfl, rfl, rfl, rfl⟩
  | some o => exact .inr ⟨rfl, rfl, witA_some hw⟩
theorem perm_c (p : Plt) (s : OSt) (c : List (Int × Int)) (lim : Int) (a ac : Option Addr) (cap cc : Nat) (w : World) (h : opLE p s.1 c lim = 0) (hlen : p.pts.length ≤ 1000) (hlc : c.length ≤ maxLen) (hrc : Reads w ac (c.length * 2) (fracs c)) (hr : Reads w a (p.pts.length * 2) (fracs p.pts)) :
    Calls Tryz.prog 40 #[.agg (plC p a cap), .agg #[.int .i64 s.1, .bool s.2], .slice ac c.length cc, .int .i64 lim] w fun e w' => e = .returned (.tuple #[.bool (prmB p s c lim), .int .i64 0]) ∧ Below w.heap.size w w' := by
  have h1 := IsPermitted_any p s c lim a ac cap cc w hlen hlc hrc hr
  rw [h] at h1
  exact h1
theorem perm_o (p : Plt) (s : OSt) (c : List (Int × Int)) (xs : List Int) (lim : Int) (a ac : Option Addr) (cap cc : Nat) (w : World) (h : opLE p s.1 c lim = 0) (hw : witA p lim (tks p c [(s, [])]) = none) (hlen : p.pts.length ≤ 1000) (hlc : c.length ≤ maxLen) (hrc : Reads w ac (c.length * 2) (fracs (ownL c xs c.length))) (hr : Reads w a (p.pts.length * 2) (fracs p.pts)) :
    Calls Tryz.prog 40 #[.agg (plC p a cap), .agg #[.int .i64 s.1, .bool s.2], .slice ac c.length cc, .int .i64 lim] w fun e w' => e = .returned (.tuple #[.bool true, .int .i64 0]) ∧ Below w.heap.size w w' := by
  have h1 := IsPermitted_any p s (ownL c xs c.length) lim a ac cap cc w hlen (by rw [ownL_len]; exact hlc) (by rw [ownL_len]; exact hrc) hr
  rw [own_err h, own_prm h hw, ownL_len] at h1
  exact h1
theorem perm_t (p : Plt) (s : OSt) (c : List (Int × Int)) (lim : Int) (o : List Int) (m : Nat) (a ac : Option Addr) (cap cc : Nat) (w : World) (h : opLE p s.1 c lim = 0) (hw : WitS p s c lim 0 o) (hm : m < o.length) (hlen : p.pts.length ≤ 1000) (hlc : c.length ≤ maxLen) (hrc : Reads w ac (m * 2) (fracs (c.take m))) (hr : Reads w a (p.pts.length * 2) (fracs p.pts)) :
    Calls Tryz.prog 40 #[.agg (plC p a cap), .agg #[.int .i64 s.1, .bool s.2], .slice ac m cc, .int .i64 lim] w fun e w' => e = .returned (.tuple #[.bool true, .int .i64 0]) ∧ Below w.heap.size w w' := by
  have hl : (c.take m).length = m := by rw [List.length_take]; have := hw.len; omega
  have h1 := IsPermitted_any p s (c.take m) lim a ac cap cc w hlen (by rw [hl]; have := hw.len; omega) (by rw [hl]; exact hrc) hr
  rw [opLE_take h, take_prm h hw hm, hl] at h1
  exact h1
theorem copy_t (c : List (Int × Int)) (m : Nat) (b off : Nat) (cap : Nat) (w : World) (hm : m ≤ c.length) (hfew : c.length ≤ 100000) (hr : Reads w (some ⟨b, off, none⟩) (c.length * 2) (fracs c)) :
    Calls Tryz.prog 39 #[.slice (some ⟨b, off, none⟩) m cap] w fun e w' => ∃ a' cap', e = .returned (.slice a' m cap') ∧ m ≤ cap' ∧ Reads w' a' (m * 2) (fracs (c.take m)) ∧ Below w.heap.size w w' ∧ ∀ p, a' = some p → w.heap.size ≤ p.block := by
  have hl : (c.take m).length = m := by rw [List.length_take]; omega
  have h1 := CopyRanges_any (c.take m) (some ⟨b, off, none⟩) cap w (by omega) (hr.takeF hm)
  rw [hl] at h1
  exact h1
theorem copyI_t (o : List Int) (m : Nat) (a : Option Addr) (cap : Nat) (w : World) (hm : m ≤ o.length) (hfew : o.length ≤ 100000) (hr : Reads w a o.length (ints o)) :
    Calls Tryz.prog 26 #[.slice a m cap] w fun e w' => ∃ a' cap', e = .returned (.slice a' m cap') ∧ m ≤ cap' ∧ Reads w' a' m (ints (o.take m)) ∧ Below w.heap.size w w' ∧ ∀ p, a' = some p → w.heap.size ≤ p.block := by
  have hl : (o.take m).length = m := by rw [List.length_take]; omega
  have h1 := CopyInts_any (o.take m) a cap w (by omega) (hr.takeW m)
  rw [hl] at h1
  exact h1
theorem run_t (p : Plt) (s : OSt) (c : List (Int × Int)) (lim : Int) (o : List Int) (m : Nat) (a ad : Option Addr) (cap cd : Nat) (w : World) (h : opLE p s.1 c lim = 0) (hw : WitS p s c lim 0 o) (hm : m < o.length) (hlen : p.pts.length ≤ 1000) (hr : Reads w a (p.pts.length * 2) (fracs p.pts)) (hrd : Reads w ad m (ints (o.take m))) :
    Calls Tryz.prog 24 #[.agg (plC p a cap), .agg #[.int .i64 s.1, .bool s.2], .slice ad m cd] w fun e w' => ∃ v, e = .returned (.tuple #[v, .int .i64 0]) ∧ Below w.heap.size w w' := by
  have hl : (o.take m).length = m := by rw [List.length_take]; omega
  have hc := (opLE_ok h).1.2.2.1
  have h1 := oRunOf_any p s (o.take m) a ad cap cd w hlen (by rw [hl]; have := hw.len; unfold maxLen; omega) hr (by rw [hl]; exact hrd)
  rw [hl, wit_way h hw hm] at h1
  refine h1.mono ?_
  rintro e w' ⟨a', c', rfl, -, -, hb, -⟩
  exact ⟨_, rfl, hb⟩

end Go.Proofs.YtjfedpblkejmkaaGreat

/-
  Contracts of the base: Mod, Compare at once, IsSmall; areLowest of the statements.
-/
namespace Go.Proofs.YtjfedpblkejmkaaGreat
open Go.RowKit

theorem mod_eq (n m : Int) (hm : 0 < m) : n % m = if n.tmod m < 0 then n.tmod m + m else n.tmod m := by
  have h1 := Int.tmod_add_mul_tdiv n m
  have h2 : (n.tmod m).natAbs < m.natAbs := by rw [Int.natAbs_tmod]; exact Nat.mod_lt _ (by omega)
  generalize n.tmod m = t at *
  generalize n.tdiv m = q at *
  rw [← h1, Int.add_mul_emod_self_left]
  by_cases h : t < 0
  · rw [if_pos h, ← Int.add_emod_right, Int.emod_eq_of_lt (by omega) (by omega)]
  · rw [if_neg h, Int.emod_eq_of_lt (by omega) (by omega)]

set_option maxHeartbeats 400000 in
theorem Mod_any (n m : Int) (w : World) (hm : 0 < m) (hm1 : m ≤ 1000) :
    Calls Tryz.prog 41 #[.int .i64 n, .int .i64 m] w fun e w' => e = .returned (.int .i64 (n % m)) ∧ w = w' := by
  have h2 : (n.tmod m).natAbs < m.natAbs := by rw [Int.natAbs_tmod]; exact Nat.mod_lt _ (by omega)
  have HE := Lib.hid (mod_eq n m hm)
  have hz : (m == 0) = false := by rw [beq_eq_false_iff_ne]; omega
  have hz2 : ¬ m = 0 := by omega
  have hng : ¬ (n = -9223372036854775808 ∧ m = -1) := by omega
  obtain ⟨r, hr⟩ : ∃ r, n % m = r := ⟨_, rfl⟩
  rw [hr] at HE ⊢
  clear hr
  obtain ⟨t, ht⟩ : ∃ t, n.tmod m = t := ⟨_, rfl⟩
  rw [ht] at HE h2
  by_cases hlt : t < 0
  · have hE : r = t + m := by rw [HE.out, if_pos hlt]
    have HR := Lib.hid hE
    clear hE
    go_enter Tryz.func41, Tryz.ntmps41
    go_wp2_with fail
    go_ret
    exact ⟨ret_int HR.out.symm, rfl⟩
  · have hE : r = t := by rw [HE.out, if_neg hlt]
    have HR := Lib.hid hE
    clear hE
    go_enter Tryz.func41, Tryz.ntmps41
    go_wp2_with fail
    go_ret
    exact ⟨ret_int HR.out.symm, rfl⟩

end Go.Proofs.YtjfedpblkejmkaaGreat

/-
  OilWitness.
-/
namespace Go.Proofs.YtjfedpblkejmkaaGreat
open Go.RowKit
attribute [local go_sem] Oper.semAt_some

set_option maxHeartbeats 12800000 in
set_option maxRecDepth 100000 in
theorem OilWitness_any (p : Plt) (s : OSt) (c : List (Int × Int)) (xs : List Int) (lim : Int) (a ac ax : Option Addr) (cap cc cx : Nat) (w : World) (hlc : c.length ≤ maxLen) (hcc : c.length ≤ cc) (hr : Reads w a (p.pts.length * 2) (fracs p.pts)) (hrc : Reads w ac (c.length * 2) (fracs c)) (hrx : Reads w ax xs.length (ints xs)) :
    Calls Tryz.prog 5 #[.agg (plC p a cap), .agg #[.int .i64 s.1, .bool s.2], .agg #[.slice ac c.length cc, .slice ax xs.length cx, .int .i64 lim]] w fun e w' => e = .returned (.bool true) ∧ Below w.heap.size w w' := by
  have HAW := Lib.hid (fun W => oAwake_any W)
  have HFW := Lib.hid (fun W => lFew_any p a cap W)
  have HCL := Lib.hid (fun W (hb : Below w.heap.size w W) => lClasses_any c ac cc W (hrc.to hb))
  have HOE := Lib.hid (fun W (h10 : p.pts.length ≤ 10) (hb : Below w.heap.size w W) => lOpenErr_any p s c a ac cap cc W (by omega) (hr.to hb) (hrc.to hb))
  have HSH := Lib.hid (fun W (h0 : (chCl c).2 = 0) (hb : Below w.heap.size w W) => lShort_any c ac cc W h0 (hrc.to hb))
  have HLM := Lib.hid (fun W => rLimitErr_any lim W)
  have HLE : Hid (opCE p s.1 c = 0 → unl (wthn lim 0 1000) 2 = 0 → opLE p s.1 c lim = 0) := Lib.hid (fun a b => firstE2.2 ⟨a, b⟩)
  have HCE : Hid (opCE p s.1 c = 0 → (chCl c).2 = 0) := Lib.hid (fun h => (firstE2.1 (show firstE [_, _] = 0 from h)).2)
  have HSL := Lib.hid (fun (h : shrtB c = true) => (show c.length ≤ 3 from by unfold shrtB at h; simp only [Bool.and_eq_true, decide_eq_true_eq] at h; exact h.2))
  have HCPY := Lib.hid (fun W (h10 : p.pts.length ≤ 10) (hb : Below w.heap.size w W) => rCopyPlant_any p a cap W (by omega) (hr.to hb))
  have HCR := Lib.hid (fun W (h3 : c.length ≤ 3) (hb : Below w.heap.size w W) => CopyRanges_any c ac cc W (by omega) (hrc.to hb))
  have HWT := Lib.hid (fun W a1 c1 a2 c2 (h10 : p.pts.length ≤ 10) h1 h2 => WitnessOf_any p s c lim a1 a2 c1 c2 W (by omega) hlc h2 h1)
  have HPC := Lib.hid (fun W a1 c1 a2 c2 (h : opLE p s.1 c lim = 0) (h10 : p.pts.length ≤ 10) h1 h2 => perm_c p s c lim a1 a2 c1 c2 W h (by omega) hlc h2 h1)
  have HPO := Lib.hid (fun W a1 c1 a2 c2 (h : opLE p s.1 c lim = 0) hw (h10 : p.pts.length ≤ 10) h1 h2 => perm_o p s c xs lim a1 a2 c1 c2 W h hw (by omega) hlc h2 h1)
  have HPT := Lib.hid (fun W a1 c1 a2 c2 (o : List Int) (k : Nat) (h : opLE p s.1 c lim = 0) hw hk (h10 : p.pts.length ≤ 10) h1 h2 => perm_t p s c lim o k a1 a2 c1 c2 W h hw hk (by omega) hlc h2 h1)
  have HRT := Lib.hid (fun W a1 c1 a2 c2 (o : List Int) (k : Nat) (h : opLE p s.1 c lim = 0) hw hk (h10 : p.pts.length ≤ 10) h1 h2 => run_t p s c lim o k a1 a2 c1 c2 W h hw hk (by omega) h1 h2)
  have HRO := Lib.hid (fun W a1 c1 a2 c2 (o : List Int) (h10 : p.pts.length ≤ 10) (ho : o.length ≤ maxLen) h1 h2 => oRunOf_any p s o a1 a2 c1 c2 W (by omega) ho h1 h2)
  have HSE := Lib.hid (fun W (t : OSt) (hp : PltOk p) (h10 : p.pts.length ≤ 10) (hb : Below w.heap.size w W) => rStateErr_any p t a cap W (by have := hp.pts.two; omega) (by omega) (hr.to hb))
  have HBL := Lib.hid (fun W (t : OSt) (hp : PltOk p) (ht : StOk p t) (hl : 0 ≤ lim ∧ lim ≤ 1000) (hb : Below w.heap.size w W) => rBelow_any p t lim a cap W hp.pts ht (by omega) (hr.to hb))
  have HTW := Lib.hid (fun (h : opLE p s.1 c lim = 0) => wit_two h)
  have HOK := Lib.hid (fun (h : opLE p s.1 c lim = 0) => opLE_ok h)
  have HWR := Lib.hid (fun (o : List Int) (h : opLE p s.1 c lim = 0) (hw : WitS p s c lim 0 o) => wit_run h hw)
  have HLB := Lib.hid (fun (h : unl (wthn lim 0 1000) 2 = 0) => wthn_iff.1 ((unlZ (by decide)).1 h))
  have HRC := Lib.hid hrc
  have HRX := Lib.hid hrx
  obtain ⟨m, hm⟩ : ∃ n, p.pts.length = n := ⟨_, rfl⟩
  obtain ⟨n, hn⟩ : ∃ n, c.length = n := ⟨_, rfl⟩
  obtain ⟨l, hl⟩ : ∃ n, xs.length = n := ⟨_, rfl⟩
  obtain ⟨b1, hb1⟩ : ∃ b, clssB c = b := ⟨_, rfl⟩
  obtain ⟨b2, hb2⟩ : ∃ b, shrtB c = b := ⟨_, rfl⟩
  obtain ⟨oe, hoe⟩ : ∃ b, opCE p s.1 c = b := ⟨_, rfl⟩
  obtain ⟨le, hle⟩ : ∃ b, unl (wthn lim 0 1000) 2 = b := ⟨_, rfl⟩
  obtain ⟨oe2, hoe2⟩ : ∃ b, opLE p s.1 c lim = b := ⟨_, rfl⟩
  obtain ⟨ro, hro⟩ : ∃ b, (wtnO p s c lim).getD [] = b := ⟨_, rfl⟩
  obtain ⟨re, hre⟩ : ∃ b, wtnE p s c lim = b := ⟨_, rfl⟩
  obtain ⟨rb, hrb⟩ : ∃ b, prmB p s c lim = b := ⟨_, rfl⟩
  have HM := Lib.hid hm
  have HN := Lib.hid hn
  rw [hm] at HFW HOE HCPY HWT HPC HPO HPT HRT HRO HSE
  rw [hn] at HCL HOE HSH HSL HCR HWT HPC HPO HRC hlc hcc ⊢
  rw [hl] at HRX ⊢
  rw [hb1] at HCL
  rw [hb2] at HSH HSL
  rw [hoe] at HOE HLE HCE
  rw [hle] at HLM HLE HLB
  rw [hoe2] at HLE HPC HPO HPT HRT HTW HOK HWR
  rw [hro] at HWT HTW
  rw [hre] at HWT HTW
  rw [hrb] at HPC HTW
  clear hn hl hb1 hb2 hoe hle hoe2 hro hre hrb hr hrc hrx
  obtain ⟨s1, sr⟩ := s
  unfold plC at HFW HOE HCPY HWT HPC HPO HPT HRT HRO HSE HBL ⊢
  dsimp only at HFW HOE HCPY HWT HPC HPO HPT HRT HRO HSE HBL HTW HOK HWR ⊢
  rw [hm] at HFW HOE HCPY HWT HPC HPO HPT HRT HRO HSE HBL ⊢
  clear hm
  go_enter Tryz.func5, Tryz.ntmps5
  go_wp2_with fail
  obtain ⟨W, hW⟩ : ∃ W, ((w.alloc (.cells #[.slice a m cap, .int .i64 p.pump, .int .i64 p.on, .int .i64 p.off] 44)).alloc (.cells #[.int .i64 s1, .bool sr] 46)).alloc (.cells #[.slice ac n cc, .slice ax l cx, .int .i64 lim] 67) = W := ⟨_, rfl⟩
  rw [hW]
  have K3 : Hid (Blk W w.heap.size #[.slice a m cap, .int .i64 p.pump, .int .i64 p.on, .int .i64 p.off]) := by subst hW; exact Lib.hid (((Blk.new _ _ _).alloc _).alloc _)
  have K4 : Hid (Blk W (w.heap.size + 1) #[.int .i64 s1, .bool sr]) := by subst hW; exact Lib.hid ((Blk.newAt _ _ _ (by simp)).alloc _)
  have K5 : Hid (Blk W (w.heap.size + 1 + 1) #[.slice ac n cc, .slice ax l cx, .int .i64 lim]) := by subst hW; exact Lib.hid (Blk.newAt _ _ _ (by simp))
  have HB : Hid (Below w.heap.size w W) := by subst hW; exact Lib.hid (bAlloc (bAlloc (bAlloc (bSelf w) _) _) _)
  clear hW
  refine (HAW.out _).mono ?_
  rintro e y1 ⟨rfl, hb⟩
  replace K3 := Lib.hid (K3.out.to hb)
  replace K4 := Lib.hid (K4.out.to hb)
  replace K5 := Lib.hid (K5.out.to hb)
  replace HB := Lib.hid (bThen HB.out hb)
  clear hb
  obtain ⟨-, k3, -⟩ := K3.out
  go_wp2_with fail
  refine (HFW.out _).mono ?_
  rintro e y2 ⟨rfl, hb⟩
  replace K3 := Lib.hid (K3.out.to hb)
  replace K4 := Lib.hid (K4.out.to hb)
  replace K5 := Lib.hid (K5.out.to hb)
  replace HB := Lib.hid (bThen HB.out hb)
  clear hb k3 HAW HFW
  by_cases h10 : m ≤ 10
  case neg =>
    rw [decide_eq_false (show ¬ ((m : Int) ≤ 10) by omega)]
    go_wp2_with fail
    go_ret
    exact ⟨rfl, HB.out⟩
  rw [decide_eq_true (show ((m : Int) ≤ 10) by omega)]
  obtain ⟨-, k5, -⟩ := K5.out
  go_wp2_with fail
  refine (HCL.out _ HB.out).mono ?_
  rintro e y3 ⟨rfl, hb⟩
  replace K3 := Lib.hid (K3.out.to hb)
  replace K4 := Lib.hid (K4.out.to hb)
  replace K5 := Lib.hid (K5.out.to hb)
  replace HB := Lib.hid (bThen HB.out hb)
  clear hb k5 HCL
  cases b1
  · go_wp2_with fail
    go_ret
    exact ⟨rfl, HB.out⟩
  obtain ⟨-, k3, -⟩ := K3.out
  obtain ⟨-, k4, -⟩ := K4.out
  obtain ⟨-, k5, -⟩ := K5.out
  go_wp2_with fail
  refine (HOE.out _ h10 HB.out).mono ?_
  rintro e y4 ⟨rfl, hb⟩
  replace K3 := Lib.hid (K3.out.to hb)
  replace K4 := Lib.hid (K4.out.to hb)
  replace K5 := Lib.hid (K5.out.to hb)
  replace HB := Lib.hid (bThen HB.out hb)
  clear hb k3 k4 k5 HOE
  by_cases h0 : oe = 0
  case neg =>
    have h0' : (oe != 0) = true := by simpa using h0
    go_wp2_with fail
    go_ret
    exact ⟨rfl, HB.out⟩
  subst h0
  have hc0 := HCE.out rfl
  obtain ⟨-, k5, -⟩ := K5.out
  go_wp2_with fail
  refine (HSH.out _ hc0 HB.out).mono ?_
  rintro e y5 ⟨rfl, hb⟩
  replace K3 := Lib.hid (K3.out.to hb)
  replace K4 := Lib.hid (K4.out.to hb)
  replace K5 := Lib.hid (K5.out.to hb)
  replace HB := Lib.hid (bThen HB.out hb)
  clear hb k5 HSH hc0 HCE
  cases b2
  · go_wp2_with fail
    go_ret
    exact ⟨rfl, HB.out⟩
  have hn3 := HSL.out rfl
  clear HSL
  obtain ⟨-, k5, -⟩ := K5.out
  by_cases hnl : l = n
  case neg =>
    go_wp2_with fail
    all_goals first | (exfalso; omega) | (go_ret; exact ⟨rfl, HB.out⟩)
  subst hnl
  go_wp2_with fail
  refine (HLM.out _).mono ?_
  rintro e w' ⟨rfl, rfl⟩
  clear HLM
  by_cases h0 : le = 0
  case neg =>
    have h0' : (le != 0) = true := by simpa using h0
    go_wp2_with fail
    go_ret
    exact ⟨rfl, HB.out⟩
  subst h0
  obtain rfl := HLE.out (by first | trivial | rfl) (by first | trivial | rfl)
  replace HLB := Lib.hid (HLB.out (by first | trivial | rfl))
  clear HLE k5
  replace HOK := Lib.hid (HOK.out rfl)
  replace HTW := Lib.hid (HTW.out rfl)
  replace HPC := Lib.hid (fun W a1 c1 a2 c2 => HPC.out W a1 c1 a2 c2 rfl h10)
  replace HPO := Lib.hid (fun W a1 c1 a2 c2 hw => HPO.out W a1 c1 a2 c2 rfl hw h10)
  replace HPT := Lib.hid (fun W a1 c1 a2 c2 o k hw hk => HPT.out W a1 c1 a2 c2 o k rfl hw hk h10)
  replace HRT := Lib.hid (fun W a1 c1 a2 c2 o k hw hk => HRT.out W a1 c1 a2 c2 o k rfl hw hk h10)
  replace HRO := Lib.hid (fun W a1 c1 a2 c2 o => HRO.out W a1 c1 a2 c2 o h10)
  replace HWT := Lib.hid (fun W a1 c1 a2 c2 => HWT.out W a1 c1 a2 c2 h10)
  replace HCPY := Lib.hid (fun W => HCPY.out W h10)
  replace HCR := Lib.hid (fun W => HCR.out W hn3)
  replace HWR := Lib.hid (fun o => HWR.out o rfl)
  obtain ⟨nr, hnr⟩ : ∃ k, ro.length = k := ⟨_, rfl⟩
  rw [hnr] at HWT
  have HNR := Lib.hid hnr
  clear hnr
  go_wp2_with fail
  refine wp_region_tree (by kernel_rfl) (fun wd hwd => ?_)
  have T := Lib.hid hwd
  clear hwd
  refine WT_yes 0 rfl (by kernel_rfl) (fun _ _ _ _ _ h => h) (by rfl) ?_; apply Exists.intro; refine ⟨fun w1 hb1 => ?_, ?_⟩; (focus (((obtain ⟨-, k3, -⟩ := K3.out.to (T.out.trans hb1)); have hb1 := Lib.hid hb1; go_simp); (try (go_bits; try go_simp)); (try (rw [if_pos (by omega)]; try go_simp)); (first | done | (fail) | (with_reducible rfl) | exact rfl)))
  simp only [Act.put, List.setIfInBounds_toArray, List.set_cons_zero, List.set_cons_succ]
  refine WT_yes 2 rfl (by kernel_rfl) (fun _ _ _ _ _ h => h) (by rfl) ?_; apply Exists.intro; refine ⟨fun w1 hb1 => ?_, ?_⟩; (focus (((obtain ⟨-, k4, -⟩ := K4.out.to (T.out.trans hb1)); have hb1 := Lib.hid hb1; go_simp); (try (go_bits; try go_simp)); (try (rw [if_pos (by omega)]; try go_simp)); (first | done | (fail) | (with_reducible rfl) | exact rfl)))
  simp only [Act.put, List.setIfInBounds_toArray, List.set_cons_zero, List.set_cons_succ]
  refine WT_yes 3 rfl (by kernel_rfl) (fun _ _ _ _ _ h => h) (by rfl) ?_; apply Exists.intro; refine ⟨fun w1 hb1 => ?_, ?_⟩; (focus (((obtain ⟨-, k5, -⟩ := K5.out.to (T.out.trans hb1)); have hb1 := Lib.hid hb1; go_simp); (try (go_bits; try go_simp)); (try (rw [if_pos (by omega)]; try go_simp)); (first | done | (fail) | (with_reducible rfl) | exact rfl)))
  simp only [Act.put, List.setIfInBounds_toArray, List.set_cons_zero, List.set_cons_succ]
  refine WT_yes 4 rfl (by kernel_rfl) (fun _ _ _ _ _ h => h) (by rfl) ?_; apply Exists.intro; refine ⟨fun w1 hb1 => ?_, ?_⟩; (focus (((obtain ⟨-, k5, -⟩ := K5.out.to (T.out.trans hb1)); have hb1 := Lib.hid hb1; go_simp); (try (go_bits; try go_simp)); (try (rw [if_pos (by omega)]; try go_simp)); (first | done | (fail) | (with_reducible rfl) | exact rfl)))
  simp only [Act.put, List.setIfInBounds_toArray, List.set_cons_zero, List.set_cons_succ]
  refine WT_yes 6 rfl (by kernel_rfl) (fun _ _ _ _ _ h => h) (by rfl) ?_; apply Exists.intro; refine ⟨fun w1 hb1 => ?_, ?_⟩; (focus (((obtain ⟨-, k5, -⟩ := K5.out.to (T.out.trans hb1)); have hb1 := Lib.hid hb1; go_simp); (try (go_bits; try go_simp)); (try (rw [if_pos (by omega)]; try go_simp)); (first | done | (fail) | (with_reducible rfl) | exact rfl)))
  simp only [Act.put, List.setIfInBounds_toArray, List.set_cons_zero, List.set_cons_succ]
  refine WT_yes 7 rfl (by kernel_rfl) (fun _ _ _ _ _ h => h) (by rfl) ?_; apply Exists.intro; refine ⟨fun w1 hb1 => ?_, ?_⟩; (focus (((obtain ⟨-, k5, -⟩ := K5.out.to (T.out.trans hb1)); have hb1 := Lib.hid hb1; go_simp); (try (go_bits; try go_simp)); (try (rw [if_pos (by omega)]; try go_simp)); (first | done | (fail) | (with_reducible rfl) | exact rfl)))
  simp only [Act.put, List.setIfInBounds_toArray, List.set_cons_zero, List.set_cons_succ]
  refine WT_one 1 rfl (by kernel_rfl) ?_
  unfold stepT
  go_wp2_with fail
  refine (HCPY.out _ (bThen HB.out T.out)).mono ?_
  rintro e u1 ⟨a1, c1, rfl, -, hr1, hb, -⟩
  have HR1 := Lib.hid hr1
  clear hr1
  unfold plC
  rw [HM.out] at HR1 ⊢
  have hbd := Lib.hid (hb.mono T.out.size)
  replace T := Lib.hid (bThen T.out hb)
  clear hb
  go_wp2_with fail
  refine ⟨hbd.out, ?_⟩
  clear hbd
  refine WT_one 5 rfl (by kernel_rfl) ?_
  unfold stepT
  go_wp2_with fail
  refine (HCR.out _ (bThen HB.out T.out)).mono ?_
  rintro e u2 ⟨a2, c2, rfl, -, hr2, hb, -⟩
  have HR2 := Lib.hid hr2
  clear hr2
  replace HR1 := Lib.hid (HR1.out.to hb)
  have hbd := Lib.hid (hb.mono T.out.size)
  replace T := Lib.hid (bThen T.out hb)
  clear hb
  go_wp2_with fail
  refine ⟨hbd.out, ?_⟩
  clear hbd
  refine WT_one 8 rfl (by kernel_rfl) ?_
  unfold stepT
  go_wp2_with fail
  refine (HWT.out _ _ _ _ _ HR1.out HR2.out).mono ?_
  rintro e u3 ⟨aw, cw, rfl, hcw, hrw, hb, -⟩
  have HRW := Lib.hid hrw
  clear hrw HR1 HR2
  have hbd := Lib.hid (hb.mono T.out.size)
  replace T := Lib.hid (bThen T.out hb)
  clear hb
  go_wp2_with fail
  refine ⟨hbd.out, ?_⟩
  clear hbd
  refine WT_yes 9 rfl (by kernel_rfl) (fun _ _ _ _ _ h => h) (by rfl) ?_; apply Exists.intro; refine ⟨fun w1 hb1 => ?_, ?_⟩; (focus ((skip; have hb1 := Lib.hid hb1; go_simp); (try (go_bits; try go_simp)); (try (rw [if_pos (by omega)]; try go_simp)); (first | done | (fail) | (with_reducible rfl) | exact rfl)))
  simp only [Act.put, List.setIfInBounds_toArray, List.set_cons_zero, List.set_cons_succ]
  refine WT_yes 10 rfl (by kernel_rfl) (fun _ _ _ _ _ h => h) (by rfl) ?_; apply Exists.intro; refine ⟨fun w1 hb1 => ?_, ?_⟩; (focus ((skip; have hb1 := Lib.hid hb1; go_simp); (try (go_bits; try go_simp)); (try (rw [if_pos (by omega)]; try go_simp)); (first | done | (fail) | (with_reducible rfl) | exact rfl)))
  simp only [Act.put, List.setIfInBounds_toArray, List.set_cons_zero, List.set_cons_succ]
  refine WT_yes 11 rfl (by kernel_rfl) (fun _ _ _ _ _ h => h) (by rfl) ?_; apply Exists.intro; refine ⟨fun w1 hb1 => ?_, ?_⟩; (focus ((skip; have hb1 := Lib.hid hb1; go_simp); (try (go_bits; try go_simp)); (try (rw [if_pos (by omega)]; try go_simp)); (first | done | (fail) | (with_reducible rfl) | exact rfl)))
  simp only [Act.put, List.setIfInBounds_toArray, List.set_cons_zero, List.set_cons_succ]
  refine WT_yes 12 rfl (by kernel_rfl) (fun _ _ _ _ _ h => h) (by rfl) ?_; apply Exists.intro; refine ⟨fun w1 hb1 => ?_, ?_⟩; (focus ((skip; have hb1 := Lib.hid hb1; go_simp); (try (go_bits; try go_simp)); (try (rw [if_pos (by omega)]; try go_simp)); (first | done | (fail) | (with_reducible rfl) | exact rfl)))
  simp only [Act.put, List.setIfInBounds_toArray, List.set_cons_zero, List.set_cons_succ]
  refine WT_yes 13 rfl (by kernel_rfl) (fun _ _ _ _ _ h => h) (by rfl) ?_; apply Exists.intro; refine ⟨fun w1 hb1 => ?_, ?_⟩; (focus ((skip; have hb1 := Lib.hid hb1; go_simp); (try (go_bits; try go_simp)); (try (rw [if_pos (by omega)]; try go_simp)); (first | done | (fail) | (with_reducible rfl) | exact rfl)))
  simp only [Act.put, List.setIfInBounds_toArray, List.set_cons_zero, List.set_cons_succ]
  refine WT_done (by kernel_rfl) ?_
  go_wp2_with fail
  replace HB := Lib.hid (bThen HB.out T.out)
  replace K3 := Lib.hid (K3.out.to T.out)
  replace K4 := Lib.hid (K4.out.to T.out)
  replace K5 := Lib.hid (K5.out.to T.out)
  clear T
  go_wp2_with fail
  refine wp_region_tree (by kernel_rfl) (fun wd hwd => ?_)
  have T := Lib.hid hwd
  clear hwd
  refine WT_yes 0 rfl (by kernel_rfl) (fun _ _ _ _ _ h => h) (by rfl) ?_; apply Exists.intro; refine ⟨fun w1 hb1 => ?_, ?_⟩; (focus (((obtain ⟨-, k3, -⟩ := K3.out.to (T.out.trans hb1)); have hb1 := Lib.hid hb1; go_simp); (try (go_bits; try go_simp)); (try (rw [if_pos (by omega)]; try go_simp)); (first | done | (fail) | (with_reducible rfl) | exact rfl)))
  simp only [Act.put, List.setIfInBounds_toArray, List.set_cons_zero, List.set_cons_succ]
  refine WT_yes 2 rfl (by kernel_rfl) (fun _ _ _ _ _ h => h) (by rfl) ?_; apply Exists.intro; refine ⟨fun w1 hb1 => ?_, ?_⟩; (focus (((obtain ⟨-, k4, -⟩ := K4.out.to (T.out.trans hb1)); have hb1 := Lib.hid hb1; go_simp); (try (go_bits; try go_simp)); (try (rw [if_pos (by omega)]; try go_simp)); (first | done | (fail) | (with_reducible rfl) | exact rfl)))
  simp only [Act.put, List.setIfInBounds_toArray, List.set_cons_zero, List.set_cons_succ]
  refine WT_yes 3 rfl (by kernel_rfl) (fun _ _ _ _ _ h => h) (by rfl) ?_; apply Exists.intro; refine ⟨fun w1 hb1 => ?_, ?_⟩; (focus (((obtain ⟨-, k5, -⟩ := K5.out.to (T.out.trans hb1)); have hb1 := Lib.hid hb1; go_simp); (try (go_bits; try go_simp)); (try (rw [if_pos (by omega)]; try go_simp)); (first | done | (fail) | (with_reducible rfl) | exact rfl)))
  simp only [Act.put, List.setIfInBounds_toArray, List.set_cons_zero, List.set_cons_succ]
  refine WT_yes 4 rfl (by kernel_rfl) (fun _ _ _ _ _ h => h) (by rfl) ?_; apply Exists.intro; refine ⟨fun w1 hb1 => ?_, ?_⟩; (focus (((obtain ⟨-, k5, -⟩ := K5.out.to (T.out.trans hb1)); have hb1 := Lib.hid hb1; go_simp); (try (go_bits; try go_simp)); (try (rw [if_pos (by omega)]; try go_simp)); (first | done | (fail) | (with_reducible rfl) | exact rfl)))
  simp only [Act.put, List.setIfInBounds_toArray, List.set_cons_zero, List.set_cons_succ]
  refine WT_yes 6 rfl (by kernel_rfl) (fun _ _ _ _ _ h => h) (by rfl) ?_; apply Exists.intro; refine ⟨fun w1 hb1 => ?_, ?_⟩; (focus (((obtain ⟨-, k5, -⟩ := K5.out.to (T.out.trans hb1)); have hb1 := Lib.hid hb1; go_simp); (try (go_bits; try go_simp)); (try (rw [if_pos (by omega)]; try go_simp)); (first | done | (fail) | (with_reducible rfl) | exact rfl)))
  simp only [Act.put, List.setIfInBounds_toArray, List.set_cons_zero, List.set_cons_succ]
  refine WT_yes 7 rfl (by kernel_rfl) (fun _ _ _ _ _ h => h) (by rfl) ?_; apply Exists.intro; refine ⟨fun w1 hb1 => ?_, ?_⟩; (focus (((obtain ⟨-, k5, -⟩ := K5.out.to (T.out.trans hb1)); have hb1 := Lib.hid hb1; go_simp); (try (go_bits; try go_simp)); (try (rw [if_pos (by omega)]; try go_simp)); (first | done | (fail) | (with_reducible rfl) | exact rfl)))
  simp only [Act.put, List.setIfInBounds_toArray, List.set_cons_zero, List.set_cons_succ]
  refine WT_one 1 rfl (by kernel_rfl) ?_
  unfold stepT
  go_wp2_with fail
  refine (HCPY.out _ (bThen HB.out T.out)).mono ?_
  rintro e v0 ⟨a1, c1, rfl, -, hr1, hb, -⟩
  have HR1 := Lib.hid hr1
  clear hr1
  unfold plC
  rw [HM.out] at HR1 ⊢
  have hbd := Lib.hid (hb.mono T.out.size)
  replace T := Lib.hid (bThen T.out hb)
  clear hb
  go_wp2_with fail
  refine ⟨hbd.out, ?_⟩
  clear hbd
  refine WT_one 5 rfl (by kernel_rfl) ?_
  unfold stepT
  go_wp2_with fail
  refine (HCR.out _ (bThen HB.out T.out)).mono ?_
  rintro e v1 ⟨a2, c2, rfl, -, hr2, hb, -⟩
  have HR2 := Lib.hid hr2
  clear hr2
  replace HR1 := Lib.hid (HR1.out.to hb)
  have hbd := Lib.hid (hb.mono T.out.size)
  replace T := Lib.hid (bThen T.out hb)
  clear hb
  go_wp2_with fail
  refine ⟨hbd.out, ?_⟩
  clear hbd
  refine WT_one 8 rfl (by kernel_rfl) ?_
  unfold stepT
  go_wp2_with fail
  refine (HPC.out _ _ _ _ _ HR1.out HR2.out).mono ?_
  rintro e v2 ⟨rfl, hb⟩
  clear HR1 HR2
  have hbd := Lib.hid (hb.mono T.out.size)
  replace T := Lib.hid (bThen T.out hb)
  clear hb
  go_wp2_with fail
  refine ⟨hbd.out, ?_⟩
  clear hbd
  refine WT_yes 9 rfl (by kernel_rfl) (fun _ _ _ _ _ h => h) (by rfl) ?_; apply Exists.intro; refine ⟨fun w1 hb1 => ?_, ?_⟩; (focus ((skip; have hb1 := Lib.hid hb1; go_simp); (try (go_bits; try go_simp)); (try (rw [if_pos (by omega)]; try go_simp)); (first | done | (fail) | (with_reducible rfl) | exact rfl)))
  simp only [Act.put, List.setIfInBounds_toArray, List.set_cons_zero, List.set_cons_succ]
  refine WT_yes 10 rfl (by kernel_rfl) (fun _ _ _ _ _ h => h) (by rfl) ?_; apply Exists.intro; refine ⟨fun w1 hb1 => ?_, ?_⟩; (focus ((skip; have hb1 := Lib.hid hb1; go_simp); (try (go_bits; try go_simp)); (try (rw [if_pos (by omega)]; try go_simp)); (first | done | (fail) | (with_reducible rfl) | exact rfl)))
  simp only [Act.put, List.setIfInBounds_toArray, List.set_cons_zero, List.set_cons_succ]
  refine WT_yes 11 rfl (by kernel_rfl) (fun _ _ _ _ _ h => h) (by rfl) ?_; apply Exists.intro; refine ⟨fun w1 hb1 => ?_, ?_⟩; (focus ((skip; have hb1 := Lib.hid hb1; go_simp); (try (go_bits; try go_simp)); (try (rw [if_pos (by omega)]; try go_simp)); (first | done | (fail) | (with_reducible rfl) | exact rfl)))
  simp only [Act.put, List.setIfInBounds_toArray, List.set_cons_zero, List.set_cons_succ]
  refine WT_yes 12 rfl (by kernel_rfl) (fun _ _ _ _ _ h => h) (by rfl) ?_; apply Exists.intro; refine ⟨fun w1 hb1 => ?_, ?_⟩; (focus ((skip; have hb1 := Lib.hid hb1; go_simp); (try (go_bits; try go_simp)); (try (rw [if_pos (by omega)]; try go_simp)); (first | done | (fail) | (with_reducible rfl) | exact rfl)))
  simp only [Act.put, List.setIfInBounds_toArray, List.set_cons_zero, List.set_cons_succ]
  refine WT_yes 13 rfl (by kernel_rfl) (fun _ _ _ _ _ h => h) (by rfl) ?_; apply Exists.intro; refine ⟨fun w1 hb1 => ?_, ?_⟩; (focus ((skip; have hb1 := Lib.hid hb1; go_simp); (try (go_bits; try go_simp)); (try (rw [if_pos (by omega)]; try go_simp)); (first | done | (fail) | (with_reducible rfl) | exact rfl)))
  simp only [Act.put, List.setIfInBounds_toArray, List.set_cons_zero, List.set_cons_succ]
  refine WT_done (by kernel_rfl) ?_
  replace HB := Lib.hid (bThen HB.out T.out)
  replace K3 := Lib.hid (K3.out.to T.out)
  replace K4 := Lib.hid (K4.out.to T.out)
  replace K5 := Lib.hid (K5.out.to T.out)
  replace HRW := Lib.hid (HRW.out.to T.out)
  clear T
  rcases HTW.out with ⟨e1, e2, e3, hwn⟩ | ⟨e2, e3, hws⟩
  · have e4 : nr = 0 := by rw [← HNR.out, e1]; rfl
    subst e1 e2 e3 e4
    replace HPO := Lib.hid (fun W a1 c1 a2 c2 => HPO.out W a1 c1 a2 c2 hwn)
    clear HTW HPC HPT HRT HRO HWT HCR HWR HSE HBL HNR hwn HRW hcw
    obtain ⟨-, k5, -⟩ := K5.out
    go_wp2_with fail
    clear k5
    replace HRC := Lib.hid (HRC.out.to HB.out)
    replace HRX := Lib.hid (HRX.out.to HB.out)
    go_loopw [11, 12, 13] (fun s11 s12 _ wr => ∃ (k : Nat) (va : Option Addr) (vc : Nat), s11 = .slice va k vc ∧ s12 = .int .i64 k ∧ k ≤ l ∧ Hid (wr.ownsRow v2.heap.size 25 2 (.slice va k vc) k (fcells (ownL c xs k))) ∧ Hid (Below v2.heap.size v2 wr)) (fun _ s12 _ _ => l - (intOf s12).toNat)
    case atStart => exact ⟨0, none, 0, rfl, rfl, Nat.zero_le _, Lib.hid ⟨by simp [ownL, fcells], .inl ⟨rfl, rfl⟩⟩, Lib.hid (bSelf v2)⟩
    case round =>
      obtain ⟨k, va, vc, rfl, rfl, hk, HO, HR0⟩ := hrel
      by_cases hlt : k < l
      · obtain ⟨b, off, rfl, hb, hc⟩ := (HRC.out.to HR0.out).at (k := k * 2) (by omega)
        obtain ⟨b', off', rfl, hb', hc'⟩ := (HRX.out.to HR0.out).at (k := k) hlt
        obtain ⟨⟨lo, hi⟩, hv⟩ : ∃ v, fg c k = v := ⟨_, rfl⟩
        obtain ⟨x, hx⟩ : ∃ x, gi xs k = x := ⟨_, rfl⟩
        have C0 : Hid (wr.cell? ⟨b, off + k * 2, none⟩ = some (.int .i64 lo)) := Lib.hid (by have := hc (k * 2) (by omega); rw [fracs0, hv] at this; exact this)
        have C1 : Hid (wr.cell? ⟨b, off + k * 2 + 1, none⟩ = some (.int .i64 hi)) := Lib.hid (by have := hc (k * 2 + 1) (by omega); rw [fracs1, hv] at this; exact this)
        have X0 : Hid (wr.cell? ⟨b', off' + k, none⟩ = some (.int .i64 x)) := Lib.hid (by rw [hc' k hlt]; unfold ints; rw [hx])
        have hvb := HOK.out.1.2.2.2 k (by have := HN.out; omega)
        rw [hv] at hvb
        dsimp only at hvb
        obtain ⟨hv0, hv1, hv2⟩ := hvb
        obtain ⟨md, hmd⟩ : ∃ m, x % (hi - lo + 1) = m := ⟨_, rfl⟩
        have hm0 := Int.emod_nonneg x (show hi - lo + 1 ≠ 0 by omega)
        have hm1 := Int.emod_lt_of_pos x (show 0 < hi - lo + 1 by omega)
        rw [hmd] at hm0 hm1
        have HMD : Hid (∀ W, Calls Tryz.prog 41 #[.int .i64 x, .int .i64 (hi - lo + 1)] W fun e w' => e = .returned (.int .i64 md) ∧ W = w') := Lib.hid (fun W => by have := Mod_any x (hi - lo + 1) W (by omega) (by omega); rw [hmd] at this; exact this)
        have HOD : Hid (ownD c xs k = lo + md) := Lib.hid (by unfold ownD; rw [hv, hx, hmd])
        clear hc hc' hv hx hmd
        obtain ⟨-, k5, -⟩ := K5.out.to HR0.out
        go_wp2_with fail
        clear k5
        refine wp_region_quiet_all (fun w' => Below (World.heap wr).size (wr) w') (by kernel_rfl) (by kernel_rfl) (Below.refl _ _).drew ?_
        refine WQ.out ?_
        repeat (first | (refine WQ_no (by rfl) ?_; (simp only [Act.put, List.setIfInBounds_toArray, List.set_cons_zero, List.set_cons_succ])) | (refine WQ_yes (by rfl) ?_; apply Exists.intro; refine ⟨fun w1 hb1 => ?_, ?_⟩; (focus (((obtain ⟨-, k5, -⟩ := (K5.out.to HR0.out).to hb1; have c0 := (hb1.cell (p := ⟨b, off + k * 2, none⟩) hb).trans C0.out; have c1 := (hb1.cell (p := ⟨b, off + k * 2 + 1, none⟩) hb).trans C1.out; have x0 := (hb1.cell (p := ⟨b', off' + k, none⟩) hb').trans X0.out); have hb1 := Lib.hid hb1; go_simp); (try (go_bits; try go_simp)); (try (rw [if_pos (by omega)]; try go_simp)); (first | done | ((go_at_call 41; refine (HMD.out _).mono ?_; rintro e w' ⟨rfl, rfl⟩; exact ⟨rfl, hb1.out⟩)) | (with_reducible rfl) | exact rfl))); (simp only [Act.put, List.setIfInBounds_toArray, List.set_cons_zero, List.set_cons_succ])))
        refine WQ_nil ?_
        intro w1 hb1
        have HOw := Lib.hid (owns_to HO.out hb1)
        replace HR0 := Lib.hid (bThen HR0.out hb1)
        have hs1 : v2.heap.size ≤ w1.heap.size := HR0.out.size
        clear hb1 hb hb' C0 C1 X0 HMD HO
        obtain ⟨od, hod⟩ : ∃ o, lo + md = o := ⟨_, rfl⟩
        rw [hod] at HOD ⊢
        clear hod
        have HROW := Lib.hid (HOw.out.alloc (.cells #[.int .i64 od, .int .i64 od] 25))
        have HNN := Lib.hid (Blk.new w1 #[.int .i64 od, .int .i64 od] 25).news
        have hlo := Lib.hid HOw.out.lt
        go_wp2_with (at_builtin; go_loud (refine wpList_app v2.heap.size rtRg rfl (.tmp 146) (.tmp 150) rfl _ k _ rfl HROW.out ⟨w1.heap.size, 0, none⟩ 1 1 [.int .i64 od, .int .i64 od] rfl rfl (by simpa using HNN.out) (ones [od, od]) (by unfold maxLen; omega) (by omega) (by simp; omega) ?_; intro v' w7 hown' hgrow _ hwhere; obtain ⟨va', vc', rfl⟩ := ownsRow_sl hown'; have HO7 := Lib.hid hown'; have HG7 := Lib.hid hgrow; clear hown' hgrow hwhere))
        have HB7 : Hid (Below v2.heap.size w1 w7) := Lib.hid (((Below.refl _ _).alloc hs1 _).grown HG7.out (by simp; omega) (fun k e => (hlo.out k e).1))
        go_roundw
        case rel =>
          refine ⟨k + 1, va', vc', rfl, by go_num, by omega, Lib.hid ?_, Lib.hid (HR0.out.trans HB7.out)⟩
          rw [own_cells, HOD.out]
          exact HO7.out
        case measure => simp [intOf]; omega
      · obtain rfl : k = l := by omega
        replace K3 := Lib.hid (K3.out.to HR0.out)
        replace K4 := Lib.hid (K4.out.to HR0.out)
        replace K5 := Lib.hid (K5.out.to HR0.out)
        replace HB := Lib.hid (bThen HB.out HR0.out)
        obtain ⟨a', cap', e, hcp, hrd, hfr⟩ := Reads.of_row (f := fracs (ownL c xs k)) HO.out (fun i hi => fcells_get _ i (by rw [ownL_len]; exact hi))
        cases e
        have HOR := Lib.hid hrd
        clear hcp hrd hfr HO
        obtain ⟨-, k5, -⟩ := K5.out
        go_wp2_with fail
        clear k5
        refine wp_region_tree (by kernel_rfl) (fun wd hwd => ?_)
        have T := Lib.hid hwd
        clear hwd
        refine WT_yes 0 rfl (by kernel_rfl) (fun _ _ _ _ _ h => h) (by rfl) ?_; apply Exists.intro; refine ⟨fun w1 hb1 => ?_, ?_⟩; (focus (((obtain ⟨-, k3, -⟩ := K3.out.to (T.out.trans hb1)); have hb1 := Lib.hid hb1; go_simp); (try (go_bits; try go_simp)); (try (rw [if_pos (by omega)]; try go_simp)); (first | done | (fail) | (with_reducible rfl) | exact rfl)))
        simp only [Act.put, List.setIfInBounds_toArray, List.set_cons_zero, List.set_cons_succ]
        refine WT_yes 2 rfl (by kernel_rfl) (fun _ _ _ _ _ h => h) (by rfl) ?_; apply Exists.intro; refine ⟨fun w1 hb1 => ?_, ?_⟩; (focus (((obtain ⟨-, k4, -⟩ := K4.out.to (T.out.trans hb1)); have hb1 := Lib.hid hb1; go_simp); (try (go_bits; try go_simp)); (try (rw [if_pos (by omega)]; try go_simp)); (first | done | (fail) | (with_reducible rfl) | exact rfl)))
        simp only [Act.put, List.setIfInBounds_toArray, List.set_cons_zero, List.set_cons_succ]
        refine WT_yes 3 rfl (by kernel_rfl) (fun _ _ _ _ _ h => h) (by rfl) ?_; apply Exists.intro; refine ⟨fun w1 hb1 => ?_, ?_⟩; (focus ((skip; have hb1 := Lib.hid hb1; go_simp); (try (go_bits; try go_simp)); (try (rw [if_pos (by omega)]; try go_simp)); (first | done | (fail) | (with_reducible rfl) | exact rfl)))
        simp only [Act.put, List.setIfInBounds_toArray, List.set_cons_zero, List.set_cons_succ]
        refine WT_yes 4 rfl (by kernel_rfl) (fun _ _ _ _ _ h => h) (by rfl) ?_; apply Exists.intro; refine ⟨fun w1 hb1 => ?_, ?_⟩; (focus (((obtain ⟨-, k5, -⟩ := K5.out.to (T.out.trans hb1)); have hb1 := Lib.hid hb1; go_simp); (try (go_bits; try go_simp)); (try (rw [if_pos (by omega)]; try go_simp)); (first | done | (fail) | (with_reducible rfl) | exact rfl)))
        simp only [Act.put, List.setIfInBounds_toArray, List.set_cons_zero, List.set_cons_succ]
        refine WT_yes 5 rfl (by kernel_rfl) (fun _ _ _ _ _ h => h) (by rfl) ?_; apply Exists.intro; refine ⟨fun w1 hb1 => ?_, ?_⟩; (focus (((obtain ⟨-, k5, -⟩ := K5.out.to (T.out.trans hb1)); have hb1 := Lib.hid hb1; go_simp); (try (go_bits; try go_simp)); (try (rw [if_pos (by omega)]; try go_simp)); (first | done | (fail) | (with_reducible rfl) | exact rfl)))
        simp only [Act.put, List.setIfInBounds_toArray, List.set_cons_zero, List.set_cons_succ]
        refine WT_one 1 rfl (by kernel_rfl) ?_
        unfold stepT
        go_wp2_with fail
        refine (HCPY.out _ (bThen HB.out T.out)).mono ?_
        rintro e z0 ⟨a1, c1, rfl, -, hr1, hb, -⟩
        have HR1 := Lib.hid hr1
        clear hr1
        unfold plC
        rw [HM.out] at HR1 ⊢
        have hbd := Lib.hid (hb.mono T.out.size)
        replace T := Lib.hid (bThen T.out hb)
        clear hb
        go_wp2_with fail
        refine ⟨hbd.out, ?_⟩
        clear hbd
        refine WT_one 6 rfl (by kernel_rfl) ?_
        unfold stepT
        go_wp2_with fail
        refine (HPO.out _ _ _ _ _ HR1.out (HOR.out.to T.out)).mono ?_
        rintro e z1 ⟨rfl, hb⟩
        clear HR1
        have hbd := Lib.hid (hb.mono T.out.size)
        replace T := Lib.hid (bThen T.out hb)
        clear hb
        go_wp2_with fail
        refine ⟨hbd.out, ?_⟩
        clear hbd
        refine WT_yes 7 rfl (by kernel_rfl) (fun _ _ _ _ _ h => h) (by rfl) ?_; apply Exists.intro; refine ⟨fun w1 hb1 => ?_, ?_⟩; (focus ((skip; have hb1 := Lib.hid hb1; go_simp); (try (go_bits; try go_simp)); (try (rw [if_pos (by omega)]; try go_simp)); (first | done | (fail) | (with_reducible rfl) | exact rfl)))
        simp only [Act.put, List.setIfInBounds_toArray, List.set_cons_zero, List.set_cons_succ]
        refine WT_yes 8 rfl (by kernel_rfl) (fun _ _ _ _ _ h => h) (by rfl) ?_; apply Exists.intro; refine ⟨fun w1 hb1 => ?_, ?_⟩; (focus ((skip; have hb1 := Lib.hid hb1; go_simp); (try (go_bits; try go_simp)); (try (rw [if_pos (by omega)]; try go_simp)); (first | done | (fail) | (with_reducible rfl) | exact rfl)))
        simp only [Act.put, List.setIfInBounds_toArray, List.set_cons_zero, List.set_cons_succ]
        refine WT_yes 9 rfl (by kernel_rfl) (fun _ _ _ _ _ h => h) (by rfl) ?_; apply Exists.intro; refine ⟨fun w1 hb1 => ?_, ?_⟩; (focus ((skip; have hb1 := Lib.hid hb1; go_simp); (try (go_bits; try go_simp)); (try (rw [if_pos (by omega)]; try go_simp)); (first | done | (fail) | (with_reducible rfl) | exact rfl)))
        simp only [Act.put, List.setIfInBounds_toArray, List.set_cons_zero, List.set_cons_succ]
        refine WT_yes 10 rfl (by kernel_rfl) (fun _ _ _ _ _ h => h) (by rfl) ?_; apply Exists.intro; refine ⟨fun w1 hb1 => ?_, ?_⟩; (focus ((skip; have hb1 := Lib.hid hb1; go_simp); (try (go_bits; try go_simp)); (try (rw [if_pos (by omega)]; try go_simp)); (first | done | (fail) | (with_reducible rfl) | exact rfl)))
        simp only [Act.put, List.setIfInBounds_toArray, List.set_cons_zero, List.set_cons_succ]
        refine WT_yes 11 rfl (by kernel_rfl) (fun _ _ _ _ _ h => h) (by rfl) ?_; apply Exists.intro; refine ⟨fun w1 hb1 => ?_, ?_⟩; (focus ((skip; have hb1 := Lib.hid hb1; go_simp); (try (go_bits; try go_simp)); (try (rw [if_pos (by omega)]; try go_simp)); (first | done | (fail) | (with_reducible rfl) | exact rfl)))
        simp only [Act.put, List.setIfInBounds_toArray, List.set_cons_zero, List.set_cons_succ]
        refine WT_done (by kernel_rfl) ?_
        go_wp2_with fail
        replace HB := Lib.hid (bThen HB.out T.out)
        replace K3 := Lib.hid (K3.out.to T.out)
        replace K4 := Lib.hid (K4.out.to T.out)
        replace K5 := Lib.hid (K5.out.to T.out)
        clear T
        go_wp2_with fail
        go_ret
        exact ⟨rfl, HB.out⟩
  · have hrl : nr ≤ l := by have := hws.len; have := HNR.out; have := HN.out; omega
    have HWS := Lib.hid hws
    subst e2 e3
    clear HTW HPC HPO HWT HCR hws HRX
    replace HRC := Lib.hid (HRC.out.to HB.out)
    obtain ⟨-, k5, -⟩ := K5.out
    go_wp2_with fail
    clear k5
    go_loopw [16] (fun s16 wr => ∃ k : Nat, s16 = .int .i64 k ∧ k ≤ nr ∧ Hid (Below v2.heap.size v2 wr)) (fun s16 _ => nr - (intOf s16).toNat)
    case atStart => exact ⟨0, rfl, Nat.zero_le _, Lib.hid (bSelf v2)⟩
    case round =>
      obtain ⟨k, rfl, hk, HR0⟩ := hrel
      by_cases hlt : k < nr
      · obtain ⟨b, off, rfl, hb, hc⟩ := (HRC.out.to HR0.out).at (k := k * 2) (by omega)
        obtain ⟨b', off', rfl, hb', hc'⟩ := (HRW.out.to HR0.out).at (k := k) hlt
        obtain ⟨⟨lo, hi⟩, hv⟩ : ∃ v, fg c k = v := ⟨_, rfl⟩
        obtain ⟨x, hx⟩ : ∃ x, gi ro k = x := ⟨_, rfl⟩
        have C0 : Hid (wr.cell? ⟨b, off + k * 2, none⟩ = some (.int .i64 lo)) := Lib.hid (by have := hc (k * 2) (by omega); rw [fracs0, hv] at this; exact this)
        have C1 : Hid (wr.cell? ⟨b, off + k * 2 + 1, none⟩ = some (.int .i64 hi)) := Lib.hid (by have := hc (k * 2 + 1) (by omega); rw [fracs1, hv] at this; exact this)
        have X0 : Hid (wr.cell? ⟨b', off' + k, none⟩ = some (.int .i64 x)) := Lib.hid (by rw [hc' k hlt]; unfold ints; rw [hx])
        have hwi := wit_in HWS.out (k := k) (by rw [HNR.out]; exact hlt)
        rw [hv, hx] at hwi
        have HBW : Hid (∀ W, Calls Tryz.prog 42 #[.int .i64 x, .int .i64 lo, .int .i64 hi] W fun e w' => e = .returned (.bool true) ∧ W = w') := Lib.hid (fun W => by have := bWithin_any x lo hi W; rw [decide_eq_true hwi.1, decide_eq_true hwi.2] at this; exact this)
        clear hc hc' hv hx hwi
        go_wp2_with fail
        refine wp_region_quiet_all (fun w' => Below (World.heap wr).size (wr) w') (by kernel_rfl) (by kernel_rfl) (Below.refl _ _).drew ?_
        refine WQ.out ?_
        repeat (first | (refine WQ_no (by rfl) ?_; (simp only [Act.put, List.setIfInBounds_toArray, List.set_cons_zero, List.set_cons_succ])) | (refine WQ_yes (by rfl) ?_; apply Exists.intro; refine ⟨fun w1 hb1 => ?_, ?_⟩; (focus (((obtain ⟨-, k5, -⟩ := (K5.out.to HR0.out).to hb1; have c0 := (hb1.cell (p := ⟨b, off + k * 2, none⟩) hb).trans C0.out; have c1 := (hb1.cell (p := ⟨b, off + k * 2 + 1, none⟩) hb).trans C1.out; have x0 := (hb1.cell (p := ⟨b', off' + k, none⟩) hb').trans X0.out); have hb1 := Lib.hid hb1; go_simp); (try (go_bits; try go_simp)); (try (rw [if_pos (by omega)]; try go_simp)); (first | done | ((go_at_call 42; refine (HBW.out _).mono ?_; rintro e w' ⟨rfl, rfl⟩; exact ⟨rfl, hb1.out⟩)) | (with_reducible rfl) | exact rfl))); (simp only [Act.put, List.setIfInBounds_toArray, List.set_cons_zero, List.set_cons_succ])))
        refine WQ_nil ?_
        intro w1 hb1
        replace HR0 := Lib.hid (bThen HR0.out hb1)
        clear hb1 hb hb' C0 C1 X0 HBW
        go_wp2_with fail
        go_roundw
        case rel => exact ⟨k + 1, by go_num, by omega, HR0⟩
        case measure => simp [intOf]; omega
      · obtain rfl : nr = k := by omega
        replace K3 := Lib.hid (K3.out.to HR0.out)
        replace K4 := Lib.hid (K4.out.to HR0.out)
        replace K5 := Lib.hid (K5.out.to HR0.out)
        replace HB := Lib.hid (bThen HB.out HR0.out)
        replace HRW := Lib.hid (HRW.out.to HR0.out)
        replace HRC := Lib.hid (HRC.out.to HR0.out)
        have HCI := Lib.hid (fun W h => CopyInts_any ro aw cw W (by have := HNR.out; omega) h)
        have HRR := Lib.hid (fun W a1 c1 a2 c2 h1 h2 => HRO.out W a1 c1 a2 c2 ro (by have := HNR.out; unfold maxLen; omega) h1 h2)
        have HWX := HWR.out ro HWS.out
        obtain ⟨rr, hrr⟩ : ∃ x, runO p (s1, sr) ro = x := ⟨_, rfl⟩
        obtain ⟨rv, hrv⟩ : ∃ x, rnR p (s1, sr) ro = x := ⟨_, rfl⟩
        rw [HNR.out] at HCI
        unfold SPost at HRR
        rw [hrr, hrv, HNR.out] at HRR
        rw [hrr, hrv, HNR.out] at HWX
        clear hrr hrv HRO HWR HR0
        go_wp2_with fail
        refine wp_region_tree (by kernel_rfl) (fun wd hwd => ?_)
        have T := Lib.hid hwd
        clear hwd
        refine WT_yes 0 rfl (by kernel_rfl) (fun _ _ _ _ _ h => h) (by rfl) ?_; apply Exists.intro; refine ⟨fun w1 hb1 => ?_, ?_⟩; (focus (((obtain ⟨-, k3, -⟩ := K3.out.to (T.out.trans hb1)); have hb1 := Lib.hid hb1; go_simp); (try (go_bits; try go_simp)); (try (rw [if_pos (by omega)]; try go_simp)); (first | done | (fail) | (with_reducible rfl) | exact rfl)))
        simp only [Act.put, List.setIfInBounds_toArray, List.set_cons_zero, List.set_cons_succ]
        refine WT_yes 2 rfl (by kernel_rfl) (fun _ _ _ _ _ h => h) (by rfl) ?_; apply Exists.intro; refine ⟨fun w1 hb1 => ?_, ?_⟩; (focus (((obtain ⟨-, k4, -⟩ := K4.out.to (T.out.trans hb1)); have hb1 := Lib.hid hb1; go_simp); (try (go_bits; try go_simp)); (try (rw [if_pos (by omega)]; try go_simp)); (first | done | (fail) | (with_reducible rfl) | exact rfl)))
        simp only [Act.put, List.setIfInBounds_toArray, List.set_cons_zero, List.set_cons_succ]
        refine WT_yes 3 rfl (by kernel_rfl) (fun _ _ _ _ _ h => h) (by rfl) ?_; apply Exists.intro; refine ⟨fun w1 hb1 => ?_, ?_⟩; (focus ((skip; have hb1 := Lib.hid hb1; go_simp); (try (go_bits; try go_simp)); (try (rw [if_pos (by omega)]; try go_simp)); (first | done | (fail) | (with_reducible rfl) | exact rfl)))
        simp only [Act.put, List.setIfInBounds_toArray, List.set_cons_zero, List.set_cons_succ]
        refine WT_one 1 rfl (by kernel_rfl) ?_
        unfold stepT
        go_wp2_with fail
        refine (HCPY.out _ (bThen HB.out T.out)).mono ?_
        rintro e z1 ⟨a1, c1, rfl, -, hr1, hb, -⟩
        have HR1 := Lib.hid hr1
        clear hr1
        unfold plC
        rw [HM.out] at HR1 ⊢
        have hbd := Lib.hid (hb.mono T.out.size)
        replace T := Lib.hid (bThen T.out hb)
        clear hb
        go_wp2_with fail
        refine ⟨hbd.out, ?_⟩
        clear hbd
        refine WT_one 4 rfl (by kernel_rfl) ?_
        unfold stepT
        go_wp2_with fail
        refine (HCI.out _ (HRW.out.to T.out)).mono ?_
        rintro e z2 ⟨a2, c2, rfl, -, hr2, hb, -⟩
        have HR2 := Lib.hid hr2
        clear hr2
        replace HR1 := Lib.hid (HR1.out.to hb)
        have hbd := Lib.hid (hb.mono T.out.size)
        replace T := Lib.hid (bThen T.out hb)
        clear hb
        go_wp2_with fail
        refine ⟨hbd.out, ?_⟩
        clear hbd
        refine WT_one 5 rfl (by kernel_rfl) ?_
        unfold stepT
        go_wp2_with fail
        refine (HRR.out _ _ _ _ _ HR1.out HR2.out).mono ?_
        rintro e z3 ⟨a3, c3, rfl, -, hr3, hb, -⟩
        have HRUN := Lib.hid hr3
        clear hr3 HR1 HR2
        have hbd := Lib.hid (hb.mono T.out.size)
        replace T := Lib.hid (bThen T.out hb)
        clear hb
        go_wp2_with fail
        refine ⟨hbd.out, ?_⟩
        clear hbd
        refine WT_yes 6 rfl (by kernel_rfl) (fun _ _ _ _ _ h => h) (by rfl) ?_; apply Exists.intro; refine ⟨fun w1 hb1 => ?_, ?_⟩; (focus ((skip; have hb1 := Lib.hid hb1; go_simp); (try (go_bits; try go_simp)); (try (rw [if_pos (by omega)]; try go_simp)); (first | done | (fail) | (with_reducible rfl) | exact rfl)))
        simp only [Act.put, List.setIfInBounds_toArray, List.set_cons_zero, List.set_cons_succ]
        refine WT_yes 7 rfl (by kernel_rfl) (fun _ _ _ _ _ h => h) (by rfl) ?_; apply Exists.intro; refine ⟨fun w1 hb1 => ?_, ?_⟩; (focus ((skip; have hb1 := Lib.hid hb1; go_simp); (try (go_bits; try go_simp)); (try (rw [if_pos (by omega)]; try go_simp)); (first | done | (fail) | (with_reducible rfl) | exact rfl)))
        simp only [Act.put, List.setIfInBounds_toArray, List.set_cons_zero, List.set_cons_succ]
        refine WT_yes 8 rfl (by kernel_rfl) (fun _ _ _ _ _ h => h) (by rfl) ?_; apply Exists.intro; refine ⟨fun w1 hb1 => ?_, ?_⟩; (focus ((skip; have hb1 := Lib.hid hb1; go_simp); (try (go_bits; try go_simp)); (try (rw [if_pos (by omega)]; try go_simp)); (first | done | (fail) | (with_reducible rfl) | exact rfl)))
        simp only [Act.put, List.setIfInBounds_toArray, List.set_cons_zero, List.set_cons_succ]
        refine WT_yes 9 rfl (by kernel_rfl) (fun _ _ _ _ _ h => h) (by rfl) ?_; apply Exists.intro; refine ⟨fun w1 hb1 => ?_, ?_⟩; (focus ((skip; have hb1 := Lib.hid hb1; go_simp); (try (go_bits; try go_simp)); (try (rw [if_pos (by omega)]; try go_simp)); (first | done | (fail) | (with_reducible rfl) | exact rfl)))
        simp only [Act.put, List.setIfInBounds_toArray, List.set_cons_zero, List.set_cons_succ]
        refine WT_yes 10 rfl (by kernel_rfl) (fun _ _ _ _ _ h => h) (by rfl) ?_; apply Exists.intro; refine ⟨fun w1 hb1 => ?_, ?_⟩; (focus ((skip; have hb1 := Lib.hid hb1; go_simp); (try (go_bits; try go_simp)); (try (rw [if_pos (by omega)]; try go_simp)); (first | done | (fail) | (with_reducible rfl) | exact rfl)))
        simp only [Act.put, List.setIfInBounds_toArray, List.set_cons_zero, List.set_cons_succ]
        refine WT_done (by kernel_rfl) ?_
        replace HB := Lib.hid (bThen HB.out T.out)
        replace K3 := Lib.hid (K3.out.to T.out)
        replace K4 := Lib.hid (K4.out.to T.out)
        replace K5 := Lib.hid (K5.out.to T.out)
        replace HRW := Lib.hid (HRW.out.to T.out)
        replace HRC := Lib.hid (HRC.out.to T.out)
        clear T
        obtain ⟨wz, hwz⟩ : ∃ wz, wz = z3 := ⟨_, rfl⟩
        subst hwz
        go_upto_region 24 with (fail)
        go_cut [17, 18, 240] from 205 to 239 (fun _ _ t wc => t = .bool false ∧ Hid (Below wz.heap.size wz wc))
        case first =>
          rcases HWX with hx | ⟨hx, hxl, hxs, hxp⟩
          · subst hx
            refine wp_region_quiet_all (fun w' => Below (World.heap wz).size (wz) w') (by kernel_rfl) (by kernel_rfl) (Below.refl _ _).drew ?_
            refine WQ.out ?_
            repeat (first | (refine WQ_no (by rfl) ?_; (simp only [Act.put, List.setIfInBounds_toArray, List.set_cons_zero, List.set_cons_succ])) | (refine WQ_yes (by rfl) ?_; apply Exists.intro; refine ⟨fun w1 hb1 => ?_, ?_⟩; (focus ((skip; have hb1 := Lib.hid hb1; go_simp); (try (go_bits; try go_simp)); (try (rw [if_pos (by omega)]; try go_simp)); (first | done | (fail) | (with_reducible rfl) | exact rfl))); (simp only [Act.put, List.setIfInBounds_toArray, List.set_cons_zero, List.set_cons_succ])))
            refine WQ_nil ?_
            intro w1 hb1
            go_wp2_with fail
            go_meet
            case rel => exact ⟨rfl, Lib.hid hb1⟩
          · subst hx
            obtain ⟨g, go, rfl, hg, hgc⟩ := HRUN.out.at (k := nr * 2) (by omega)
            obtain ⟨⟨n1, d1⟩, hz⟩ : ∃ q, sg rr nr = q := ⟨_, rfl⟩
            have E0 : Hid (wz.cell? ⟨g, go + nr * 2, none⟩ = some (.int .i64 n1)) := Lib.hid (by rw [hgc _ (by omega), osts0, hz])
            have E1 : Hid (wz.cell? ⟨g, go + nr * 2 + 1, none⟩ = some (.bool d1)) := Lib.hid (by rw [Nat.add_assoc, hgc _ (by omega), osts1, hz])
            rw [hz] at hxs hxp
            have HS1 : Hid (∀ W, Below w.heap.size w W → Calls Tryz.prog 28 #[.agg #[.slice a m cap, .int .i64 p.pump, .int .i64 p.on, .int .i64 p.off], .agg #[.int .i64 n1, .bool d1]] W fun e w' => e = .returned (.int .i64 0) ∧ Below W.heap.size W w') := Lib.hid (fun W hb => by have := HSE.out W (n1, d1) HOK.out.1.1 h10 hb; rw [hxs] at this; exact this)
            have HS2 : Hid (∀ W, Below w.heap.size w W → Calls Tryz.prog 43 #[.agg #[.slice a m cap, .int .i64 p.pump, .int .i64 p.on, .int .i64 p.off], .agg #[.int .i64 n1, .bool d1], .int .i64 lim] W fun e w' => e = .returned (.bool true) ∧ Below W.heap.size W w') := Lib.hid (fun W hb => by have := HBL.out W (n1, d1) HOK.out.1.1 (by unfold stE at hxs; rw [unlZ (by decide), wthn_iff] at hxs; exact hxs) HLB.out hb; rw [hxp] at this; exact this)
            clear hgc hz hxs hxp HSE HBL
            have hxl2 : (rr.length : Int) = (nr : Int) + 1 := by omega
            have hxl3 : nr < rr.length := by omega
            refine wp_region_quiet_all (fun w' => Below (World.heap wz).size (wz) w') (by kernel_rfl) (by kernel_rfl) (Below.refl _ _).drew ?_
            refine WQ.out ?_
            repeat (first | (refine WQ_no (by rfl) ?_; (simp only [Act.put, List.setIfInBounds_toArray, List.set_cons_zero, List.set_cons_succ])) | (refine WQ_yes (by rfl) ?_; apply Exists.intro; refine ⟨fun w1 hb1 => ?_, ?_⟩; (focus (((obtain ⟨-, k3, -⟩ := K3.out.to hb1; obtain ⟨-, k5, -⟩ := K5.out.to hb1; have e0 := (hb1.cell (p := ⟨g, go + nr * 2, none⟩) hg).trans E0.out; have e1 := (hb1.cell (p := ⟨g, go + nr * 2 + 1, none⟩) hg).trans E1.out); have hb1 := Lib.hid hb1; go_simp); (try (go_bits; try go_simp)); (try (rw [if_pos (by omega)]; try go_simp)); (first | done | ((first | (go_at_call 28; refine (HS1.out _ (bThen HB.out hb1.out)).mono ?_; rintro e w' ⟨rfl, hb⟩; exact ⟨rfl, bThen hb1.out hb⟩) | (go_at_call 43; refine (HS2.out _ (bThen HB.out hb1.out)).mono ?_; rintro e w' ⟨rfl, hb⟩; exact ⟨rfl, bThen hb1.out hb⟩))) | (with_reducible rfl) | exact rfl))); (simp only [Act.put, List.setIfInBounds_toArray, List.set_cons_zero, List.set_cons_succ])))
            refine WQ_nil ?_
            intro w1 hb1
            go_wp2_with fail
            go_meet
            case rel => exact ⟨rfl, Lib.hid hb1⟩
        obtain ⟨wo, hwo⟩ : ∃ wo, wo = wc := ⟨_, rfl⟩
        subst hwo
        obtain ⟨rfl, hcut⟩ := hcut
        have hb := hcut.out
        replace K3 := Lib.hid (K3.out.to hb)
        replace K4 := Lib.hid (K4.out.to hb)
        replace K5 := Lib.hid (K5.out.to hb)
        replace HB := Lib.hid (bThen HB.out hb)
        replace HRW := Lib.hid (HRW.out.to hb)
        replace HRC := Lib.hid (HRC.out.to hb)
        clear hb hcut HWX HRUN HSE HBL HCI HRR
        by_cases hz : nr = 0
        · subst hz
          go_wp2_with fail
          go_ret
          exact ⟨rfl, HB.out⟩
        obtain ⟨j, rfl⟩ : ∃ j, nr = j + 1 := ⟨nr - 1, by omega⟩
        obtain ⟨b, off, rfl, -, -⟩ := HRC.out.at (k := 0) (by omega)
        obtain ⟨b', off', rfl, -, -⟩ := HRW.out.at (k := 0) (by omega)
        have HCT := Lib.hid (fun W c1 h => copy_t c j b off c1 W (by have := HN.out; omega) (by have := HN.out; omega) h)
        have HIT := Lib.hid (fun W c1 h => copyI_t ro j (some ⟨b', off', none⟩) c1 W (by have := HNR.out; omega) (by have := HNR.out; omega) h)
        have HPJ := Lib.hid (fun W a1 c1 a2 c2 h1 h2 => HPT.out W a1 c1 a2 c2 ro j HWS.out (by have := HNR.out; omega) h1 h2)
        have HRJ := Lib.hid (fun W a1 c1 a2 c2 h1 h2 => HRT.out W a1 c1 a2 c2 ro j HWS.out (by have := HNR.out; omega) h1 h2)
        rw [HN.out] at HCT
        rw [HNR.out] at HIT
        clear HPT HRT
        have hjl : (j : Int) + 1 - 1 = (j : Int) := by omega
        have hjc : j ≤ cc := by omega
        have hjw : j ≤ cw := by omega
        go_wp2_with fail
        refine wp_region_tree (by kernel_rfl) (fun wd hwd => ?_)
        have T := Lib.hid hwd
        clear hwd
        refine WT_yes 0 rfl (by kernel_rfl) (fun _ _ _ _ _ h => h) (by rfl) ?_; apply Exists.intro; refine ⟨fun w1 hb1 => ?_, ?_⟩; (focus (((obtain ⟨-, k3, -⟩ := K3.out.to (T.out.trans hb1)); have hb1 := Lib.hid hb1; go_simp); (try (go_bits; try go_simp)); (try (rw [if_pos (by omega)]; try go_simp)); (first | done | (fail) | (with_reducible rfl) | exact rfl)))
        simp only [Act.put, List.setIfInBounds_toArray, List.set_cons_zero, List.set_cons_succ]
        refine WT_yes 2 rfl (by kernel_rfl) (fun _ _ _ _ _ h => h) (by rfl) ?_; apply Exists.intro; refine ⟨fun w1 hb1 => ?_, ?_⟩; (focus (((obtain ⟨-, k4, -⟩ := K4.out.to (T.out.trans hb1)); have hb1 := Lib.hid hb1; go_simp); (try (go_bits; try go_simp)); (try (rw [if_pos (by omega)]; try go_simp)); (first | done | (fail) | (with_reducible rfl) | exact rfl)))
        simp only [Act.put, List.setIfInBounds_toArray, List.set_cons_zero, List.set_cons_succ]
        refine WT_yes 3 rfl (by kernel_rfl) (fun _ _ _ _ _ h => h) (by rfl) ?_; apply Exists.intro; refine ⟨fun w1 hb1 => ?_, ?_⟩; (focus (((obtain ⟨-, k5, -⟩ := K5.out.to (T.out.trans hb1)); have hb1 := Lib.hid hb1; go_simp); (try (go_bits; try go_simp)); (try (rw [if_pos (by omega)]; try go_simp)); (first | done | (fail) | (with_reducible rfl) | exact rfl)))
        simp only [Act.put, List.setIfInBounds_toArray, List.set_cons_zero, List.set_cons_succ]
        refine WT_yes 4 rfl (by kernel_rfl) (fun _ _ _ _ _ h => h) (by rfl) ?_; apply Exists.intro; refine ⟨fun w1 hb1 => ?_, ?_⟩; (focus (((obtain ⟨-, k5, -⟩ := K5.out.to (T.out.trans hb1)); have hb1 := Lib.hid hb1; go_simp); (try (go_bits; try go_simp)); (try (rw [if_pos (by omega)]; try go_simp)); (first | done | (fail) | (with_reducible rfl) | exact rfl)))
        simp only [Act.put, List.setIfInBounds_toArray, List.set_cons_zero, List.set_cons_succ]
        refine WT_yes 5 rfl (by kernel_rfl) (fun _ _ _ _ _ h => h) (by rfl) ?_; apply Exists.intro; refine ⟨fun w1 hb1 => ?_, ?_⟩; (focus ((skip; have hb1 := Lib.hid hb1; go_simp); (try (go_bits; try go_simp)); (try (rw [if_pos (by omega)]; try go_simp)); (first | done | (fail) | (with_reducible rfl) | exact rfl)))
        simp only [Act.put, List.setIfInBounds_toArray, List.set_cons_zero, List.set_cons_succ]
        refine WT_yes 6 rfl (by kernel_rfl) (fun _ _ _ _ _ h => h) (by rfl) ?_; apply Exists.intro; refine ⟨fun w1 hb1 => ?_, ?_⟩; (focus ((skip; have hb1 := Lib.hid hb1; go_simp); (try (go_bits; try go_simp)); (try (rw [if_pos (by omega)]; try go_simp)); (first | done | (fail) | (with_reducible rfl) | exact rfl)))
        simp only [Act.put, List.setIfInBounds_toArray, List.set_cons_zero, List.set_cons_succ]
        refine WT_yes 7 rfl (by kernel_rfl) (fun _ _ _ _ _ h => h) (by rfl) ?_; apply Exists.intro; refine ⟨fun w1 hb1 => ?_, ?_⟩; (focus ((skip; have hb1 := Lib.hid hb1; go_simp); (try (go_bits; try go_simp)); (try (rw [if_pos (by omega)]; try go_simp)); (first | done | (fail) | (with_reducible rfl) | exact rfl)))
        simp only [Act.put, List.setIfInBounds_toArray, List.set_cons_zero, List.set_cons_succ]
        refine WT_yes 8 rfl (by kernel_rfl) (fun _ _ _ _ _ h => h) (by rfl) ?_; apply Exists.intro; refine ⟨fun w1 hb1 => ?_, ?_⟩; (focus ((skip; have hb1 := Lib.hid hb1; go_simp); (try (go_bits; try go_simp)); (try (rw [if_pos (by omega)]; try go_simp)); (first | done | (fail) | (with_reducible rfl) | exact rfl)))
        simp only [Act.put, List.setIfInBounds_toArray, List.set_cons_zero, List.set_cons_succ]
        refine WT_yes 10 rfl (by kernel_rfl) (fun _ _ _ _ _ h => h) (by rfl) ?_; apply Exists.intro; refine ⟨fun w1 hb1 => ?_, ?_⟩; (focus (((obtain ⟨-, k5, -⟩ := K5.out.to (T.out.trans hb1)); have hb1 := Lib.hid hb1; go_simp); (try (go_bits; try go_simp)); (try (rw [if_pos (by omega)]; try go_simp)); (first | done | (fail) | (with_reducible rfl) | exact rfl)))
        simp only [Act.put, List.setIfInBounds_toArray, List.set_cons_zero, List.set_cons_succ]
        refine WT_yes 11 rfl (by kernel_rfl) (fun _ _ _ _ _ h => h) (by rfl) ?_; apply Exists.intro; refine ⟨fun w1 hb1 => ?_, ?_⟩; (focus (((obtain ⟨-, k5, -⟩ := K5.out.to (T.out.trans hb1)); have hb1 := Lib.hid hb1; go_simp); (try (go_bits; try go_simp)); (try (rw [if_pos (by omega)]; try go_simp)); (first | done | (fail) | (with_reducible rfl) | exact rfl)))
        simp only [Act.put, List.setIfInBounds_toArray, List.set_cons_zero, List.set_cons_succ]
        refine WT_one 1 rfl (by kernel_rfl) ?_
        unfold stepT
        go_wp2_with fail
        refine (HCPY.out _ (bThen HB.out T.out)).mono ?_
        rintro e r1 ⟨a1, c1, rfl, -, hr1, hb, -⟩
        have HR1 := Lib.hid hr1
        clear hr1
        unfold plC
        rw [HM.out] at HR1 ⊢
        have hbd := Lib.hid (hb.mono T.out.size)
        replace T := Lib.hid (bThen T.out hb)
        clear hb
        go_wp2_with fail
        refine ⟨hbd.out, ?_⟩
        clear hbd
        refine WT_one 9 rfl (by kernel_rfl) ?_
        unfold stepT
        go_wp2_with fail
        refine (HCT.out _ _ (HRC.out.to T.out)).mono ?_
        rintro e r2 ⟨a2, c2, rfl, -, hr2, hb, -⟩
        have HR2 := Lib.hid hr2
        clear hr2
        replace HR1 := Lib.hid (HR1.out.to hb)
        have hbd := Lib.hid (hb.mono T.out.size)
        replace T := Lib.hid (bThen T.out hb)
        clear hb
        go_wp2_with fail
        refine ⟨hbd.out, ?_⟩
        clear hbd
        refine WT_one 12 rfl (by kernel_rfl) ?_
        unfold stepT
        go_wp2_with fail
        refine (HPJ.out _ _ _ _ _ HR1.out HR2.out).mono ?_
        rintro e r3 ⟨rfl, hb⟩
        clear HR1 HR2
        have hbd := Lib.hid (hb.mono T.out.size)
        replace T := Lib.hid (bThen T.out hb)
        clear hb
        go_wp2_with fail
        refine ⟨hbd.out, ?_⟩
        clear hbd
        refine WT_yes 13 rfl (by kernel_rfl) (fun _ _ _ _ _ h => h) (by rfl) ?_; apply Exists.intro; refine ⟨fun w1 hb1 => ?_, ?_⟩; (focus ((skip; have hb1 := Lib.hid hb1; go_simp); (try (go_bits; try go_simp)); (try (rw [if_pos (by omega)]; try go_simp)); (first | done | (fail) | (with_reducible rfl) | exact rfl)))
        simp only [Act.put, List.setIfInBounds_toArray, List.set_cons_zero, List.set_cons_succ]
        refine WT_yes 14 rfl (by kernel_rfl) (fun _ _ _ _ _ h => h) (by rfl) ?_; apply Exists.intro; refine ⟨fun w1 hb1 => ?_, ?_⟩; (focus ((skip; have hb1 := Lib.hid hb1; go_simp); (try (go_bits; try go_simp)); (try (rw [if_pos (by omega)]; try go_simp)); (first | done | (fail) | (with_reducible rfl) | exact rfl)))
        simp only [Act.put, List.setIfInBounds_toArray, List.set_cons_zero, List.set_cons_succ]
        refine WT_yes 15 rfl (by kernel_rfl) (fun _ _ _ _ _ h => h) (by rfl) ?_; apply Exists.intro; refine ⟨fun w1 hb1 => ?_, ?_⟩; (focus ((skip; have hb1 := Lib.hid hb1; go_simp); (try (go_bits; try go_simp)); (try (rw [if_pos (by omega)]; try go_simp)); (first | done | (fail) | (with_reducible rfl) | exact rfl)))
        simp only [Act.put, List.setIfInBounds_toArray, List.set_cons_zero, List.set_cons_succ]
        refine WT_yes 16 rfl (by kernel_rfl) (fun _ _ _ _ _ h => h) (by rfl) ?_; apply Exists.intro; refine ⟨fun w1 hb1 => ?_, ?_⟩; (focus ((skip; have hb1 := Lib.hid hb1; go_simp); (try (go_bits; try go_simp)); (try (rw [if_pos (by omega)]; try go_simp)); (first | done | (fail) | (with_reducible rfl) | exact rfl)))
        simp only [Act.put, List.setIfInBounds_toArray, List.set_cons_zero, List.set_cons_succ]
        refine WT_yes 17 rfl (by kernel_rfl) (fun _ _ _ _ _ h => h) (by rfl) ?_; apply Exists.intro; refine ⟨fun w1 hb1 => ?_, ?_⟩; (focus ((skip; have hb1 := Lib.hid hb1; go_simp); (try (go_bits; try go_simp)); (try (rw [if_pos (by omega)]; try go_simp)); (first | done | (fail) | (with_reducible rfl) | exact rfl)))
        simp only [Act.put, List.setIfInBounds_toArray, List.set_cons_zero, List.set_cons_succ]
        refine WT_done (by kernel_rfl) ?_
        go_wp2_with fail
        replace HB := Lib.hid (bThen HB.out T.out)
        replace K3 := Lib.hid (K3.out.to T.out)
        replace K4 := Lib.hid (K4.out.to T.out)
        replace K5 := Lib.hid (K5.out.to T.out)
        replace HRW := Lib.hid (HRW.out.to T.out)
        clear T
        go_wp2_with fail
        refine wp_region_tree (by kernel_rfl) (fun wd hwd => ?_)
        have T := Lib.hid hwd
        clear hwd
        refine WT_yes 0 rfl (by kernel_rfl) (fun _ _ _ _ _ h => h) (by rfl) ?_; apply Exists.intro; refine ⟨fun w1 hb1 => ?_, ?_⟩; (focus (((obtain ⟨-, k3, -⟩ := K3.out.to (T.out.trans hb1)); have hb1 := Lib.hid hb1; go_simp); (try (go_bits; try go_simp)); (try (rw [if_pos (by omega)]; try go_simp)); (first | done | (fail) | (with_reducible rfl) | exact rfl)))
        simp only [Act.put, List.setIfInBounds_toArray, List.set_cons_zero, List.set_cons_succ]
        refine WT_yes 2 rfl (by kernel_rfl) (fun _ _ _ _ _ h => h) (by rfl) ?_; apply Exists.intro; refine ⟨fun w1 hb1 => ?_, ?_⟩; (focus (((obtain ⟨-, k4, -⟩ := K4.out.to (T.out.trans hb1)); have hb1 := Lib.hid hb1; go_simp); (try (go_bits; try go_simp)); (try (rw [if_pos (by omega)]; try go_simp)); (first | done | (fail) | (with_reducible rfl) | exact rfl)))
        simp only [Act.put, List.setIfInBounds_toArray, List.set_cons_zero, List.set_cons_succ]
        refine WT_yes 3 rfl (by kernel_rfl) (fun _ _ _ _ _ h => h) (by rfl) ?_; apply Exists.intro; refine ⟨fun w1 hb1 => ?_, ?_⟩; (focus ((skip; have hb1 := Lib.hid hb1; go_simp); (try (go_bits; try go_simp)); (try (rw [if_pos (by omega)]; try go_simp)); (first | done | (fail) | (with_reducible rfl) | exact rfl)))
        simp only [Act.put, List.setIfInBounds_toArray, List.set_cons_zero, List.set_cons_succ]
        refine WT_yes 4 rfl (by kernel_rfl) (fun _ _ _ _ _ h => h) (by rfl) ?_; apply Exists.intro; refine ⟨fun w1 hb1 => ?_, ?_⟩; (focus ((skip; have hb1 := Lib.hid hb1; go_simp); (try (go_bits; try go_simp)); (try (rw [if_pos (by omega)]; try go_simp)); (first | done | (fail) | (with_reducible rfl) | exact rfl)))
        simp only [Act.put, List.setIfInBounds_toArray, List.set_cons_zero, List.set_cons_succ]
        refine WT_yes 5 rfl (by kernel_rfl) (fun _ _ _ _ _ h => h) (by rfl) ?_; apply Exists.intro; refine ⟨fun w1 hb1 => ?_, ?_⟩; (focus ((skip; have hb1 := Lib.hid hb1; go_simp); (try (go_bits; try go_simp)); (try (rw [if_pos (by omega)]; try go_simp)); (first | done | (fail) | (with_reducible rfl) | exact rfl)))
        simp only [Act.put, List.setIfInBounds_toArray, List.set_cons_zero, List.set_cons_succ]
        refine WT_yes 6 rfl (by kernel_rfl) (fun _ _ _ _ _ h => h) (by rfl) ?_; apply Exists.intro; refine ⟨fun w1 hb1 => ?_, ?_⟩; (focus ((skip; have hb1 := Lib.hid hb1; go_simp); (try (go_bits; try go_simp)); (try (rw [if_pos (by omega)]; try go_simp)); (first | done | (fail) | (with_reducible rfl) | exact rfl)))
        simp only [Act.put, List.setIfInBounds_toArray, List.set_cons_zero, List.set_cons_succ]
        refine WT_yes 7 rfl (by kernel_rfl) (fun _ _ _ _ _ h => h) (by rfl) ?_; apply Exists.intro; refine ⟨fun w1 hb1 => ?_, ?_⟩; (focus ((skip; have hb1 := Lib.hid hb1; go_simp); (try (go_bits; try go_simp)); (try (rw [if_pos (by omega)]; try go_simp)); (first | done | (fail) | (with_reducible rfl) | exact rfl)))
        simp only [Act.put, List.setIfInBounds_toArray, List.set_cons_zero, List.set_cons_succ]
        refine WT_one 1 rfl (by kernel_rfl) ?_
        unfold stepT
        go_wp2_with fail
        refine (HCPY.out _ (bThen HB.out T.out)).mono ?_
        rintro e r4 ⟨a1, c1, rfl, -, hr1, hb, -⟩
        have HR1 := Lib.hid hr1
        clear hr1
        unfold plC
        rw [HM.out] at HR1 ⊢
        have hbd := Lib.hid (hb.mono T.out.size)
        replace T := Lib.hid (bThen T.out hb)
        clear hb
        go_wp2_with fail
        refine ⟨hbd.out, ?_⟩
        clear hbd
        refine WT_one 8 rfl (by kernel_rfl) ?_
        unfold stepT
        go_wp2_with fail
        refine (HIT.out _ _ (HRW.out.to T.out)).mono ?_
        rintro e r5 ⟨a2, c2, rfl, -, hr2, hb, -⟩
        have HR2 := Lib.hid hr2
        clear hr2
        replace HR1 := Lib.hid (HR1.out.to hb)
        have hbd := Lib.hid (hb.mono T.out.size)
        replace T := Lib.hid (bThen T.out hb)
        clear hb
        go_wp2_with fail
        refine ⟨hbd.out, ?_⟩
        clear hbd
        refine WT_one 9 rfl (by kernel_rfl) ?_
        unfold stepT
        go_wp2_with fail
        refine (HRJ.out _ _ _ _ _ HR1.out HR2.out).mono ?_
        rintro e r6 ⟨rv2, rfl, hb⟩
        clear HR1 HR2
        have hbd := Lib.hid (hb.mono T.out.size)
        replace T := Lib.hid (bThen T.out hb)
        clear hb
        go_wp2_with fail
        refine ⟨hbd.out, ?_⟩
        clear hbd
        refine WT_yes 10 rfl (by kernel_rfl) (fun _ _ _ _ _ h => h) (by rfl) ?_; apply Exists.intro; refine ⟨fun w1 hb1 => ?_, ?_⟩; (focus ((skip; have hb1 := Lib.hid hb1; go_simp); (try (go_bits; try go_simp)); (try (rw [if_pos (by omega)]; try go_simp)); (first | done | (fail) | (with_reducible rfl) | exact rfl)))
        simp only [Act.put, List.setIfInBounds_toArray, List.set_cons_zero, List.set_cons_succ]
        refine WT_yes 11 rfl (by kernel_rfl) (fun _ _ _ _ _ h => h) (by rfl) ?_; apply Exists.intro; refine ⟨fun w1 hb1 => ?_, ?_⟩; (focus ((skip; have hb1 := Lib.hid hb1; go_simp); (try (go_bits; try go_simp)); (try (rw [if_pos (by omega)]; try go_simp)); (first | done | (fail) | (with_reducible rfl) | exact rfl)))
        simp only [Act.put, List.setIfInBounds_toArray, List.set_cons_zero, List.set_cons_succ]
        refine WT_yes 12 rfl (by kernel_rfl) (fun _ _ _ _ _ h => h) (by rfl) ?_; apply Exists.intro; refine ⟨fun w1 hb1 => ?_, ?_⟩; (focus ((skip; have hb1 := Lib.hid hb1; go_simp); (try (go_bits; try go_simp)); (try (rw [if_pos (by omega)]; try go_simp)); (first | done | (fail) | (with_reducible rfl) | exact rfl)))
        simp only [Act.put, List.setIfInBounds_toArray, List.set_cons_zero, List.set_cons_succ]
        refine WT_yes 13 rfl (by kernel_rfl) (fun _ _ _ _ _ h => h) (by rfl) ?_; apply Exists.intro; refine ⟨fun w1 hb1 => ?_, ?_⟩; (focus ((skip; have hb1 := Lib.hid hb1; go_simp); (try (go_bits; try go_simp)); (try (rw [if_pos (by omega)]; try go_simp)); (first | done | (fail) | (with_reducible rfl) | exact rfl)))
        simp only [Act.put, List.setIfInBounds_toArray, List.set_cons_zero, List.set_cons_succ]
        refine WT_yes 14 rfl (by kernel_rfl) (fun _ _ _ _ _ h => h) (by rfl) ?_; apply Exists.intro; refine ⟨fun w1 hb1 => ?_, ?_⟩; (focus ((skip; have hb1 := Lib.hid hb1; go_simp); (try (go_bits; try go_simp)); (try (rw [if_pos (by omega)]; try go_simp)); (first | done | (fail) | (with_reducible rfl) | exact rfl)))
        simp only [Act.put, List.setIfInBounds_toArray, List.set_cons_zero, List.set_cons_succ]
        refine WT_done (by kernel_rfl) ?_
        go_wp2_with fail
        replace HB := Lib.hid (bThen HB.out T.out)
        replace K3 := Lib.hid (K3.out.to T.out)
        replace K4 := Lib.hid (K4.out.to T.out)
        replace K5 := Lib.hid (K5.out.to T.out)
        clear T
        go_wp2_with fail
        go_ret
        exact ⟨rfl, HB.out⟩

end Go.Proofs.YtjfedpblkejmkaaGreat

