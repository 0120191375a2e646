/-
  Texts of this claim, in their build order: OR6.
-/
import Derived.Test.YtbpcapcgbnbknaaGreatOne42
import Derived.Test.YtbpcapcgbnbknaaGreatOne0

namespace Go.Proofs.YtbpcapcgbnbknaaGreat
section
open Go.RowKit
attribute [local go_sem] Oper.semAt_some

theorem ptE_val (l : List (Int × Int)) (k : Nat) : ptE l k = if wthn (fg l k).1 0 200 = false then 2 else if wthn (fg l k).2 0 1000 = false then 2 else if ordB l k = false then 9 else 0 := by
  unfold ptE
  cases wthn (fg l k).1 0 200 <;> cases wthn (fg l k).2 0 1000 <;> cases ordB l k <;> rfl
theorem pltE_val (p : Plt) : pltE p = if wthn p.pump 0 50 = false then 2 else if wthn p.on 0 1000 = false then 2 else if wthn p.off 0 1000 = false then 2 else if decide (p.on < p.off) = false then 9 else 0 := by
  unfold pltE
  cases wthn p.pump 0 50 <;> cases wthn p.on 0 1000 <;> cases wthn p.off 0 1000 <;> cases decide (p.on < p.off) <;> rfl
theorem fewE_val (n : Int) : fewE n = if n < 2 then 10 else if 8 < n then 8 else 0 := by
  unfold fewE
  by_cases h1 : n < 2
  · rw [if_pos h1, decide_eq_false (show ¬ 2 ≤ n by omega)]; rfl
  · rw [if_neg h1, decide_eq_true (show 2 ≤ n by omega)]
    by_cases h2 : 8 < n
    · rw [if_pos h2, decide_eq_false (show ¬ n ≤ 8 by omega)]; rfl
    · rw [if_neg h2, decide_eq_true (show n ≤ 8 by omega)]; rfl

set_option maxHeartbeats 6400000 in
set_option maxRecDepth 100000 in
theorem rCheckPlant_any (p : Plt) (a : Option Addr) (cap : Nat) (w : World) (hlen : p.pts.length ≤ 100000) (hr : Reads w a (p.pts.length * 2) (fracs p.pts)) :
    Calls Tryz.prog 73 #[.agg (plC p a cap)] w fun e w' => e = .returned (.tuple #[.int .i64 (chP p).1, .int .i64 (chP p).2]) ∧ Below w.heap.size w w' := by
  have HCH : Hid (chP p = if fewE p.pts.length ≠ 0 then (0, fewE p.pts.length) else if (eachR (ptE p.pts) 0 p.pts.length).2 ≠ 0 then eachR (ptE p.pts) 0 p.pts.length else (0, pltE p)) := zH rfl
  have HFE := zH (fewE_val p.pts.length)
  have HPE := zH (fun k => ptE_val p.pts k)
  have HLE := zH (pltE_val p)
  have HR := zH hr
  obtain ⟨⟨c1, c2⟩, hc⟩ : ∃ c, chP p = c := ⟨_, rfl⟩
  rw [hc] at HCH ⊢
  obtain ⟨l, pump, on, off⟩ := p
  unfold plC
  dsimp only at HR hlen HCH HFE HPE HLE ⊢
  obtain ⟨pe, hpe⟩ : ∃ e, pltE ⟨l, pump, on, off⟩ = e := ⟨_, rfl⟩
  rw [hpe] at HCH HLE
  obtain ⟨n, hn⟩ : ∃ n, l.length = n := ⟨_, rfl⟩
  have HN := zH hn
  rw [hn] at HR hlen HCH HFE ⊢
  obtain ⟨fe, hfe⟩ : ∃ e, fewE n = e := ⟨_, rfl⟩
  rw [hfe] at HCH HFE
  clear hr hc hpe hn hfe
  go_enter Tryz.func73, Tryz.ntmps73
  by_cases n2 : (n : Int) < 2
  · have hq : (c1, c2) = (0, 10) := by rw [HCH.out, HFE.out, if_pos n2]; rfl
    injection hq with h1 h2
    subst h1 h2
    clear HCH HFE HPE HLE
    go_wp2_with fail
    go_ret2
    exact ⟨rfl, bAlloc (bSelf w) _⟩
  · by_cases n8 : 8 < (n : Int)
    · have hq : (c1, c2) = (0, 8) := by rw [HCH.out, HFE.out, if_neg n2, if_pos n8]; rfl
      injection hq with h1 h2
      subst h1 h2
      clear HCH HFE HPE HLE
      go_wp2_with fail
      go_ret2
      exact ⟨rfl, bAlloc (bSelf w) _⟩
    · have hf0 : fe = 0 := by rw [HFE.out, if_neg n2, if_neg n8]
      subst hf0
      have hq : (c1, c2) = if (eachR (ptE l) 0 n).2 ≠ 0 then eachR (ptE l) 0 n else (0, pe) := by rw [HCH.out]; rfl
      replace HCH := zH hq
      clear hq HFE
      go_wp2_with fail
      obtain ⟨W, hW⟩ : ∃ W, w.alloc (.cells #[.slice a n cap, .int .i64 pump, .int .i64 on, .int .i64 off] 51) = W := ⟨_, rfl⟩
      rw [hW]
      have K1 : Hid (Blk W w.heap.size #[.slice a n cap, .int .i64 pump, .int .i64 on, .int .i64 off]) := by subst hW; exact zH (Blk.new _ _ _)
      have HB : Hid (Below w.heap.size w W) := by subst hW; exact zH (bAlloc (bSelf w) _)
      replace HR := zH (HR.out.to HB.out)
      clear hW
      go_loopw [5] (fun s5 wr => ∃ k : Nat, k ≤ n ∧ s5 = .int .i64 k ∧ Hid (eachR (ptE l) 0 n = eachR (ptE l) k (n - k)) ∧ Hid (Below W.heap.size W wr)) (fun s5 _ => n - (intOf s5).toNat)
      case atStart => exact ⟨0, Nat.zero_le _, rfl, zH rfl, zH (bSelf W)⟩
      case round =>
        obtain ⟨k, hk, rfl, hee, hB⟩ := hrel
        obtain ⟨wo, hwo⟩ : ∃ wo, wo = wr := ⟨_, rfl⟩
        subst hwo
        by_cases hlt : k < n
        · have HPK := zH (HPE.out k)
          have HBAD : Hid (∀ e, ptE l k = e → e ≠ 0 → (c1, c2) = ((k : Int), e)) := zH (fun e he hne => by
            have h1 := eachR_stop (err := ptE l) hlt (by rw [he]; exact hne)
            rw [HCH.out, hee.out, h1, he, if_pos hne])
          have HGO : Hid (ptE l k = 0 → eachR (ptE l) 0 n = eachR (ptE l) (k + 1) (n - (k + 1))) := zH (fun h => hee.out.trans (eachR_step hlt h))
          obtain ⟨b, off', rfl, hb, hc⟩ := (HR.out.to hB.out).at (k := k * 2) (by omega)
          obtain ⟨⟨v, q⟩, hv⟩ : ∃ v, fg l k = v := ⟨_, rfl⟩
          have H0 : Hid (wo.cell? ⟨b, off' + k * 2, none⟩ = some (.int .i64 v)) := zH (by have := hc (k * 2) (by omega); rw [fracs0, hv] at this; exact this)
          have H1 : Hid (wo.cell? ⟨b, off' + k * 2 + 1, none⟩ = some (.int .i64 q)) := zH (by have := hc (k * 2 + 1) (by omega); rw [fracs1, hv] at this; exact this)
          have HBL : Hid (b < wo.heap.size) := zH hb
          have HOB : Hid (ordB l k = if k = 0 then v == 0 else decide ((fg l (k - 1)).1 < v) && decide ((fg l (k - 1)).2 < q)) := zH (by
            unfold ordB
            by_cases h0 : k = 0
            · subst h0; rw [if_pos rfl, if_pos rfl, hv]
            · rw [if_neg h0, if_neg h0, hv])
          rw [hv] at HPK
          dsimp only at HPK
          obtain ⟨bv, hbv⟩ : ∃ b, wthn v 0 200 = b := ⟨_, rfl⟩
          obtain ⟨bq, hbq⟩ : ∃ b, wthn q 0 1000 = b := ⟨_, rfl⟩
          obtain ⟨bo, hbo⟩ : ∃ b, ordB l k = b := ⟨_, rfl⟩
          have HV := zH (fun W => (show Calls Tryz.prog 60 #[.int .i64 v, .int .i64 0, .int .i64 200] W fun e w' => e = .returned (.bool bv) ∧ W = w' from by rw [← hbv]; exact bWth_any v 0 200 W))
          have HQ := zH (fun W => (show Calls Tryz.prog 60 #[.int .i64 q, .int .i64 0, .int .i64 1000] W fun e w' => e = .returned (.bool bq) ∧ W = w' from by rw [← hbq]; exact bWth_any q 0 1000 W))
          rw [hbv, hbq, hbo] at HPK
          rw [hbo] at HOB
          have HIN : Hid (0 < k → ∃ v' q', wo.cell? ⟨b, off' + (k - 1) * 2, none⟩ = some (.int .i64 v') ∧ wo.cell? ⟨b, off' + (k - 1) * 2 + 1, none⟩ = some (.int .i64 q') ∧ fg l (k - 1) = (v', q')) := zH (fun h0 => by
            refine ⟨(fg l (k - 1)).1, (fg l (k - 1)).2, ?_, ?_, rfl⟩
            · have := hc ((k - 1) * 2) (by omega); rw [fracs0] at this; exact this
            · have := hc ((k - 1) * 2 + 1) (by omega); rw [fracs1] at this; exact this)
          clear hc hv hbv hbq hbo hb
          obtain c0 := H0.out
          obtain c1' := H1.out
          go_wp2_with fail
          refine (HV.out _).mono ?_
          rintro e w' ⟨rfl, rfl⟩
          cases bv with
          | false =>
            have hq := HBAD.out 2 (by rw [HPK.out]; rfl) (by decide)
            injection hq with h1 h2
            subst h1 h2
            go_wp2_with fail
            go_ret2
            exact ⟨rfl, bThen HB.out hB.out⟩
          | true =>
            go_wp2_with fail
            refine (HQ.out _).mono ?_
            rintro e w' ⟨rfl, rfl⟩
            cases bq with
            | false =>
              have hq := HBAD.out 2 (by rw [HPK.out]; rfl) (by decide)
              injection hq with h1 h2
              subst h1 h2
              go_wp2_with fail
              go_ret2
              exact ⟨rfl, bThen HB.out hB.out⟩
            | true =>
              clear c0 c1'
              go_upto_region 11 with (fail)
              go_cut [78] from 37 to 78 (fun s78 wc => s78 = .bool (!bo) ∧ Hid (Below wo.heap.size wo wc))
              case first =>
                by_cases hk0 : k = 0
                · subst hk0
                  have hbo := HOB.out
                  rw [if_pos rfl] at hbo
                  replace H0 : Hid (wo.cell? ⟨b, off', none⟩ = some (.int .i64 v)) := zH (by have := H0.out; rwa [Nat.zero_mul, Nat.add_zero] at this)
                  have hn0 : (0 : Int) < (n : Int) := by omega
                  clear HOB HBAD HGO HIN HPK H1 hee
                  cases hz : v == 0
                  · rw [hz] at hbo
                    subst hbo
                    have hz' : (v != 0) = true := by rw [bne, hz]; rfl
                    clear hz
                    refine wp_region_quiet_all (fun w' => Below (World.heap wo).size (wo) w') (by kernel_rfl) (by kernel_rfl) (Below.refl _ _).drew ?_
                    refine WQ.out ?_
                    repeat (first | (refine WQ_no (by rfl) ?_; (simp only [Act.put, zzT, zzO, zzS])) | (refine WQ_yes (by rfl) ?_; apply Exists.intro; refine ⟨fun w1 hb1 => ?_, ?_⟩; (focus (((have c0 := (hb1.cell (p := ⟨b, off', none⟩) HBL.out).trans H0.out); have hb1 := zH hb1; go_simp); (try (go_bits; try go_simp)); (try (rw [if_pos (by omega)]; try go_simp)); (first | done | (with_reducible rfl) | exact rfl))); (simp only [Act.put, zzT, zzO, zzS])))
                    refine WQ_nil ?_
                    intro w1 hb1
                    go_wp2_with fail
                    go_meet
                    case rel => exact ⟨rfl, zH hb1⟩
                  · rw [hz] at hbo
                    subst hbo
                    have hz' : (v != 0) = false := by rw [bne, hz]; rfl
                    clear hz
                    refine wp_region_quiet_all (fun w' => Below (World.heap wo).size (wo) w') (by kernel_rfl) (by kernel_rfl) (Below.refl _ _).drew ?_
                    refine WQ.out ?_
                    repeat (first | (refine WQ_no (by rfl) ?_; (simp only [Act.put, zzT, zzO, zzS])) | (refine WQ_yes (by rfl) ?_; apply Exists.intro; refine ⟨fun w1 hb1 => ?_, ?_⟩; (focus (((have c0 := (hb1.cell (p := ⟨b, off', none⟩) HBL.out).trans H0.out); have hb1 := zH hb1; go_simp); (try (go_bits; try go_simp)); (try (rw [if_pos (by omega)]; try go_simp)); (first | done | (with_reducible rfl) | exact rfl))); (simp only [Act.put, zzT, zzO, zzS])))
                    refine WQ_nil ?_
                    intro w1 hb1
                    go_wp2_with fail
                    go_meet
                    case rel => exact ⟨rfl, zH hb1⟩
                · obtain ⟨j, hj⟩ : ∃ j, k = j + 1 := ⟨k - 1, by omega⟩
                  obtain ⟨v', q', d0, d1, hf⟩ := HIN.out (by omega)
                  have hbo := HOB.out
                  rw [if_neg hk0, hf] at hbo
                  have D0 : Hid (wo.cell? ⟨b, off' + j * 2, none⟩ = some (.int .i64 v')) := zH (by rw [show k - 1 = j by omega] at d0; exact d0)
                  have D1 : Hid (wo.cell? ⟨b, off' + j * 2 + 1, none⟩ = some (.int .i64 q')) := zH (by rw [show k - 1 = j by omega] at d1; exact d1)
                  have g1 : ((k : Int) == 0) = false := by rw [beq_eq_false_iff_ne]; omega
                  have g2 : decide ((0 : Int) < (k : Int)) = true := decide_eq_true (by omega)
                  have g2' : 0 < k := by omega
                  have g3 : (k : Int) - 1 = (j : Int) := by omega
                  have g4 : (k : Int) < (n : Int) := by omega
                  have g5 : (j : Int) < (n : Int) := by omega
                  clear HOB HBAD HGO HIN HPK hee d0 d1 hf hj hk0
                  cases h1 : decide (v ≤ v')
                  · cases h2 : decide (q ≤ q')
                    · have hb' : bo = true := by
                        have e1 := of_decide_eq_false h1
                        have e2 := of_decide_eq_false h2
                        rw [hbo, decide_eq_true (show (v', q').1 < v by dsimp only; omega), decide_eq_true (show (v', q').2 < q by dsimp only; omega)]; rfl
                      clear hbo
                      subst hb'
                      refine wp_region_quiet_all (fun w' => Below (World.heap wo).size (wo) w') (by kernel_rfl) (by kernel_rfl) (Below.refl _ _).drew ?_
                      refine WQ.out ?_
                      repeat (first | (refine WQ_no (by rfl) ?_; (simp only [Act.put, zzT, zzO, zzS])) | (refine WQ_yes (by rfl) ?_; apply Exists.intro; refine ⟨fun w1 hb1 => ?_, ?_⟩; (focus (((have c0 := (hb1.cell (p := ⟨b, off' + k * 2, none⟩) HBL.out).trans H0.out; have c1 := (hb1.cell (p := ⟨b, off' + k * 2 + 1, none⟩) HBL.out).trans H1.out; have d0 := (hb1.cell (p := ⟨b, off' + j * 2, none⟩) HBL.out).trans D0.out; have d1 := (hb1.cell (p := ⟨b, off' + j * 2 + 1, none⟩) HBL.out).trans D1.out); have hb1 := zH hb1; go_simp); (try (go_bits; try go_simp)); (try (rw [if_pos (by omega)]; try go_simp)); (first | done | (with_reducible rfl) | exact rfl))); (simp only [Act.put, zzT, zzO, zzS])))
                      refine WQ_nil ?_
                      intro w1 hb1
                      go_wp2_with fail
                      go_meet
                      case rel => exact ⟨rfl, zH hb1⟩
                    · have hb' : bo = false := by
                        have e2 := of_decide_eq_true h2
                        rw [hbo, decide_eq_false (show ¬ (v', q').2 < q by dsimp only; omega), Bool.and_false]
                      clear hbo
                      subst hb'
                      refine wp_region_quiet_all (fun w' => Below (World.heap wo).size (wo) w') (by kernel_rfl) (by kernel_rfl) (Below.refl _ _).drew ?_
                      refine WQ.out ?_
                      repeat (first | (refine WQ_no (by rfl) ?_; (simp only [Act.put, zzT, zzO, zzS])) | (refine WQ_yes (by rfl) ?_; apply Exists.intro; refine ⟨fun w1 hb1 => ?_, ?_⟩; (focus (((have c0 := (hb1.cell (p := ⟨b, off' + k * 2, none⟩) HBL.out).trans H0.out; have c1 := (hb1.cell (p := ⟨b, off' + k * 2 + 1, none⟩) HBL.out).trans H1.out; have d0 := (hb1.cell (p := ⟨b, off' + j * 2, none⟩) HBL.out).trans D0.out; have d1 := (hb1.cell (p := ⟨b, off' + j * 2 + 1, none⟩) HBL.out).trans D1.out); have hb1 := zH hb1; go_simp); (try (go_bits; try go_simp)); (try (rw [if_pos (by omega)]; try go_simp)); (first | done | (with_reducible rfl) | exact rfl))); (simp only [Act.put, zzT, zzO, zzS])))
                      refine WQ_nil ?_
                      intro w1 hb1
                      go_wp2_with fail
                      go_meet
                      case rel => exact ⟨rfl, zH hb1⟩
                  · have hb' : bo = false := by
                      have e1 := of_decide_eq_true h1
                      rw [hbo, decide_eq_false (show ¬ (v', q').1 < v by dsimp only; omega), Bool.false_and]
                    clear hbo
                    subst hb'
                    refine wp_region_quiet_all (fun w' => Below (World.heap wo).size (wo) w') (by kernel_rfl) (by kernel_rfl) (Below.refl _ _).drew ?_
                    refine WQ.out ?_
                    repeat (first | (refine WQ_no (by rfl) ?_; (simp only [Act.put, zzT, zzO, zzS])) | (refine WQ_yes (by rfl) ?_; apply Exists.intro; refine ⟨fun w1 hb1 => ?_, ?_⟩; (focus (((have c0 := (hb1.cell (p := ⟨b, off' + k * 2, none⟩) HBL.out).trans H0.out; have c1 := (hb1.cell (p := ⟨b, off' + k * 2 + 1, none⟩) HBL.out).trans H1.out; have d0 := (hb1.cell (p := ⟨b, off' + j * 2, none⟩) HBL.out).trans D0.out; have d1 := (hb1.cell (p := ⟨b, off' + j * 2 + 1, none⟩) HBL.out).trans D1.out); have hb1 := zH hb1; go_simp); (try (go_bits; try go_simp)); (try (rw [if_pos (by omega)]; try go_simp)); (first | done | (with_reducible rfl) | exact rfl))); (simp only [Act.put, zzT, zzO, zzS])))
                    refine WQ_nil ?_
                    intro w1 hb1
                    go_wp2_with fail
                    go_meet
                    case rel => exact ⟨rfl, zH hb1⟩
              obtain ⟨wq, hwq⟩ : ∃ wq, wq = wc := ⟨_, rfl⟩
              subst hwq
              obtain ⟨rfl, HWC⟩ := hcut
              cases bo with
              | false =>
                have hq := HBAD.out 9 (by rw [HPK.out]; rfl) (by decide)
                injection hq with h1 h2
                subst h1 h2
                go_wp2_with fail
                go_ret2
                exact ⟨rfl, bThen HB.out (bThen hB.out HWC.out)⟩
              | true =>
                have HG := zH (HGO.out (by rw [HPK.out]; rfl))
                go_wp2_with fail
                go_roundw
                case rel => exact ⟨k + 1, by omega, by go_num, HG, zH (bThen hB.out HWC.out)⟩
                case measure => simp [intOf]; omega
        · obtain rfl : k = n := by omega
          have HCE : Hid ((c1, c2) = (0, pe)) := zH (by rw [HCH.out, hee.out, Nat.sub_self]; rfl)
          have hq := HCE.out
          injection hq with h1 h2
          subst h1 h2
          clear HCH HPE hee HCE
          have HF1 := zH (fun W => rFlowErr_any pump W)
          have HF2 := zH (fun W => rLimitErr_any on W)
          have HF3 := zH (fun W => rLimitErr_any off W)
          obtain ⟨bp, hbp⟩ : ∃ b, wthn pump 0 50 = b := ⟨_, rfl⟩
          obtain ⟨bn, hbn⟩ : ∃ b, wthn on 0 1000 = b := ⟨_, rfl⟩
          obtain ⟨bf, hbf⟩ : ∃ b, wthn off 0 1000 = b := ⟨_, rfl⟩
          rw [hbp] at HF1 HLE
          rw [hbn] at HF2 HLE
          rw [hbf] at HF3 HLE
          clear hbp hbn hbf
          obtain ⟨-, k1, -⟩ := K1.out.to hB.out
          go_wp2_with fail
          refine (HF1.out _).mono ?_
          rintro e w' ⟨rfl, rfl⟩
          cases bp with
          | false =>
            obtain rfl : c2 = 2 := HLE.out
            go_wp2_with fail
            go_ret2
            exact ⟨rfl, bThen HB.out hB.out⟩
          | true =>
            go_wp2_with fail
            refine (HF2.out _).mono ?_
            rintro e w' ⟨rfl, rfl⟩
            cases bn with
            | false =>
              obtain rfl : c2 = 2 := HLE.out
              go_wp2_with fail
              go_ret2
              exact ⟨rfl, bThen HB.out hB.out⟩
            | true =>
              go_wp2_with fail
              refine (HF3.out _).mono ?_
              rintro e w' ⟨rfl, rfl⟩
              cases bf with
              | false =>
                obtain rfl : c2 = 2 := HLE.out
                go_wp2_with fail
                go_ret2
                exact ⟨rfl, bThen HB.out hB.out⟩
              | true =>
                cases g1 : decide (on < off) with
                | false =>
                  obtain rfl : c2 = 9 := by rw [HLE.out, g1]; rfl
                  have g2 : decide (off ≤ on) = true := decide_eq_true (by have := of_decide_eq_false g1; omega)
                  clear g1
                  go_wp2_with fail
                  go_ret2
                  exact ⟨rfl, bThen HB.out hB.out⟩
                | true =>
                  obtain rfl : c2 = 0 := by rw [HLE.out, g1]; rfl
                  have g2 : decide (off ≤ on) = false := decide_eq_false (by have := of_decide_eq_true g1; omega)
                  clear g1
                  go_wp2_with fail
                  go_ret2
                  exact ⟨rfl, bThen HB.out hB.out⟩

theorem rPlantErr_any (p : Plt) (a : Option Addr) (cap : Nat) (w : World) (hlen : p.pts.length ≤ 100000) (hr : Reads w a (p.pts.length * 2) (fracs p.pts)) :
    Calls Tryz.prog 20 #[.agg (plC p a cap)] w fun e w' => e = .returned (.int .i64 (chP p).2) ∧ Below w.heap.size w w' := by
  have HC := zH (fun W (hb : Below w.heap.size w W) => rCheckPlant_any p a cap W hlen (hr.to hb))
  clear hr
  go_enter Tryz.func20, Tryz.ntmps20
  go_wp2_with fail
  refine (HC.out _ (bAlloc (bSelf w) _)).mono ?_
  rintro e w1 ⟨rfl, hb⟩
  have HB := zH (bThen (bAlloc (bSelf w) _) hb)
  clear hb
  go_wp2_with fail
  go_ret
  exact ⟨rfl, HB.out⟩
end
end Go.Proofs.YtbpcapcgbnbknaaGreat
