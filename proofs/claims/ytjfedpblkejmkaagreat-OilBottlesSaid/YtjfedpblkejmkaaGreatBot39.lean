/-
  Texts of this claim, in their build order: OL2.
-/
import Derived.Test.YtjfedpblkejmkaaGreatBot25
import Derived.Test.YtjfedpblkejmkaaGreatBot32
import Derived.Test.YtjfedpblkejmkaaGreatBot34
import Derived.Test.YtjfedpblkejmkaaGreatBot38
import Derived.Test.YtjfedpblkejmkaaGreatBot4
import Derived.Test.YtjfedpblkejmkaaGreatBot0

namespace Go.Proofs.YtjfedpblkejmkaaGreat
section
open Go.RowKit
attribute [local go_sem] Oper.semAt_some

theorem exP_runE : rnR exP (30, false) [12, 12, 3] = 0 := by kernel_rfl
theorem exP_runO : runO exP (30, false) [12, 12, 3] = [(30, false), (18, false), (6, true), (7, true)] := by kernel_rfl
theorem exP_lwtE : lwtE exP (30, false) exC = 0 := by decide
theorem exP_lwtA : lwtA exP (30, false) exC = (2, 165, 1) := by decide
theorem exP_wtnE : wtnE exP (30, false) exC 166 = 0 := by decide
theorem exP_wtnO : wtnO exP (30, false) exC 166 = some [12, 2] := by decide
theorem exS_E : opRE exS (0, 2) 20 = 0 := by decide
theorem exS_O : safO exS (0, 2) 20 = [(1, true), (2, true), (3, false), (3, true), (4, false), (4, true)] := by
  unfold safO; rw [if_pos exS_E]; exact exS_saf
theorem exV_E : drpE exV 5 20 = 0 := by decide
theorem exV_O : flwO exV 5 20 = (4, 15) := by decide
theorem exC_E : clrE 100 3 4 5 10 20 25 = 0 := by decide
theorem exC_O : clrO 100 3 4 5 10 20 25 = 2 := by decide
theorem six_st (w : World) (l : List OSt) (cs : Array Value) (T : TypeId) {B : Nat} (hB : w.heap.size = B) (n : Nat) (hn : l.length = n) (h : cs.toList = scells l) : Reads (w.alloc (.cells cs T)) (some ⟨B, 0, none⟩) (n * 2) (osts l) :=
  Reads.fresh w _ _ _ _ _ hB (fun i hi => by
    have := scells_get l i (by rw [hn]; exact hi)
    rw [← h, Array.getElem?_toList] at this
    exact this)

set_option maxHeartbeats 6400000 in
set_option maxRecDepth 100000 in
theorem oAwake_any (w : World) : Calls Tryz.prog 14 #[] w fun e w' => e = .returned (.bool true) ∧ Below w.heap.size w w' := by
  have HRUN := zH (fun W a ad cd h1 h2 => oRunOf_any exP (30, false) [12, 12, 3] a ad 3 cd W (by decide) (by decide) h1 h2)
  have HLOW := zH (fun W a ac h1 h2 => LowestIn_any exP (30, false) exC a ac 3 2 W (by decide) (by decide) h2 h1)
  have HWIT := zH (fun W a ac h1 h2 => WitnessOf_any exP (30, false) exC 166 a ac 3 2 W (by decide) (by decide) h2 h1)
  have HSAF := zH (fun W a h1 => SafeFor_any exS 0 2 20 a 2 W (by decide) h1)
  have HFLW := zH (fun W a h1 => FlowIn_any exV 5 20 a 3 W (by decide) h1)
  have HCLR := zH (fun W => ClearOf_any 100 3 4 5 10 20 25 W)
  unfold SPost at HRUN HSAF
  rw [exP_runE, exP_runO] at HRUN
  rw [exP_lwtE, exP_lwtA] at HLOW
  rw [exP_wtnE, exP_wtnO] at HWIT
  rw [exS_E, exS_O] at HSAF
  rw [exV_E, exV_O] at HFLW
  rw [exC_E, exC_O] at HCLR
  simp only [Option.getD_some, List.length_cons, List.length_nil, Nat.reduceAdd, show exP.pts.length = 3 from rfl, show exS.pts.length = 2 from rfl, show exC.length = 2 from rfl, show exV.length = 3 from rfl] at HRUN HLOW HWIT HSAF HFLW HCLR
  go_enter Tryz.func14, Tryz.ntmps14
  go_wp2_with fail
  refine (Plant_any _).mono ?_
  rintro e w1 ⟨a1, rfl, hr1, hb⟩
  have HB := zH hb
  have H1 := zH hr1
  clear hb hr1
  go_wp2_with fail
  refine (Full_any _).mono ?_
  rintro e w2 ⟨rfl, hb⟩
  replace HB := zH (bThen HB.out hb)
  replace H1 := zH (H1.out.to hb)
  clear hb
  go_wp2_with fail
  refine (HRUN.out _ _ _ _ (H1.out.alloc _) (three_fresh _ _ _ _ _ rfl)).mono ?_
  rintro e w3 ⟨ar, cr, rfl, -, hr, hb, -⟩
  replace HB := zH (bThen (bAlloc HB.out _) hb)
  have HR := zH hr
  clear hb hr H1
  go_wp2_with fail
  refine (Plant_any _).mono ?_
  rintro e w4 ⟨a4, rfl, hr4, hb⟩
  replace HB := zH (bThen HB.out hb)
  replace HR := zH (HR.out.to hb)
  have H4 := zH hr4
  clear hb hr4
  go_wp2_with fail
  refine (Full_any _).mono ?_
  rintro e w5 ⟨rfl, hb⟩
  replace HB := zH (bThen HB.out hb)
  replace HR := zH (HR.out.to hb)
  replace H4 := zH (H4.out.to hb)
  clear hb
  go_wp2_with fail
  refine (Class_any _).mono ?_
  rintro e w6 ⟨a6, rfl, hr6, hb⟩
  replace HB := zH (bThen HB.out hb)
  replace HR := zH (HR.out.to hb)
  replace H4 := zH (H4.out.to hb)
  have H6 := zH hr6
  clear hb hr6
  go_wp2_with fail
  refine (HLOW.out _ _ _ H4.out H6.out).mono ?_
  rintro e w7 ⟨rfl, hb⟩
  replace HB := zH (bThen HB.out hb)
  replace HR := zH (HR.out.to hb)
  clear hb H4 H6
  go_wp2_with fail
  obtain ⟨W7, hW7⟩ : ∃ W7, w7.alloc (.cells #[.int .i64 165, .int .i64 1] 28) = W7 := ⟨_, rfl⟩
  rw [hW7]
  have hb : Below w7.heap.size w7 W7 := by subst hW7; exact bAlloc (bSelf _) _
  have K4 : Hid (Blk W7 w7.heap.size #[.int .i64 165, .int .i64 1]) := by subst hW7; exact zH (Blk.new _ _ _)
  replace HB := zH (bThen HB.out hb)
  replace HR := zH (HR.out.to hb)
  clear hb hW7
  refine (Plant_any _).mono ?_
  rintro e w8 ⟨a8, rfl, hr8, hb⟩
  replace HB := zH (bThen HB.out hb)
  replace HR := zH (HR.out.to hb)
  replace K4 := zH (K4.out.to hb)
  have H8 := zH hr8
  clear hb hr8
  go_wp2_with fail
  refine (Full_any _).mono ?_
  rintro e w9 ⟨rfl, hb⟩
  replace HB := zH (bThen HB.out hb)
  replace HR := zH (HR.out.to hb)
  replace K4 := zH (K4.out.to hb)
  replace H8 := zH (H8.out.to hb)
  clear hb
  go_wp2_with fail
  refine (Class_any _).mono ?_
  rintro e wa ⟨aa, rfl, hra, hb⟩
  replace HB := zH (bThen HB.out hb)
  replace HR := zH (HR.out.to hb)
  replace K4 := zH (K4.out.to hb)
  replace H8 := zH (H8.out.to hb)
  have HA := zH hra
  clear hb hra
  go_wp2_with fail
  refine (HWIT.out _ _ _ H8.out HA.out).mono ?_
  rintro e wb ⟨aw, cw, rfl, -, hrw, hb, -⟩
  replace HB := zH (bThen HB.out hb)
  replace HR := zH (HR.out.to hb)
  replace K4 := zH (K4.out.to hb)
  have HW := zH hrw
  clear hb hrw H8 HA
  go_wp2_with fail
  refine (Small_any _).mono ?_
  rintro e wc ⟨ac, rfl, hrc, hb⟩
  replace HB := zH (bThen HB.out hb)
  replace HR := zH (HR.out.to hb)
  replace K4 := zH (K4.out.to hb)
  replace HW := zH (HW.out.to hb)
  have HC := zH hrc
  clear hb hrc
  go_wp2_with fail
  refine (HSAF.out _ _ HC.out).mono ?_
  rintro e wd ⟨asf, csf, rfl, -, hrs, hb, -⟩
  replace HB := zH (bThen HB.out hb)
  replace HR := zH (HR.out.to hb)
  replace K4 := zH (K4.out.to hb)
  replace HW := zH (HW.out.to hb)
  have HS := zH hrs
  clear hb hrs HC
  go_wp2_with fail
  refine (Valve_any _).mono ?_
  rintro e we ⟨av, rfl, hrv, hb⟩
  replace HB := zH (bThen HB.out hb)
  replace HR := zH (HR.out.to hb)
  replace K4 := zH (K4.out.to hb)
  replace HW := zH (HW.out.to hb)
  replace HS := zH (HS.out.to hb)
  have HV := zH hrv
  clear hb hrv
  go_wp2_with fail
  refine (HFLW.out _ _ HV.out).mono ?_
  rintro e wf ⟨rfl, hb⟩
  replace HB := zH (bThen HB.out hb)
  replace HR := zH (HR.out.to hb)
  replace K4 := zH (K4.out.to hb)
  replace HW := zH (HW.out.to hb)
  replace HS := zH (HS.out.to hb)
  clear hb HV
  go_wp2_with fail
  obtain ⟨Wf, hWf⟩ : ∃ Wf, wf.alloc (.cells #[.int .i64 4, .int .i64 15] 25) = Wf := ⟨_, rfl⟩
  rw [hWf]
  have hb : Below wf.heap.size wf Wf := by subst hWf; exact bAlloc (bSelf _) _
  have K10 : Hid (Blk Wf wf.heap.size #[.int .i64 4, .int .i64 15]) := by subst hWf; exact zH (Blk.new _ _ _)
  replace HB := zH (bThen HB.out hb)
  replace HR := zH (HR.out.to hb)
  replace K4 := zH (K4.out.to hb)
  replace HW := zH (HW.out.to hb)
  replace HS := zH (HS.out.to hb)
  clear hb hWf
  refine (HCLR.out _).mono ?_
  rintro e wg ⟨rfl, hb⟩
  replace HB := zH (bThen HB.out hb)
  replace HR := zH (HR.out.to hb)
  replace K4 := zH (K4.out.to hb)
  replace K10 := zH (K10.out.to hb)
  replace HW := zH (HW.out.to hb)
  replace HS := zH (HS.out.to hb)
  clear hb HRUN HLOW HWIT HSAF HFLW HCLR
  go_wp2_with fail
  obtain ⟨Wg, hWg⟩ : ∃ Wg, wg.alloc (.cells #[.int .i64 1, .bool true, .int .i64 2, .bool true, .int .i64 3, .bool false, .int .i64 3, .bool true, .int .i64 4, .bool false, .int .i64 4, .bool true] 46) = Wg := ⟨_, rfl⟩
  rw [hWg]
  have hb : Below wg.heap.size wg Wg := by subst hWg; exact bAlloc (bSelf _) _
  have H14 : Hid (Reads Wg (some ⟨wg.heap.size, 0, none⟩) (6 * 2) (osts [(1, true), (2, true), (3, false), (3, true), (4, false), (4, true)])) := by subst hWg; exact zH (six_st _ _ _ _ rfl 6 rfl rfl)
  replace HB := zH (bThen HB.out hb)
  replace HR := zH (HR.out.to hb)
  replace K4 := zH (K4.out.to hb)
  replace K10 := zH (K10.out.to hb)
  replace HW := zH (HW.out.to hb)
  replace HS := zH (HS.out.to hb)
  clear hb hWg
  refine wp_region_tree (by kernel_rfl) (fun wh hwd => ?_)
  have T := zH hwd
  clear hwd
  refine WTq 0 ?_; apply Exists.intro; refine ⟨fun w1 hb1 => ?_, ?_⟩; (focus ((have hb1 := zH hb1; go_simp); (try (go_bits; try go_simp)); (try (rw [if_pos (by omega)]; try go_simp)); (first | done | (with_reducible rfl) | exact rfl)))
  simp only [Act.put, zzT, zzO, zzS]
  refine WTq 1 ?_; apply Exists.intro; refine ⟨fun w1 hb1 => ?_, ?_⟩; (focus ((have hb1 := zH hb1; go_simp); (try (go_bits; try go_simp)); (try (rw [if_pos (by omega)]; try go_simp)); (first | done | (with_reducible rfl) | exact rfl)))
  simp only [Act.put, zzT, zzO, zzS]
  refine WTq 2 ?_; apply Exists.intro; refine ⟨fun w1 hb1 => ?_, ?_⟩; (focus ((have hb1 := zH hb1; go_simp); (try (go_bits; try go_simp)); (try (rw [if_pos (by omega)]; try go_simp)); (first | done | (with_reducible rfl) | exact rfl)))
  simp only [Act.put, zzT, zzO, zzS]
  refine WTq 3 ?_; apply Exists.intro; refine ⟨fun w1 hb1 => ?_, ?_⟩; (focus ((have hb1 := zH hb1; go_simp); (try (go_bits; try go_simp)); (try (rw [if_pos (by omega)]; try go_simp)); (first | done | (with_reducible rfl) | exact rfl)))
  simp only [Act.put, zzT, zzO, zzS]
  refine WT_yes 4 rfl (by kernel_rfl) (fun _ _ _ _ _ h => h) (by rfl) ⟨.agg #[.int .i64 30, .bool false], fun w1 hb1 => (by go_simp), ?_⟩
  simp only [Act.put, zzT, zzO, zzS]
  refine WT_yes 5 rfl (by kernel_rfl) (fun _ _ _ _ _ h => h) (by rfl) ⟨.agg #[.int .i64 18, .bool false], fun w1 hb1 => (by go_simp), ?_⟩
  simp only [Act.put, zzT, zzO, zzS]
  refine WT_yes 6 rfl (by kernel_rfl) (fun _ _ _ _ _ h => h) (by rfl) ⟨.agg #[.int .i64 6, .bool true], fun w1 hb1 => (by go_simp), ?_⟩
  simp only [Act.put, zzT, zzO, zzS]
  refine WT_yes 7 rfl (by kernel_rfl) (fun _ _ _ _ _ h => h) (by rfl) ⟨.agg #[.int .i64 7, .bool true], fun w1 hb1 => (by go_simp), ?_⟩
  simp only [Act.put, zzT, zzO, zzS]
  refine WT_one 8 rfl (by kernel_rfl) ?_
  unfold stepT
  go_wp2_with fail
  obtain ⟨u1, hwA⟩ : ∃ wA, wh.alloc (.cells #[.int .i64 30, .bool false, .int .i64 18, .bool false, .int .i64 6, .bool true, .int .i64 7, .bool true] 46) = wA := ⟨_, rfl⟩
  rw [hwA]
  have hb : Below wh.heap.size wh u1 := by subst hwA; exact bAlloc (bSelf _) _
  have HX : Hid (Reads u1 (some ⟨wh.heap.size, 0, none⟩) (4 * 2) (osts [(30, false), (18, false), (6, true), (7, true)])) := by subst hwA; exact zH (six_st _ _ _ _ rfl 4 rfl rfl)
  clear hwA
  have hbd := zH (hb.mono T.out.size)
  replace T := zH (bThen T.out hb)
  refine ⟨hbd.out, ?_⟩
  clear hbd hb
  refine WT_one 9 rfl (by kernel_rfl) ?_
  unfold stepT
  go_wp2_with fail
  refine (SameStates_any [(30, false), (18, false), (6, true), (7, true)] [(30, false), (18, false), (6, true), (7, true)] _ _ _ _ _ (by decide) (HR.out.to T.out) HX.out).mono ?_
  rintro e u2 ⟨rfl, hb⟩
  rw [decide_eq_true (Eq.refl _)]
  go_wp2_with fail
  have hbd := zH (hb.mono T.out.size)
  replace T := zH (bThen T.out hb)
  refine ⟨hbd.out, ?_⟩
  clear hbd hb
  refine WTq 10 ?_; apply Exists.intro; refine ⟨fun w1 hb1 => ?_, ?_⟩; (focus ((have hb1 := zH hb1; go_simp); (try (go_bits; try go_simp)); (try (rw [if_pos (by omega)]; try go_simp)); (first | done | (with_reducible rfl) | exact rfl)))
  simp only [Act.put, zzT, zzO, zzS]
  refine WTq 11 ?_; apply Exists.intro; refine ⟨fun w1 hb1 => ?_, ?_⟩; (focus ((have hb1 := zH hb1; go_simp); (try (go_bits; try go_simp)); (try (rw [if_pos (by omega)]; try go_simp)); (first | done | (with_reducible rfl) | exact rfl)))
  simp only [Act.put, zzT, zzO, zzS]
  refine WTq 12 ?_; apply Exists.intro; refine ⟨fun w1 hb1 => ?_, ?_⟩; (focus ((have hb1 := zH hb1; go_simp); (try (go_bits; try go_simp)); (try (rw [if_pos (by omega)]; try go_simp)); (first | done | (with_reducible rfl) | exact rfl)))
  simp only [Act.put, zzT, zzO, zzS]
  refine WTq 13 ?_; apply Exists.intro; refine ⟨fun w1 hb1 => ?_, ?_⟩; (focus ((have hb1 := zH hb1; go_simp); (try (go_bits; try go_simp)); (try (rw [if_pos (by omega)]; try go_simp)); (first | done | (with_reducible rfl) | exact rfl)))
  simp only [Act.put, zzT, zzO, zzS]
  refine WTq 14 ?_; apply Exists.intro; refine ⟨fun w1 hb1 => ?_, ?_⟩; (focus ((have hb1 := zH hb1; go_simp); (try (go_bits; try go_simp)); (try (rw [if_pos (by omega)]; try go_simp)); (first | done | (with_reducible rfl) | exact rfl)))
  simp only [Act.put, zzT, zzO, zzS]
  refine WTq 15 ?_; apply Exists.intro; refine ⟨fun w1 hb1 => ?_, ?_⟩; (focus ((have hb1 := zH hb1; go_simp); (try (go_bits; try go_simp)); (try (rw [if_pos (by omega)]; try go_simp)); (first | done | (with_reducible rfl) | exact rfl)))
  simp only [Act.put, zzT, zzO, zzS]
  refine WTq 16 ?_; apply Exists.intro; refine ⟨fun w1 hb1 => ?_, ?_⟩; (focus ((have hb1 := zH hb1; go_simp); (try (go_bits; try go_simp)); (try (rw [if_pos (by omega)]; try go_simp)); (first | done | (with_reducible rfl) | exact rfl)))
  simp only [Act.put, zzT, zzO, zzS]
  refine WTq 17 ?_; apply Exists.intro; refine ⟨fun w1 hb1 => ?_, ?_⟩; (focus ((have hb1 := zH hb1; go_simp); (try (go_bits; try go_simp)); (try (rw [if_pos (by omega)]; try go_simp)); (first | done | (with_reducible rfl) | exact rfl)))
  simp only [Act.put, zzT, zzO, zzS]
  refine WTq 18 ?_; apply Exists.intro; refine ⟨fun w1 hb1 => ?_, ?_⟩; (focus ((have hb1 := zH hb1; go_simp); (try (go_bits; try go_simp)); (try (rw [if_pos (by omega)]; try go_simp)); (first | done | (with_reducible rfl) | exact rfl)))
  simp only [Act.put, zzT, zzO, zzS]
  refine WTq 19 ?_; apply Exists.intro; refine ⟨fun w1 hb1 => ?_, ?_⟩; (focus ((have hb1 := zH hb1; go_simp); (try (go_bits; try go_simp)); (try (rw [if_pos (by omega)]; try go_simp)); (first | done | (with_reducible rfl) | exact rfl)))
  simp only [Act.put, zzT, zzO, zzS]
  refine WTq 20 ?_; apply Exists.intro; refine ⟨fun w1 hb1 => ?_, ?_⟩; (focus (((obtain ⟨-, k4, -⟩ := K4.out.to (T.out.trans hb1)); have hb1 := zH hb1; go_simp); (try (go_bits; try go_simp)); (try (rw [if_pos (by omega)]; try go_simp)); (first | done | (with_reducible rfl) | exact rfl)))
  simp only [Act.put, zzT, zzO, zzS]
  refine WT_one 21 rfl (by kernel_rfl) ?_
  unfold stepT
  go_wp2_with fail
  refine (oWhole_any 165 _).mono ?_
  rintro e u3 ⟨rfl, hb⟩
  go_wp2_with fail
  have hbd := zH (hb.mono T.out.size)
  replace T := zH (bThen T.out hb)
  refine ⟨hbd.out, ?_⟩
  clear hbd hb
  refine WTq 22 ?_; apply Exists.intro; refine ⟨fun w1 hb1 => ?_, ?_⟩; (focus ((have hb1 := zH hb1; go_simp); (try (go_bits; try go_simp)); (try (rw [if_pos (by omega)]; try go_simp)); (first | done | (with_reducible rfl) | exact rfl)))
  simp only [Act.put, zzT, zzO, zzS]
  refine WTq 23 ?_; apply Exists.intro; refine ⟨fun w1 hb1 => ?_, ?_⟩; (focus ((have hb1 := zH hb1; go_simp); (try (go_bits; try go_simp)); (try (rw [if_pos (by omega)]; try go_simp)); (first | done | (with_reducible rfl) | exact rfl)))
  simp only [Act.put, zzT, zzO, zzS]
  refine WTq 24 ?_; apply Exists.intro; refine ⟨fun w1 hb1 => ?_, ?_⟩; (focus ((have hb1 := zH hb1; go_simp); (try (go_bits; try go_simp)); (try (rw [if_pos (by omega)]; try go_simp)); (first | done | (with_reducible rfl) | exact rfl)))
  simp only [Act.put, zzT, zzO, zzS]
  refine WTq 25 ?_; apply Exists.intro; refine ⟨fun w1 hb1 => ?_, ?_⟩; (focus ((have hb1 := zH hb1; go_simp); (try (go_bits; try go_simp)); (try (rw [if_pos (by omega)]; try go_simp)); (first | done | (with_reducible rfl) | exact rfl)))
  simp only [Act.put, zzT, zzO, zzS]
  refine WTq 26 ?_; apply Exists.intro; refine ⟨fun w1 hb1 => ?_, ?_⟩; (focus ((have hb1 := zH hb1; go_simp); (try (go_bits; try go_simp)); (try (rw [if_pos (by omega)]; try go_simp)); (first | done | (with_reducible rfl) | exact rfl)))
  simp only [Act.put, zzT, zzO, zzS]
  refine WTq 27 ?_; apply Exists.intro; refine ⟨fun w1 hb1 => ?_, ?_⟩; (focus ((have hb1 := zH hb1; go_simp); (try (go_bits; try go_simp)); (try (rw [if_pos (by omega)]; try go_simp)); (first | done | (with_reducible rfl) | exact rfl)))
  simp only [Act.put, zzT, zzO, zzS]
  refine WTq 28 ?_; apply Exists.intro; refine ⟨fun w1 hb1 => ?_, ?_⟩; (focus ((have hb1 := zH hb1; go_simp); (try (go_bits; try go_simp)); (try (rw [if_pos (by omega)]; try go_simp)); (first | done | (with_reducible rfl) | exact rfl)))
  simp only [Act.put, zzT, zzO, zzS]
  refine WTq 29 ?_; apply Exists.intro; refine ⟨fun w1 hb1 => ?_, ?_⟩; (focus ((have hb1 := zH hb1; go_simp); (try (go_bits; try go_simp)); (try (rw [if_pos (by omega)]; try go_simp)); (first | done | (with_reducible rfl) | exact rfl)))
  simp only [Act.put, zzT, zzO, zzS]
  refine WT_one 30 rfl (by kernel_rfl) ?_
  unfold stepT
  go_wp2_with fail
  obtain ⟨u4, hwA⟩ : ∃ wA, u3.alloc (.cells #[.int .i64 12, .int .i64 2] 3) = wA := ⟨_, rfl⟩
  rw [hwA]
  have hb : Below u3.heap.size u3 u4 := by subst hwA; exact bAlloc (bSelf _) _
  have HY : Hid (Reads u4 (some ⟨u3.heap.size, 0, none⟩) 2 (ints [12, 2])) := by subst hwA; exact zH (two_fresh _ _ _ _ rfl)
  clear hwA
  have hbd := zH (hb.mono T.out.size)
  replace T := zH (bThen T.out hb)
  refine ⟨hbd.out, ?_⟩
  clear hbd hb
  refine WT_one 31 rfl (by kernel_rfl) ?_
  unfold stepT
  go_wp2_with fail
  refine (Ints_any [12, 2] [12, 2] _ _ _ _ _ (by decide) (HW.out.to T.out) HY.out).mono ?_
  rintro e u5 ⟨rfl, hb⟩
  rw [decide_eq_true (Eq.refl _)]
  go_wp2_with fail
  have hbd := zH (hb.mono T.out.size)
  replace T := zH (bThen T.out hb)
  refine ⟨hbd.out, ?_⟩
  clear hbd hb
  refine WTq 32 ?_; apply Exists.intro; refine ⟨fun w1 hb1 => ?_, ?_⟩; (focus ((have hb1 := zH hb1; go_simp); (try (go_bits; try go_simp)); (try (rw [if_pos (by omega)]; try go_simp)); (first | done | (with_reducible rfl) | exact rfl)))
  simp only [Act.put, zzT, zzO, zzS]
  refine WTq 33 ?_; apply Exists.intro; refine ⟨fun w1 hb1 => ?_, ?_⟩; (focus ((have hb1 := zH hb1; go_simp); (try (go_bits; try go_simp)); (try (rw [if_pos (by omega)]; try go_simp)); (first | done | (with_reducible rfl) | exact rfl)))
  simp only [Act.put, zzT, zzO, zzS]
  refine WTq 34 ?_; apply Exists.intro; refine ⟨fun w1 hb1 => ?_, ?_⟩; (focus ((have hb1 := zH hb1; go_simp); (try (go_bits; try go_simp)); (try (rw [if_pos (by omega)]; try go_simp)); (first | done | (with_reducible rfl) | exact rfl)))
  simp only [Act.put, zzT, zzO, zzS]
  refine WTq 35 ?_; apply Exists.intro; refine ⟨fun w1 hb1 => ?_, ?_⟩; (focus ((have hb1 := zH hb1; go_simp); (try (go_bits; try go_simp)); (try (rw [if_pos (by omega)]; try go_simp)); (first | done | (with_reducible rfl) | exact rfl)))
  simp only [Act.put, zzT, zzO, zzS]
  refine WTq 36 ?_; apply Exists.intro; refine ⟨fun w1 hb1 => ?_, ?_⟩; (focus ((have hb1 := zH hb1; go_simp); (try (go_bits; try go_simp)); (try (rw [if_pos (by omega)]; try go_simp)); (first | done | (with_reducible rfl) | exact rfl)))
  simp only [Act.put, zzT, zzO, zzS]
  refine WTq 37 ?_; apply Exists.intro; refine ⟨fun w1 hb1 => ?_, ?_⟩; (focus ((have hb1 := zH hb1; go_simp); (try (go_bits; try go_simp)); (try (rw [if_pos (by omega)]; try go_simp)); (first | done | (with_reducible rfl) | exact rfl)))
  simp only [Act.put, zzT, zzO, zzS]
  refine WTq 38 ?_; apply Exists.intro; refine ⟨fun w1 hb1 => ?_, ?_⟩; (focus ((have hb1 := zH hb1; go_simp); (try (go_bits; try go_simp)); (try (rw [if_pos (by omega)]; try go_simp)); (first | done | (with_reducible rfl) | exact rfl)))
  simp only [Act.put, zzT, zzO, zzS]
  refine WTq 39 ?_; apply Exists.intro; refine ⟨fun w1 hb1 => ?_, ?_⟩; (focus ((have hb1 := zH hb1; go_simp); (try (go_bits; try go_simp)); (try (rw [if_pos (by omega)]; try go_simp)); (first | done | (with_reducible rfl) | exact rfl)))
  simp only [Act.put, zzT, zzO, zzS]
  refine WT_one 40 rfl (by kernel_rfl) ?_
  unfold stepT
  go_wp2_with fail
  refine (SameStates_any [(1, true), (2, true), (3, false), (3, true), (4, false), (4, true)] [(1, true), (2, true), (3, false), (3, true), (4, false), (4, true)] _ _ _ _ _ (by decide) (HS.out.to T.out) (H14.out.to T.out)).mono ?_
  rintro e u6 ⟨rfl, hb⟩
  rw [decide_eq_true (Eq.refl _)]
  go_wp2_with fail
  have hbd := zH (hb.mono T.out.size)
  replace T := zH (bThen T.out hb)
  refine ⟨hbd.out, ?_⟩
  clear hbd hb
  refine WTq 41 ?_; apply Exists.intro; refine ⟨fun w1 hb1 => ?_, ?_⟩; (focus ((have hb1 := zH hb1; go_simp); (try (go_bits; try go_simp)); (try (rw [if_pos (by omega)]; try go_simp)); (first | done | (with_reducible rfl) | exact rfl)))
  simp only [Act.put, zzT, zzO, zzS]
  refine WTq 42 ?_; apply Exists.intro; refine ⟨fun w1 hb1 => ?_, ?_⟩; (focus ((have hb1 := zH hb1; go_simp); (try (go_bits; try go_simp)); (try (rw [if_pos (by omega)]; try go_simp)); (first | done | (with_reducible rfl) | exact rfl)))
  simp only [Act.put, zzT, zzO, zzS]
  refine WTq 43 ?_; apply Exists.intro; refine ⟨fun w1 hb1 => ?_, ?_⟩; (focus ((have hb1 := zH hb1; go_simp); (try (go_bits; try go_simp)); (try (rw [if_pos (by omega)]; try go_simp)); (first | done | (with_reducible rfl) | exact rfl)))
  simp only [Act.put, zzT, zzO, zzS]
  refine WTq 44 ?_; apply Exists.intro; refine ⟨fun w1 hb1 => ?_, ?_⟩; (focus ((have hb1 := zH hb1; go_simp); (try (go_bits; try go_simp)); (try (rw [if_pos (by omega)]; try go_simp)); (first | done | (with_reducible rfl) | exact rfl)))
  simp only [Act.put, zzT, zzO, zzS]
  refine WTq 45 ?_; apply Exists.intro; refine ⟨fun w1 hb1 => ?_, ?_⟩; (focus ((have hb1 := zH hb1; go_simp); (try (go_bits; try go_simp)); (try (rw [if_pos (by omega)]; try go_simp)); (first | done | (with_reducible rfl) | exact rfl)))
  simp only [Act.put, zzT, zzO, zzS]
  refine WTq 46 ?_; apply Exists.intro; refine ⟨fun w1 hb1 => ?_, ?_⟩; (focus ((have hb1 := zH hb1; go_simp); (try (go_bits; try go_simp)); (try (rw [if_pos (by omega)]; try go_simp)); (first | done | (with_reducible rfl) | exact rfl)))
  simp only [Act.put, zzT, zzO, zzS]
  refine WTq 47 ?_; apply Exists.intro; refine ⟨fun w1 hb1 => ?_, ?_⟩; (focus (((obtain ⟨-, k10, -⟩ := K10.out.to (T.out.trans hb1)); have hb1 := zH hb1; go_simp); (try (go_bits; try go_simp)); (try (rw [if_pos (by omega)]; try go_simp)); (first | done | (with_reducible rfl) | exact rfl)))
  simp only [Act.put, zzT, zzO, zzS]
  refine WT_yes 48 rfl (by kernel_rfl) (fun _ _ _ _ _ h => h) (by rfl) ⟨.agg #[.int .i64 4, .int .i64 15], fun w1 hb1 => (by go_simp), ?_⟩
  simp only [Act.put, zzT, zzO, zzS]
  refine WTq 49 ?_; apply Exists.intro; refine ⟨fun w1 hb1 => ?_, ?_⟩; (focus ((have hb1 := zH hb1; go_simp); (try (go_bits; try go_simp)); (try (rw [if_pos (by omega)]; try go_simp)); (first | done | (with_reducible rfl) | exact rfl)))
  simp only [Act.put, zzT, zzO, zzS]
  refine WTq 50 ?_; apply Exists.intro; refine ⟨fun w1 hb1 => ?_, ?_⟩; (focus ((have hb1 := zH hb1; go_simp); (try (go_bits; try go_simp)); (try (rw [if_pos (by omega)]; try go_simp)); (first | done | (with_reducible rfl) | exact rfl)))
  simp only [Act.put, zzT, zzO, zzS]
  refine WTq 51 ?_; apply Exists.intro; refine ⟨fun w1 hb1 => ?_, ?_⟩; (focus ((have hb1 := zH hb1; go_simp); (try (go_bits; try go_simp)); (try (rw [if_pos (by omega)]; try go_simp)); (first | done | (with_reducible rfl) | exact rfl)))
  simp only [Act.put, zzT, zzO, zzS]
  refine WTq 52 ?_; apply Exists.intro; refine ⟨fun w1 hb1 => ?_, ?_⟩; (focus ((have hb1 := zH hb1; go_simp); (try (go_bits; try go_simp)); (try (rw [if_pos (by omega)]; try go_simp)); (first | done | (with_reducible rfl) | exact rfl)))
  simp only [Act.put, zzT, zzO, zzS]
  refine WTq 53 ?_; apply Exists.intro; refine ⟨fun w1 hb1 => ?_, ?_⟩; (focus ((have hb1 := zH hb1; go_simp); (try (go_bits; try go_simp)); (try (rw [if_pos (by omega)]; try go_simp)); (first | done | (with_reducible rfl) | exact rfl)))
  simp only [Act.put, zzT, zzO, zzS]
  refine WTq 54 ?_; apply Exists.intro; refine ⟨fun w1 hb1 => ?_, ?_⟩; (focus ((have hb1 := zH hb1; go_simp); (try (go_bits; try go_simp)); (try (rw [if_pos (by omega)]; try go_simp)); (first | done | (with_reducible rfl) | exact rfl)))
  simp only [Act.put, zzT, zzO, zzS]
  refine WTq 55 ?_; apply Exists.intro; refine ⟨fun w1 hb1 => ?_, ?_⟩; (focus ((have hb1 := zH hb1; go_simp); (try (go_bits; try go_simp)); (try (rw [if_pos (by omega)]; try go_simp)); (first | done | (with_reducible rfl) | exact rfl)))
  simp only [Act.put, zzT, zzO, zzS]
  refine WTq 56 ?_; apply Exists.intro; refine ⟨fun w1 hb1 => ?_, ?_⟩; (focus ((have hb1 := zH hb1; go_simp); (try (go_bits; try go_simp)); (try (rw [if_pos (by omega)]; try go_simp)); (first | done | (with_reducible rfl) | exact rfl)))
  simp only [Act.put, zzT, zzO, zzS]
  refine WTq 57 ?_; apply Exists.intro; refine ⟨fun w1 hb1 => ?_, ?_⟩; (focus ((have hb1 := zH hb1; go_simp); (try (go_bits; try go_simp)); (try (rw [if_pos (by omega)]; try go_simp)); (first | done | (with_reducible rfl) | exact rfl)))
  simp only [Act.put, zzT, zzO, zzS]
  refine WTq 58 ?_; apply Exists.intro; refine ⟨fun w1 hb1 => ?_, ?_⟩; (focus ((have hb1 := zH hb1; go_simp); (try (go_bits; try go_simp)); (try (rw [if_pos (by omega)]; try go_simp)); (first | done | (with_reducible rfl) | exact rfl)))
  simp only [Act.put, zzT, zzO, zzS]
  refine WT_one 59 rfl (by kernel_rfl) ?_
  unfold stepT
  go_wp2_with fail
  refine ⟨Below.refl _ _, ?_⟩
  refine WT_done (by kernel_rfl) ?_
  go_wp2_with fail
  go_ret
  exact ⟨rfl, bThen HB.out T.out⟩
end
end Go.Proofs.YtjfedpblkejmkaaGreat
