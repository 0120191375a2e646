/-
  Texts of this claim, in their build order: OR8.
-/
import Derived.Test.YtjfedpblkejmkaaGreatBot42
import Derived.Test.YtjfedpblkejmkaaGreatBot0

namespace Go.Proofs.YtjfedpblkejmkaaGreat
section
set_option maxRecDepth 100000
set_option maxHeartbeats 12800000
open Go.RowKit
attribute [local go_sem] Oper.semAt_some

theorem dg_frL {q : Int × Int} (h : QOk q) : (dg (fr q.1 q.2).1).length ≤ 50 ∧ (dg (fr q.1 q.2).2).length ≤ 50 := ⟨Nat.le_trans (dg_fr1 (dg_few (by have := h.n0; omega) (by have := h.n1; omega))) (by decide), Nat.le_trans (dg_fr2 (dg_few (by have := h.d0; omega) (by have := h.d1; omega))) (by decide)⟩
/-- A fraction in a box. -/
def RBlk (W : World) (b : Nat) (q : Int × Int) : Prop :=
  ∃ a1 a2 s1 n1 c1 s2 n2 c2, Blk W b #[.int .i64 s1, .slice a1 n1 c1, .int .i64 s2, .slice a2 n2 c2] ∧ RR W a1 a2 (.agg #[.int .i64 s1, .slice a1 n1 c1, .int .i64 s2, .slice a2 n2 c2]) q
theorem RBlk.to {W W' : World} {b : Nat} {q : Int × Int} (h : RBlk W b q) (hb : Below W.heap.size W W') : RBlk W' b q := by
  obtain ⟨a1, a2, s1, n1, c1, s2, n2, c2, h1, h2⟩ := h
  exact ⟨a1, a2, s1, n1, c1, s2, n2, c2, h1.to hb, h2.to hb⟩

theorem rBelow_any (p : Plt) (s : OSt) (lim : Int) (a : Option Addr) (cap : Nat) (w : World) (hp : PtsOk p.pts) (hs : 0 ≤ s.1 ∧ s.1 ≤ capV p.pts) (hl : -100000 ≤ lim ∧ lim ≤ 100000) (hr : Reads w a (p.pts.length * 2) (fracs p.pts)) :
    Calls Tryz.prog 43 #[.agg (plC p a cap), .agg #[.int .i64 s.1, .bool s.2], .int .i64 lim] w fun e w' => e = .returned (.bool (lessQ (prQ p.pts s.1) (lim, 1))) ∧ Below w.heap.size w w' := by
  have hq := QOk.of_pts hp hs.1 hs.2
  have hcl := OnOk.of_pts hp hs.1 hs.2
  have HE : Hid (decide ((((rPr p.pts s.1).1 * 1 - lim * (rPr p.pts s.1).2).sign) < 0) = lessQ (prQ p.pts s.1) (lim, 1)) := zH (by
    rw [rPr_eq hp hs.1 hs.2]
    exact cmp_lt (N := (prQ p.pts s.1).1) lim (show 0 < (prQ p.pts s.1).2 by have := hq.d0; omega))
  have HPR := zH (fun W (hb : Below w.heap.size w W) => rPressure_any p s.1 a cap W hp (by have := hcl.x0; omega) (hr.to hb))
  have HRI := zH (fun W => RatioInt_any lim W (by omega) (by omega))
  have hd := dg_frL hq
  rw [← rPr_eq hp hs.1 hs.2] at hd
  have HCM := zH (fun W a1 a2 b1 b2 v1 v2 h1 h2 => RatioCmp_any (rPr p.pts s.1) (lim, 1) a1 a2 b1 b2 v1 v2 W h1 h2 hd.1 hd.2 (Nat.le_trans (dg_few (by dsimp only; omega) (by dsimp only; omega)) (by decide)) (Nat.le_trans (dg_few (by dsimp only; omega) (by dsimp only; omega)) (by decide)))
  dsimp only at HCM
  obtain ⟨c, hc⟩ : ∃ c, ((rPr p.pts s.1).1 * 1 - lim * (rPr p.pts s.1).2).sign = c := ⟨_, rfl⟩
  obtain ⟨q, hq'⟩ : ∃ q, rPr p.pts s.1 = q := ⟨_, rfl⟩
  obtain ⟨bl, hbl⟩ : ∃ b, lessQ (prQ p.pts s.1) (lim, 1) = b := ⟨_, rfl⟩
  rw [hc] at HE HCM
  rw [hbl] at HE ⊢
  rw [hq'] at HPR HCM
  clear hc hq' hbl hq hcl hp hs hl hr hd
  obtain ⟨s1, s2⟩ := s
  dsimp only at HPR ⊢
  go_enter Tryz.func43, Tryz.ntmps43
  go_wp2_with fail
  refine (HPR.out _ (bAlloc (bAlloc (bSelf w) _) _)).mono ?_
  rintro e w1 ⟨a1, a2, v, rfl, hrr, hb, -⟩
  have HB := zH (bThen (bAlloc (bAlloc (bSelf w) _) _) hb)
  have HRR := zH hrr
  obtain ⟨t1, n1, c1, t2, n2, c2, rfl, -, -⟩ := hrr.ex
  clear hb hrr
  go_wp2_with fail
  refine (HRI.out _).mono ?_
  rintro e w2 ⟨b1, b2, v, rfl, hrr, hb, -⟩
  replace HB := zH (bThen HB.out hb)
  replace HRR := zH (HRR.out.to hb)
  have HR2 := zH hrr
  obtain ⟨u1, m1, d1, u2, m2, d2, rfl, -, -⟩ := hrr.ex
  clear hb hrr
  go_wp2_with fail
  refine (HCM.out _ _ _ _ _ _ _ HRR.out HR2.out).mono ?_
  rintro e w3 ⟨rfl, hb⟩
  replace HB := zH (bThen HB.out hb)
  clear hb
  go_wp2_with fail
  go_ret
  exact ⟨ret_bool (by rw [← HE.out]), HB.out⟩

/-- The reference's next state. -/
theorem nxtA_val {p : Plt} {s : OSt} {d : Int} (h : PltOk p) : nxtA p s d = if vlmR p s d < 0 then none else some (min (vlmR p s d) (capV p.pts), pmpR p s.2 (min (vlmR p s d) (capV p.pts))) := by rw [← nxt_eq h]; rfl

theorem rnNext_any (p : Plt) (s : OSt) (d : Int) (a : Option Addr) (cap : Nat) (w : World) (hp : PltOk p) (hs : StOk p s) (hd : 0 ≤ d ∧ d ≤ 50) (hr : Reads w a (p.pts.length * 2) (fracs p.pts)) :
    Calls Tryz.prog 32 #[.agg (plC p a cap), .agg #[.int .i64 s.1, .bool s.2], .int .i64 d] w fun e w' => e = .returned (.tuple #[.agg #[.int .i64 ((nxtA p s d).getD (0, false)).1, .bool ((nxtA p s d).getD (0, false)).2], .bool (nxtA p s d).isSome]) ∧ Below w.heap.size w w' := by
  have hc0 := cap_pos hp
  have hc1 := cap_le hp
  have HV := zH (nxtA_val (s := s) (d := d) hp)
  have HVL : Hid (vlmR p s d = if s.2 then s.1 - d + p.pump else s.1 - d) := zH rfl
  have HCP := zH (fun W (hb : Below w.heap.size w W) => rCapacity_any p a cap W (by have := hp.pts.two; omega) (by have := hp.pts.few; omega) (hr.to hb))
  have hpm := hp.pump
  have hon := hp.on
  have hof := hp.off
  obtain ⟨s1, s2⟩ := s
  unfold StOk at hs
  dsimp only at HV HVL hs ⊢
  obtain ⟨vl, hvl⟩ : ∃ v, vlmR p (s1, s2) d = v := ⟨_, rfl⟩
  rw [hvl] at HV HVL
  obtain ⟨C, hC⟩ : ∃ c, capV p.pts = c := ⟨_, rfl⟩
  obtain ⟨rs, hrs⟩ : ∃ r, nxtA p (s1, s2) d = r := ⟨_, rfl⟩
  rw [hrs] at HV ⊢
  have hvb : -50 ≤ vl ∧ vl ≤ 250 := by
    have := HVL.out
    cases s2 <;> simp at this <;> omega
  have HVB := zH hvb
  clear hvl hrs
  have HCV := zH hC
  have HPR := zH (fun W (hb : Below w.heap.size w W) (hv : 0 ≤ vl) => rPressure_any p (min vl C) a cap W hp.pts (by omega) (hr.to hb))
  have HQ := zH (fun (hv : 0 ≤ vl) => (show (dg (rPr p.pts (min vl C)).1).length ≤ 50 ∧ (dg (rPr p.pts (min vl C)).2).length ≤ 50 from by
    rw [rPr_eq hp.pts (show 0 ≤ min vl C by omega) (by omega)]
    exact dg_frL (QOk.of_pts hp.pts (by omega) (by omega))))
  have HI1 := zH (fun W => RatioInt_any p.on W (by omega) (by omega))
  have HI2 := zH (fun W => RatioInt_any p.off W (by omega) (by omega))
  have HPM : Hid (∀ r v, pmpR p r v = if 0 ≤ ((rPr p.pts v).1 * 1 - p.off * (rPr p.pts v).2).sign then false else if ((rPr p.pts v).1 * 1 - p.on * (rPr p.pts v).2).sign ≤ 0 then true else r) := zH (fun r v => rfl)
  have HDO := zH (show (dg p.on).length ≤ 50 ∧ (dg p.off).length ≤ 50 ∧ (dg 1).length ≤ 50 from ⟨Nat.le_trans (dg_few (by omega) (by omega)) (by decide), Nat.le_trans (dg_few (by omega) (by omega)) (by decide), Nat.le_trans (dg_few (by omega) (by omega)) (by decide)⟩)
  rw [hC] at HCP HV
  have HP := zH hp
  clear hC hp hr
  obtain ⟨pts, pump, on, off⟩ := p
  unfold plC at HCP HPR ⊢
  dsimp only at HCP HPR HQ HI1 HI2 HPM HDO HV HVL hon hof hpm hc0 hc1 hs ⊢
  obtain ⟨pm0, pm1⟩ := hpm
  obtain ⟨sv0, sv1⟩ := hs
  obtain ⟨d0, d1⟩ := hd
  obtain ⟨vb0, vb1⟩ := hvb
  have sv2 : s1 ≤ 200 := by omega
  have hvl : (if s2 then s1 - d + pump else s1 - d) = vl := HVL.out.symm
  clear hon hof sv1 hc1 hc0
  by_cases hneg : vl < 0
  · have HR0 : Hid (rs = none) := zH (by rw [HV.out, if_pos hneg])
    rw [HR0.out]
    clear HV HCP HPR HQ HI1 HI2 HPM HDO HP HCV HVB HVL HR0
    cases s2
    all_goals
      first | rw [if_pos rfl] at hvl | rw [if_neg (by decide)] at hvl
      go_enter Tryz.func32, Tryz.ntmps32
      go_wp2_with fail
      refine bodyPost_ret (v := .tuple #[.agg #[.int .i64 0, .bool false], .bool false]) ?_ rfl ⟨rfl, bAlloc (bAlloc (bAlloc (bSelf w) _) _) _⟩
      simp [results, Tryz.results32, go_sem]
  · have hpos : 0 ≤ vl := by omega
    obtain ⟨m, hm⟩ : ∃ m, min vl C = m := ⟨_, rfl⟩
    rw [if_neg hneg, hm] at HV
    replace HPR := zH (fun W hb => HPR.out W hb hpos)
    have HQ' := zH (HQ.out hpos)
    rw [hm] at HPR HQ'
    have HPV := zH (HPM.out s2 m)
    have HM := zH hm
    clear HQ hneg HPM HVB hm
    obtain ⟨q, hq⟩ : ∃ q, rPr pts m = q := ⟨_, rfl⟩
    rw [hq] at HPR HQ' HPV
    clear hq
    obtain ⟨pv, hpv⟩ : ∃ b, pmpR ⟨pts, pump, on, off⟩ s2 m = b := ⟨_, rfl⟩
    rw [hpv] at HV HPV
    rw [HV.out]
    have HC1 := zH (fun W a1 a2 b1 b2 v1 v2 h1 h2 => RatioCmp_any q (on, 1) a1 a2 b1 b2 v1 v2 W h1 h2 HQ'.out.1 HQ'.out.2 HDO.out.1 HDO.out.2.2)
    have HC2 := zH (fun W a1 a2 b1 b2 v1 v2 h1 h2 => RatioCmp_any q (off, 1) a1 a2 b1 b2 v1 v2 W h1 h2 HQ'.out.1 HQ'.out.2 HDO.out.2.1 HDO.out.2.2)
    dsimp only at HC1 HC2
    obtain ⟨c1, hc1⟩ : ∃ c, (q.1 * 1 - on * q.2).sign = c := ⟨_, rfl⟩
    obtain ⟨c2, hc2⟩ : ∃ c, (q.1 * 1 - off * q.2).sign = c := ⟨_, rfl⟩
    rw [hc1] at HC1 HPV
    rw [hc2] at HC2 HPV
    clear hpv HV HVL HDO HQ' HP HCV hc1 hc2
    dsimp only [Option.getD_some, Option.isSome_some]
    cases s2
    case false =>
      first | rw [if_pos rfl] at hvl | rw [if_neg (by decide)] at hvl
      go_enter Tryz.func32, Tryz.ntmps32
      go_wp2_with fail
      obtain ⟨W, hW⟩ : ∃ W, ((w.alloc (.cells #[.slice a pts.length cap, .int .i64 pump, .int .i64 on, .int .i64 off] 44)).alloc (.cells #[.int .i64 s1, .bool false] 46)).alloc (.cells #[.int .i64 0, .bool false] 46) = W := ⟨_, rfl⟩
      rw [hW]
      have K3 : Hid (Blk W w.heap.size #[.slice a pts.length cap, .int .i64 pump, .int .i64 on, .int .i64 off]) := by subst hW; exact zH (((Blk.new _ _ _).alloc _).alloc _)
      have K4 : Hid (Blk W (w.heap.size + 1) #[.int .i64 s1, .bool false]) := by subst hW; exact zH ((Blk.newAt _ _ _ (by simp)).alloc _)
      have K6 : Hid (Blk W (w.heap.size + 1 + 1) #[.int .i64 0, .bool false]) := by subst hW; exact zH (Blk.newAt _ _ _ (by simp))
      have HB : Hid (Below w.heap.size w W) := by subst hW; exact zH (bAlloc (bAlloc (bAlloc (bSelf w) _) _) _)
      clear hW
      go_cut [9] from 24 to 30 (fun s9 wc => ∃ BN, s9 = .pointer (some ⟨BN, 0, none⟩) ∧ Hid (W.heap.size ≤ BN) ∧ Hid (Blk wc BN #[.int .i64 m, .bool false]) ∧ Hid (Below W.heap.size W wc))
      case first =>
        refine wp_region_tree (by kernel_rfl) (fun wd hwd => ?_)
        have T := zH hwd
        clear hwd
        refine WTq 0 ?_; apply Exists.intro; refine ⟨fun w1 hb1 => ?_, ?_⟩; (focus ((have hb1 := zH hb1; go_simp); (try (go_bits; try go_simp)); (try (rw [if_pos (by omega)]; try go_simp)); (first | done | (with_reducible rfl) | exact rfl)))
        simp only [Act.put, zzT, zzO, zzS]
        refine WTq 1 ?_; apply Exists.intro; refine ⟨fun w1 hb1 => ?_, ?_⟩; (focus (((obtain ⟨-, k3, -⟩ := K3.out.to (T.out.trans hb1)); have hb1 := zH hb1; go_simp); (try (go_bits; try go_simp)); (try (rw [if_pos (by omega)]; try go_simp)); (first | done | (with_reducible rfl) | exact rfl)))
        simp only [Act.put, zzT, zzO, zzS]
        refine WTq 4 ?_; apply Exists.intro; refine ⟨fun w1 hb1 => ?_, ?_⟩; (focus ((have hb1 := zH hb1; go_simp); (try (go_bits; try go_simp)); (try (rw [if_pos (by omega)]; try go_simp)); (first | done | (with_reducible rfl) | exact rfl)))
        simp only [Act.put, zzT, zzO, zzS]
        refine WTq 5 ?_; apply Exists.intro; refine ⟨fun w1 hb1 => ?_, ?_⟩; (focus (((obtain ⟨-, k4, -⟩ := K4.out.to (T.out.trans hb1)); have hb1 := zH hb1; go_simp); (try (go_bits; try go_simp)); (try (rw [if_pos (by omega)]; try go_simp)); (first | done | (with_reducible rfl) | exact rfl)))
        simp only [Act.put, zzT, zzO, zzS]
        refine WT_two 2 7 rfl rfl (by kernel_rfl) ?_ ?_
        · unfold stepT
          go_wp2_with fail
          refine (HCP.out _ (bThen HB.out T.out)).mono ?_
          rintro e u1 ⟨rfl, hb⟩
          have hbd := zH (hb.mono T.out.size)
          replace T := zH (bThen T.out hb)
          clear hb
          go_wp2_with fail
          refine ⟨hbd.out, ?_⟩
          clear hbd
          refine WT_yes 3 rfl (by kernel_rfl) (fun _ _ _ _ _ h => h) (by rfl) ⟨.int .i64 m, fun w1 hb1 => (by have hm := HM.out; go_simp; try (split <;> omega)), ?_⟩
          simp only [Act.put, zzT, zzO, zzS]
          refine WT_yes 6 rfl (by kernel_rfl) (fun _ _ _ _ _ h => h) (by rfl) ⟨.agg #[.int .i64 m, .bool false], fun w1 hb1 => (by go_simp), ?_⟩
          simp only [Act.put, zzT, zzO, zzS]
          refine WT_one 7 rfl (by kernel_rfl) ?_
          unfold stepT
          go_wp2_with fail
          obtain ⟨u2, hwA⟩ : ∃ wA, u1.alloc (.cells #[.int .i64 0, .bool false] 46) = wA := ⟨_, rfl⟩
          rw [hwA]
          have hb : Below u1.heap.size u1 u2 := by subst hwA; exact bAlloc (bSelf _) _
          have KBN : Hid (Blk u2 u1.heap.size #[.int .i64 0, .bool false]) := by subst hwA; exact Blk.new _ _ _
          clear hwA
          have BNN : Hid (W.heap.size ≤ u1.heap.size) := zH T.out.size
          obtain ⟨BN, hBN⟩ : ∃ N, u1.heap.size = N := ⟨_, rfl⟩
          have hbd := zH (hb.mono T.out.size)
          replace T := zH (bThen T.out hb)
          clear hb
          rw [hBN] at KBN BNN  ⊢
          clear hBN
          refine ⟨hbd.out, ?_⟩
          clear hbd
          refine WT_one 8 rfl (by kernel_rfl) ?_
          unfold stepT
          obtain ⟨-, kx, fx⟩ := KBN.out
          go_wp2_with fail
          clear kx fx
          obtain ⟨u3, hu⟩ : ∃ u, (u2.setCell ⟨BN, 0, none⟩ (.int .i64 m)).setCell ⟨BN, 1, none⟩ (.bool false) = u := ⟨_, rfl⟩
          have hb : Below W.heap.size u2 u3 := by rw [← hu]; exact ((Below.refl _ _).setCell (p := ⟨BN, 0, none⟩) BNN.out _).setCell (p := ⟨BN, 1, none⟩) BNN.out _
          replace KBN := zH ((KBN.out.set 0 (.int .i64 m)).set 1 (.bool false))
          rw [hu] at KBN ⊢
          clear hu
          replace T := zH (T.out.trans hb)
          refine ⟨hb, ?_⟩
          clear hb
          refine WT_done (by kernel_rfl) ?_
          go_wp2_with fail
          go_meet
          case rel => exact ⟨BN, rfl, BNN, KBN, T⟩
        · unfold stepT
          go_wp2_with fail
          obtain ⟨u1, hwA⟩ : ∃ wA, wd.alloc (.cells #[.int .i64 0, .bool false] 46) = wA := ⟨_, rfl⟩
          rw [hwA]
          have hb : Below wd.heap.size wd u1 := by subst hwA; exact bAlloc (bSelf _) _
          have KBN : Hid (Blk u1 wd.heap.size #[.int .i64 0, .bool false]) := by subst hwA; exact Blk.new _ _ _
          clear hwA
          have BNN : Hid (W.heap.size ≤ wd.heap.size) := zH T.out.size
          obtain ⟨BN, hBN⟩ : ∃ N, wd.heap.size = N := ⟨_, rfl⟩
          have hbd := zH (hb.mono T.out.size)
          replace T := zH (bThen T.out hb)
          clear hb
          rw [hBN] at KBN BNN  ⊢
          clear hBN
          refine ⟨hbd.out, ?_⟩
          clear hbd
          refine WT_one 2 rfl (by kernel_rfl) ?_
          unfold stepT
          go_wp2_with fail
          refine (HCP.out _ (bThen HB.out T.out)).mono ?_
          rintro e u2 ⟨rfl, hb⟩
          replace KBN := zH (KBN.out.to hb)
          have hbd := zH (hb.mono T.out.size)
          replace T := zH (bThen T.out hb)
          clear hb
          go_wp2_with fail
          refine ⟨hbd.out, ?_⟩
          clear hbd
          refine WT_yes 3 rfl (by kernel_rfl) (fun _ _ _ _ _ h => h) (by rfl) ⟨.int .i64 m, fun w1 hb1 => (by have hm := HM.out; go_simp; try (split <;> omega)), ?_⟩
          simp only [Act.put, zzT, zzO, zzS]
          refine WT_yes 6 rfl (by kernel_rfl) (fun _ _ _ _ _ h => h) (by rfl) ⟨.agg #[.int .i64 m, .bool false], fun w1 hb1 => (by go_simp), ?_⟩
          simp only [Act.put, zzT, zzO, zzS]
          refine WT_one 8 rfl (by kernel_rfl) ?_
          unfold stepT
          obtain ⟨-, kx, fx⟩ := KBN.out
          go_wp2_with fail
          clear kx fx
          obtain ⟨u3, hu⟩ : ∃ u, (u2.setCell ⟨BN, 0, none⟩ (.int .i64 m)).setCell ⟨BN, 1, none⟩ (.bool false) = u := ⟨_, rfl⟩
          have hb : Below W.heap.size u2 u3 := by rw [← hu]; exact ((Below.refl _ _).setCell (p := ⟨BN, 0, none⟩) BNN.out _).setCell (p := ⟨BN, 1, none⟩) BNN.out _
          replace KBN := zH ((KBN.out.set 0 (.int .i64 m)).set 1 (.bool false))
          rw [hu] at KBN ⊢
          clear hu
          replace T := zH (T.out.trans hb)
          refine ⟨hb, ?_⟩
          clear hb
          refine WT_done (by kernel_rfl) ?_
          go_wp2_with fail
          go_meet
          case rel => exact ⟨BN, rfl, BNN, KBN, T⟩
      obtain ⟨wo, hwo⟩ : ∃ wo, wo = wc := ⟨_, rfl⟩
      subst hwo
      obtain ⟨BN, rfl, BNN, KN, HWC⟩ := hcut
      have hs6 := K6.out.1
      have NE6 : Hid (w.heap.size + 1 + 1 ≠ BN) := zH (by have := BNN.out; omega)
      have NE3 : Hid (w.heap.size ≠ BN) := zH (by have := BNN.out; omega)
      have NB : Hid (w.heap.size ≤ BN) := zH (by have := BNN.out; omega)
      replace K3 := zH (K3.out.to HWC.out)
      replace K6 := zH (K6.out.to HWC.out)
      replace HB := zH (bThen HB.out HWC.out)
      clear HWC K4 BNN hs6 HCP HM
      obtain ⟨-, k3, -⟩ := K3.out
      obtain ⟨-, kn, -⟩ := KN.out
      go_wp2_with fail
      refine (HPR.out _ HB.out).mono ?_
      rintro e w2 ⟨a1, a2, v, rfl, hrr, hb, hloc⟩
      have HLN := zH (hloc (fun c => c ≠ BN) (fun b hb => by have := KN.out.1; omega) (fun i hi => by cases hi))
      have N10N : Hid (BN ≠ w2.heap.size) := zH (by have := KN.out.1; have := hb.size; omega)
      have N106 : Hid (w.heap.size + 1 + 1 ≠ w2.heap.size) := zH (by have := K6.out.1; have := hb.size; omega)
      have N103 : Hid (w.heap.size ≠ w2.heap.size) := zH (by have := K3.out.1; have := hb.size; omega)
      have N10 : Hid (w.heap.size ≤ w2.heap.size) := zH (by have := HB.out.size; have := hb.size; omega)
      replace K3 := zH (K3.out.to hb)
      replace K6 := zH (K6.out.to hb)
      replace KN := zH (KN.out.to hb)
      replace HB := zH (bThen HB.out hb)
      have LL := zH hrr.locNe
      have HRR := zH hrr
      obtain ⟨t1, n1, c1', t2, n2, c2', rfl, -, -⟩ := hrr.ex
      clear hb hloc hrr HPR k3 kn
      go_wp2_with fail
      obtain ⟨W2, hW2⟩ : ∃ W2, w2.alloc (.cells #[.int .i64 t1, .slice a1 n1 c1', .int .i64 t2, .slice a2 n2 c2'] 112) = W2 := ⟨_, rfl⟩
      have hb : Below w2.heap.size w2 W2 := by rw [← hW2]; exact bAlloc (bSelf w2) _
      have K10 : Hid (Blk W2 w2.heap.size #[.int .i64 t1, .slice a1 n1 c1', .int .i64 t2, .slice a2 n2 c2']) := by rw [← hW2]; exact zH (Blk.new _ _ _)
      replace HRR := zH (HRR.out.to hb)
      rw [hW2]
      clear hW2 LL
      replace K3 := zH (K3.out.to hb)
      replace K6 := zH (K6.out.to hb)
      replace KN := zH (KN.out.to hb)
      replace HB := zH (bThen HB.out hb)
      clear hb
      obtain ⟨B, hB⟩ : ∃ B, w2.heap.size = B := ⟨_, rfl⟩
      rw [hB] at K10 N10N N106 N103 N10 ⊢
      clear hB
      refine wp_region_tree (by kernel_rfl) (fun wd hwd => ?_)
      have T := zH hwd
      clear hwd
      refine WTq 0 ?_; apply Exists.intro; refine ⟨fun w1 hb1 => ?_, ?_⟩; (focus (((obtain ⟨-, k10, -⟩ := K10.out.to (T.out.trans hb1)); have hb1 := zH hb1; go_simp); (try (go_bits; try go_simp)); (try (rw [if_pos (by omega)]; try go_simp)); (first | done | (with_reducible rfl) | exact rfl)))
      simp only [Act.put, zzT, zzO, zzS]
      refine WTq 1 ?_; apply Exists.intro; refine ⟨fun w1 hb1 => ?_, ?_⟩; (focus ((have hb1 := zH hb1; go_simp); (try (go_bits; try go_simp)); (try (rw [if_pos (by omega)]; try go_simp)); (first | done | (with_reducible rfl) | exact rfl)))
      simp only [Act.put, zzT, zzO, zzS]
      refine WTq 2 ?_; apply Exists.intro; refine ⟨fun w1 hb1 => ?_, ?_⟩; (focus (((obtain ⟨-, k3, -⟩ := K3.out.to (T.out.trans hb1)); have hb1 := zH hb1; go_simp); (try (go_bits; try go_simp)); (try (rw [if_pos (by omega)]; try go_simp)); (first | done | (with_reducible rfl) | exact rfl)))
      simp only [Act.put, zzT, zzO, zzS]
      refine WT_one 3 rfl (by kernel_rfl) ?_
      unfold stepT
      go_wp2_with fail
      refine (HI1.out _).mono ?_
      rintro e u1 ⟨b1, b2, vv, rfl, hr2, hb, -⟩
      have HR2 := zH hr2
      have hbd := zH (hb.mono T.out.size)
      replace T := zH (bThen T.out hb)
      obtain ⟨y1, z1, x1, y2, z2, x2, rfl, -, -⟩ := hr2.ex
      clear hb hr2
      go_wp2_with fail
      refine ⟨hbd.out, ?_⟩
      clear hbd
      refine WT_one 4 rfl (by kernel_rfl) ?_
      unfold stepT
      go_wp2_with fail
      refine (HC1.out _ _ _ _ _ _ _ (HRR.out.to (Below.mono T.out (Nat.le_refl _))) HR2.out).mono ?_
      rintro e W3 ⟨rfl, hb⟩
      have hbd := zH (hb.mono T.out.size)
      replace T := zH (bThen T.out hb)
      clear hb HR2
      go_wp2_with fail
      refine ⟨hbd.out, ?_⟩
      clear hbd
      refine WTq 5 ?_; apply Exists.intro; refine ⟨fun w1 hb1 => ?_, ?_⟩; (focus ((have hb1 := zH hb1; go_simp); (try (go_bits; try go_simp)); (try (rw [if_pos (by omega)]; try go_simp)); (first | done | (with_reducible rfl) | exact rfl)))
      simp only [Act.put, zzT, zzO, zzS]
      refine WT_done (by kernel_rfl) ?_
      replace K3 := zH (K3.out.to T.out)
      replace K6 := zH (K6.out.to T.out)
      replace KN := zH (KN.out.to T.out)
      replace K10 := zH (K10.out.to T.out)
      replace HRR := zH (HRR.out.to T.out)
      replace HB := zH (bThen HB.out T.out)
      clear T HC1 HI1
      by_cases g1 : c1 ≤ 0
      · rw [if_pos g1] at HPV
        obtain ⟨-, kn, fn⟩ := KN.out
        go_wp2_with fail
        obtain ⟨W4, hW4⟩ : ∃ W4, W3.setCell ⟨BN, 1, none⟩ (.bool true) = W4 := ⟨_, rfl⟩
        have hb : Below w.heap.size W3 W4 := by rw [← hW4]; exact (Below.refl _ _).setCell (p := ⟨BN, 1, none⟩) NB.out _
        replace K3 : Hid (Blk W4 w.heap.size #[.slice a pts.length cap, .int .i64 pump, .int .i64 on, .int .i64 off]) := by rw [← hW4]; exact zH (K3.out.other (p := ⟨BN, 1, none⟩) (fun e => NE3.out e.symm) _)
        replace K6 : Hid (Blk W4 (w.heap.size + 1 + 1) #[.int .i64 0, .bool false]) := by rw [← hW4]; exact zH (K6.out.other (p := ⟨BN, 1, none⟩) (fun e => NE6.out e.symm) _)
        replace K10 : Hid (Blk W4 B #[.int .i64 t1, .slice a1 n1 c1', .int .i64 t2, .slice a2 n2 c2']) := by rw [← hW4]; exact zH (K10.out.other (p := ⟨BN, 1, none⟩) N10N.out _)
        replace KN : Hid (Blk W4 BN #[.int .i64 m, .bool true]) := by rw [← hW4]; exact zH (KN.out.set 1 _)
        replace HRR : Hid (RR W4 a1 a2 (.agg #[.int .i64 t1, .slice a1 n1 c1', .int .i64 t2, .slice a2 n2 c2']) q) := by rw [← hW4]; exact zH (HRR.out.set1 HLN.out.1 HLN.out.2 _)
        replace HB := zH (HB.out.trans hb)
        rw [hW4]
        clear hW4 hb kn fn g1
        refine wp_region_tree (by kernel_rfl) (fun wd hwd => ?_)
        have T := zH hwd
        clear hwd
        refine WTq 0 ?_; apply Exists.intro; refine ⟨fun w1 hb1 => ?_, ?_⟩; (focus (((obtain ⟨-, k10, -⟩ := K10.out.to (T.out.trans hb1)); have hb1 := zH hb1; go_simp); (try (go_bits; try go_simp)); (try (rw [if_pos (by omega)]; try go_simp)); (first | done | (with_reducible rfl) | exact rfl)))
        simp only [Act.put, zzT, zzO, zzS]
        refine WTq 1 ?_; apply Exists.intro; refine ⟨fun w1 hb1 => ?_, ?_⟩; (focus ((have hb1 := zH hb1; go_simp); (try (go_bits; try go_simp)); (try (rw [if_pos (by omega)]; try go_simp)); (first | done | (with_reducible rfl) | exact rfl)))
        simp only [Act.put, zzT, zzO, zzS]
        refine WTq 2 ?_; apply Exists.intro; refine ⟨fun w1 hb1 => ?_, ?_⟩; (focus (((obtain ⟨-, k3, -⟩ := K3.out.to (T.out.trans hb1)); have hb1 := zH hb1; go_simp); (try (go_bits; try go_simp)); (try (rw [if_pos (by omega)]; try go_simp)); (first | done | (with_reducible rfl) | exact rfl)))
        simp only [Act.put, zzT, zzO, zzS]
        refine WT_one 3 rfl (by kernel_rfl) ?_
        unfold stepT
        go_wp2_with fail
        refine (HI2.out _).mono ?_
        rintro e u1 ⟨b1, b2, vv, rfl, hr2, hb, -⟩
        have HR2 := zH hr2
        have hbd := zH (hb.mono T.out.size)
        replace T := zH (bThen T.out hb)
        obtain ⟨y1, z1, x1, y2, z2, x2, rfl, -, -⟩ := hr2.ex
        clear hb hr2
        go_wp2_with fail
        refine ⟨hbd.out, ?_⟩
        clear hbd
        refine WT_one 4 rfl (by kernel_rfl) ?_
        unfold stepT
        go_wp2_with fail
        refine (HC2.out _ _ _ _ _ _ _ (HRR.out.to (Below.mono T.out (Nat.le_refl _))) HR2.out).mono ?_
        rintro e W5 ⟨rfl, hb⟩
        have hbd := zH (hb.mono T.out.size)
        replace T := zH (bThen T.out hb)
        clear hb HR2
        go_wp2_with fail
        refine ⟨hbd.out, ?_⟩
        clear hbd
        refine WTq 5 ?_; apply Exists.intro; refine ⟨fun w1 hb1 => ?_, ?_⟩; (focus ((have hb1 := zH hb1; go_simp); (try (go_bits; try go_simp)); (try (rw [if_pos (by omega)]; try go_simp)); (first | done | (with_reducible rfl) | exact rfl)))
        simp only [Act.put, zzT, zzO, zzS]
        refine WT_done (by kernel_rfl) ?_
        replace K3 := zH (K3.out.to T.out)
        replace K6 := zH (K6.out.to T.out)
        replace KN := zH (KN.out.to T.out)
        replace K10 := zH (K10.out.to T.out)
        replace HRR := zH (HRR.out.to T.out)
        replace HB := zH (bThen HB.out T.out)
        clear T HC2 HI2
        by_cases g2 : 0 ≤ c2
        · rw [if_pos g2] at HPV
          obtain rfl : pv = false := HPV.out
          obtain ⟨-, kn, fn⟩ := KN.out
          have kn2 := (KN.out.set 1 (.bool false)).2.1
          obtain ⟨hs6, k6, f6⟩ := K6.out.other (p := ⟨BN, 1, none⟩) (fun e => NE6.out e.symm) (.bool false)
          go_wp2_with fail
          have F := (((K6.out.other (p := ⟨BN, 1, none⟩) (fun e => NE6.out e.symm) (.bool false))).set 0 (.int .i64 m)).set 1 (.bool false)
          have F0 := F.2.1 0
          have F1 := F.2.1 1
          clear F k6 f6
          refine bodyPost_ret (v := .tuple #[.agg #[.int .i64 m, .bool false], .bool true]) ?_ rfl ⟨rfl, ?_⟩
          · simp [results, Tryz.results32, go_sem, F0, F1]
          · exact ((HB.out.setCell (p := ⟨BN, 1, none⟩) NB.out _).setCell (p := ⟨w.heap.size + 1 + 1, 0, none⟩) (by simp; omega) _).setCell (p := ⟨w.heap.size + 1 + 1, 1, none⟩) (by simp; omega) _
        · rw [if_neg g2] at HPV
          obtain rfl : pv = true := HPV.out
          obtain ⟨-, kn, fn⟩ := KN.out
          obtain ⟨hs6, k6, f6⟩ := K6.out
          go_wp2_with fail
          have F := (K6.out.set 0 (.int .i64 m)).set 1 (.bool true)
          have F0 := F.2.1 0
          have F1 := F.2.1 1
          clear F k6 f6
          refine bodyPost_ret (v := .tuple #[.agg #[.int .i64 m, .bool true], .bool true]) ?_ rfl ⟨rfl, ?_⟩
          · simp [results, Tryz.results32, go_sem, F0, F1]
          · exact (HB.out.setCell (p := ⟨w.heap.size + 1 + 1, 0, none⟩) (by simp; omega) _).setCell (p := ⟨w.heap.size + 1 + 1, 1, none⟩) (by simp; omega) _
      · rw [if_neg g1] at HPV
        go_wp2_with fail
        clear g1
        refine wp_region_tree (by kernel_rfl) (fun wd hwd => ?_)
        have T := zH hwd
        clear hwd
        refine WTq 0 ?_; apply Exists.intro; refine ⟨fun w1 hb1 => ?_, ?_⟩; (focus (((obtain ⟨-, k10, -⟩ := K10.out.to (T.out.trans hb1)); have hb1 := zH hb1; go_simp); (try (go_bits; try go_simp)); (try (rw [if_pos (by omega)]; try go_simp)); (first | done | (with_reducible rfl) | exact rfl)))
        simp only [Act.put, zzT, zzO, zzS]
        refine WTq 1 ?_; apply Exists.intro; refine ⟨fun w1 hb1 => ?_, ?_⟩; (focus ((have hb1 := zH hb1; go_simp); (try (go_bits; try go_simp)); (try (rw [if_pos (by omega)]; try go_simp)); (first | done | (with_reducible rfl) | exact rfl)))
        simp only [Act.put, zzT, zzO, zzS]
        refine WTq 2 ?_; apply Exists.intro; refine ⟨fun w1 hb1 => ?_, ?_⟩; (focus (((obtain ⟨-, k3, -⟩ := K3.out.to (T.out.trans hb1)); have hb1 := zH hb1; go_simp); (try (go_bits; try go_simp)); (try (rw [if_pos (by omega)]; try go_simp)); (first | done | (with_reducible rfl) | exact rfl)))
        simp only [Act.put, zzT, zzO, zzS]
        refine WT_one 3 rfl (by kernel_rfl) ?_
        unfold stepT
        go_wp2_with fail
        refine (HI2.out _).mono ?_
        rintro e u1 ⟨b1, b2, vv, rfl, hr2, hb, -⟩
        have HR2 := zH hr2
        have hbd := zH (hb.mono T.out.size)
        replace T := zH (bThen T.out hb)
        obtain ⟨y1, z1, x1, y2, z2, x2, rfl, -, -⟩ := hr2.ex
        clear hb hr2
        go_wp2_with fail
        refine ⟨hbd.out, ?_⟩
        clear hbd
        refine WT_one 4 rfl (by kernel_rfl) ?_
        unfold stepT
        go_wp2_with fail
        refine (HC2.out _ _ _ _ _ _ _ (HRR.out.to (Below.mono T.out (Nat.le_refl _))) HR2.out).mono ?_
        rintro e W5 ⟨rfl, hb⟩
        have hbd := zH (hb.mono T.out.size)
        replace T := zH (bThen T.out hb)
        clear hb HR2
        go_wp2_with fail
        refine ⟨hbd.out, ?_⟩
        clear hbd
        refine WTq 5 ?_; apply Exists.intro; refine ⟨fun w1 hb1 => ?_, ?_⟩; (focus ((have hb1 := zH hb1; go_simp); (try (go_bits; try go_simp)); (try (rw [if_pos (by omega)]; try go_simp)); (first | done | (with_reducible rfl) | exact rfl)))
        simp only [Act.put, zzT, zzO, zzS]
        refine WT_done (by kernel_rfl) ?_
        replace K3 := zH (K3.out.to T.out)
        replace K6 := zH (K6.out.to T.out)
        replace KN := zH (KN.out.to T.out)
        replace K10 := zH (K10.out.to T.out)
        replace HRR := zH (HRR.out.to T.out)
        replace HB := zH (bThen HB.out T.out)
        clear T HC2 HI2
        by_cases g2 : 0 ≤ c2
        · rw [if_pos g2] at HPV
          obtain rfl : pv = false := HPV.out
          obtain ⟨-, kn, fn⟩ := KN.out
          have kn2 := (KN.out.set 1 (.bool false)).2.1
          obtain ⟨hs6, k6, f6⟩ := K6.out.other (p := ⟨BN, 1, none⟩) (fun e => NE6.out e.symm) (.bool false)
          go_wp2_with fail
          have F := (((K6.out.other (p := ⟨BN, 1, none⟩) (fun e => NE6.out e.symm) (.bool false))).set 0 (.int .i64 m)).set 1 (.bool false)
          have F0 := F.2.1 0
          have F1 := F.2.1 1
          clear F k6 f6
          refine bodyPost_ret (v := .tuple #[.agg #[.int .i64 m, .bool false], .bool true]) ?_ rfl ⟨rfl, ?_⟩
          · simp [results, Tryz.results32, go_sem, F0, F1]
          · exact ((HB.out.setCell (p := ⟨BN, 1, none⟩) NB.out _).setCell (p := ⟨w.heap.size + 1 + 1, 0, none⟩) (by simp; omega) _).setCell (p := ⟨w.heap.size + 1 + 1, 1, none⟩) (by simp; omega) _
        · rw [if_neg g2] at HPV
          obtain rfl : pv = false := HPV.out
          obtain ⟨-, kn, fn⟩ := KN.out
          obtain ⟨hs6, k6, f6⟩ := K6.out
          go_wp2_with fail
          have F := (K6.out.set 0 (.int .i64 m)).set 1 (.bool false)
          have F0 := F.2.1 0
          have F1 := F.2.1 1
          clear F k6 f6
          refine bodyPost_ret (v := .tuple #[.agg #[.int .i64 m, .bool false], .bool true]) ?_ rfl ⟨rfl, ?_⟩
          · simp [results, Tryz.results32, go_sem, F0, F1]
          · exact (HB.out.setCell (p := ⟨w.heap.size + 1 + 1, 0, none⟩) (by simp; omega) _).setCell (p := ⟨w.heap.size + 1 + 1, 1, none⟩) (by simp; omega) _
    case true =>
      first | rw [if_pos rfl] at hvl | rw [if_neg (by decide)] at hvl
      go_enter Tryz.func32, Tryz.ntmps32
      go_wp2_with fail
      obtain ⟨W, hW⟩ : ∃ W, ((w.alloc (.cells #[.slice a pts.length cap, .int .i64 pump, .int .i64 on, .int .i64 off] 44)).alloc (.cells #[.int .i64 s1, .bool true] 46)).alloc (.cells #[.int .i64 0, .bool false] 46) = W := ⟨_, rfl⟩
      rw [hW]
      have K3 : Hid (Blk W w.heap.size #[.slice a pts.length cap, .int .i64 pump, .int .i64 on, .int .i64 off]) := by subst hW; exact zH (((Blk.new _ _ _).alloc _).alloc _)
      have K4 : Hid (Blk W (w.heap.size + 1) #[.int .i64 s1, .bool true]) := by subst hW; exact zH ((Blk.newAt _ _ _ (by simp)).alloc _)
      have K6 : Hid (Blk W (w.heap.size + 1 + 1) #[.int .i64 0, .bool false]) := by subst hW; exact zH (Blk.newAt _ _ _ (by simp))
      have HB : Hid (Below w.heap.size w W) := by subst hW; exact zH (bAlloc (bAlloc (bAlloc (bSelf w) _) _) _)
      clear hW
      go_cut [9] from 24 to 30 (fun s9 wc => ∃ BN, s9 = .pointer (some ⟨BN, 0, none⟩) ∧ Hid (W.heap.size ≤ BN) ∧ Hid (Blk wc BN #[.int .i64 m, .bool true]) ∧ Hid (Below W.heap.size W wc))
      case first =>
        refine wp_region_tree (by kernel_rfl) (fun wd hwd => ?_)
        have T := zH hwd
        clear hwd
        refine WTq 0 ?_; apply Exists.intro; refine ⟨fun w1 hb1 => ?_, ?_⟩; (focus ((have hb1 := zH hb1; go_simp); (try (go_bits; try go_simp)); (try (rw [if_pos (by omega)]; try go_simp)); (first | done | (with_reducible rfl) | exact rfl)))
        simp only [Act.put, zzT, zzO, zzS]
        refine WTq 1 ?_; apply Exists.intro; refine ⟨fun w1 hb1 => ?_, ?_⟩; (focus (((obtain ⟨-, k3, -⟩ := K3.out.to (T.out.trans hb1)); have hb1 := zH hb1; go_simp); (try (go_bits; try go_simp)); (try (rw [if_pos (by omega)]; try go_simp)); (first | done | (with_reducible rfl) | exact rfl)))
        simp only [Act.put, zzT, zzO, zzS]
        refine WTq 4 ?_; apply Exists.intro; refine ⟨fun w1 hb1 => ?_, ?_⟩; (focus ((have hb1 := zH hb1; go_simp); (try (go_bits; try go_simp)); (try (rw [if_pos (by omega)]; try go_simp)); (first | done | (with_reducible rfl) | exact rfl)))
        simp only [Act.put, zzT, zzO, zzS]
        refine WTq 5 ?_; apply Exists.intro; refine ⟨fun w1 hb1 => ?_, ?_⟩; (focus (((obtain ⟨-, k4, -⟩ := K4.out.to (T.out.trans hb1)); have hb1 := zH hb1; go_simp); (try (go_bits; try go_simp)); (try (rw [if_pos (by omega)]; try go_simp)); (first | done | (with_reducible rfl) | exact rfl)))
        simp only [Act.put, zzT, zzO, zzS]
        refine WT_two 2 7 rfl rfl (by kernel_rfl) ?_ ?_
        · unfold stepT
          go_wp2_with fail
          refine (HCP.out _ (bThen HB.out T.out)).mono ?_
          rintro e u1 ⟨rfl, hb⟩
          have hbd := zH (hb.mono T.out.size)
          replace T := zH (bThen T.out hb)
          clear hb
          go_wp2_with fail
          refine ⟨hbd.out, ?_⟩
          clear hbd
          refine WT_yes 3 rfl (by kernel_rfl) (fun _ _ _ _ _ h => h) (by rfl) ⟨.int .i64 m, fun w1 hb1 => (by have hm := HM.out; go_simp; try (split <;> omega)), ?_⟩
          simp only [Act.put, zzT, zzO, zzS]
          refine WT_yes 6 rfl (by kernel_rfl) (fun _ _ _ _ _ h => h) (by rfl) ⟨.agg #[.int .i64 m, .bool true], fun w1 hb1 => (by go_simp), ?_⟩
          simp only [Act.put, zzT, zzO, zzS]
          refine WT_one 7 rfl (by kernel_rfl) ?_
          unfold stepT
          go_wp2_with fail
          obtain ⟨u2, hwA⟩ : ∃ wA, u1.alloc (.cells #[.int .i64 0, .bool false] 46) = wA := ⟨_, rfl⟩
          rw [hwA]
          have hb : Below u1.heap.size u1 u2 := by subst hwA; exact bAlloc (bSelf _) _
          have KBN : Hid (Blk u2 u1.heap.size #[.int .i64 0, .bool false]) := by subst hwA; exact Blk.new _ _ _
          clear hwA
          have BNN : Hid (W.heap.size ≤ u1.heap.size) := zH T.out.size
          obtain ⟨BN, hBN⟩ : ∃ N, u1.heap.size = N := ⟨_, rfl⟩
          have hbd := zH (hb.mono T.out.size)
          replace T := zH (bThen T.out hb)
          clear hb
          rw [hBN] at KBN BNN  ⊢
          clear hBN
          refine ⟨hbd.out, ?_⟩
          clear hbd
          refine WT_one 8 rfl (by kernel_rfl) ?_
          unfold stepT
          obtain ⟨-, kx, fx⟩ := KBN.out
          go_wp2_with fail
          clear kx fx
          obtain ⟨u3, hu⟩ : ∃ u, (u2.setCell ⟨BN, 0, none⟩ (.int .i64 m)).setCell ⟨BN, 1, none⟩ (.bool true) = u := ⟨_, rfl⟩
          have hb : Below W.heap.size u2 u3 := by rw [← hu]; exact ((Below.refl _ _).setCell (p := ⟨BN, 0, none⟩) BNN.out _).setCell (p := ⟨BN, 1, none⟩) BNN.out _
          replace KBN := zH ((KBN.out.set 0 (.int .i64 m)).set 1 (.bool true))
          rw [hu] at KBN ⊢
          clear hu
          replace T := zH (T.out.trans hb)
          refine ⟨hb, ?_⟩
          clear hb
          refine WT_done (by kernel_rfl) ?_
          go_wp2_with fail
          go_meet
          case rel => exact ⟨BN, rfl, BNN, KBN, T⟩
        · unfold stepT
          go_wp2_with fail
          obtain ⟨u1, hwA⟩ : ∃ wA, wd.alloc (.cells #[.int .i64 0, .bool false] 46) = wA := ⟨_, rfl⟩
          rw [hwA]
          have hb : Below wd.heap.size wd u1 := by subst hwA; exact bAlloc (bSelf _) _
          have KBN : Hid (Blk u1 wd.heap.size #[.int .i64 0, .bool false]) := by subst hwA; exact Blk.new _ _ _
          clear hwA
          have BNN : Hid (W.heap.size ≤ wd.heap.size) := zH T.out.size
          obtain ⟨BN, hBN⟩ : ∃ N, wd.heap.size = N := ⟨_, rfl⟩
          have hbd := zH (hb.mono T.out.size)
          replace T := zH (bThen T.out hb)
          clear hb
          rw [hBN] at KBN BNN  ⊢
          clear hBN
          refine ⟨hbd.out, ?_⟩
          clear hbd
          refine WT_one 2 rfl (by kernel_rfl) ?_
          unfold stepT
          go_wp2_with fail
          refine (HCP.out _ (bThen HB.out T.out)).mono ?_
          rintro e u2 ⟨rfl, hb⟩
          replace KBN := zH (KBN.out.to hb)
          have hbd := zH (hb.mono T.out.size)
          replace T := zH (bThen T.out hb)
          clear hb
          go_wp2_with fail
          refine ⟨hbd.out, ?_⟩
          clear hbd
          refine WT_yes 3 rfl (by kernel_rfl) (fun _ _ _ _ _ h => h) (by rfl) ⟨.int .i64 m, fun w1 hb1 => (by have hm := HM.out; go_simp; try (split <;> omega)), ?_⟩
          simp only [Act.put, zzT, zzO, zzS]
          refine WT_yes 6 rfl (by kernel_rfl) (fun _ _ _ _ _ h => h) (by rfl) ⟨.agg #[.int .i64 m, .bool true], fun w1 hb1 => (by go_simp), ?_⟩
          simp only [Act.put, zzT, zzO, zzS]
          refine WT_one 8 rfl (by kernel_rfl) ?_
          unfold stepT
          obtain ⟨-, kx, fx⟩ := KBN.out
          go_wp2_with fail
          clear kx fx
          obtain ⟨u3, hu⟩ : ∃ u, (u2.setCell ⟨BN, 0, none⟩ (.int .i64 m)).setCell ⟨BN, 1, none⟩ (.bool true) = u := ⟨_, rfl⟩
          have hb : Below W.heap.size u2 u3 := by rw [← hu]; exact ((Below.refl _ _).setCell (p := ⟨BN, 0, none⟩) BNN.out _).setCell (p := ⟨BN, 1, none⟩) BNN.out _
          replace KBN := zH ((KBN.out.set 0 (.int .i64 m)).set 1 (.bool true))
          rw [hu] at KBN ⊢
          clear hu
          replace T := zH (T.out.trans hb)
          refine ⟨hb, ?_⟩
          clear hb
          refine WT_done (by kernel_rfl) ?_
          go_wp2_with fail
          go_meet
          case rel => exact ⟨BN, rfl, BNN, KBN, T⟩
      obtain ⟨wo, hwo⟩ : ∃ wo, wo = wc := ⟨_, rfl⟩
      subst hwo
      obtain ⟨BN, rfl, BNN, KN, HWC⟩ := hcut
      have hs6 := K6.out.1
      have NE6 : Hid (w.heap.size + 1 + 1 ≠ BN) := zH (by have := BNN.out; omega)
      have NE3 : Hid (w.heap.size ≠ BN) := zH (by have := BNN.out; omega)
      have NB : Hid (w.heap.size ≤ BN) := zH (by have := BNN.out; omega)
      replace K3 := zH (K3.out.to HWC.out)
      replace K6 := zH (K6.out.to HWC.out)
      replace HB := zH (bThen HB.out HWC.out)
      clear HWC K4 BNN hs6 HCP HM
      obtain ⟨-, k3, -⟩ := K3.out
      obtain ⟨-, kn, -⟩ := KN.out
      go_wp2_with fail
      refine (HPR.out _ HB.out).mono ?_
      rintro e w2 ⟨a1, a2, v, rfl, hrr, hb, hloc⟩
      have HLN := zH (hloc (fun c => c ≠ BN) (fun b hb => by have := KN.out.1; omega) (fun i hi => by cases hi))
      have N10N : Hid (BN ≠ w2.heap.size) := zH (by have := KN.out.1; have := hb.size; omega)
      have N106 : Hid (w.heap.size + 1 + 1 ≠ w2.heap.size) := zH (by have := K6.out.1; have := hb.size; omega)
      have N103 : Hid (w.heap.size ≠ w2.heap.size) := zH (by have := K3.out.1; have := hb.size; omega)
      have N10 : Hid (w.heap.size ≤ w2.heap.size) := zH (by have := HB.out.size; have := hb.size; omega)
      replace K3 := zH (K3.out.to hb)
      replace K6 := zH (K6.out.to hb)
      replace KN := zH (KN.out.to hb)
      replace HB := zH (bThen HB.out hb)
      have LL := zH hrr.locNe
      have HRR := zH hrr
      obtain ⟨t1, n1, c1', t2, n2, c2', rfl, -, -⟩ := hrr.ex
      clear hb hloc hrr HPR k3 kn
      go_wp2_with fail
      obtain ⟨W2, hW2⟩ : ∃ W2, w2.alloc (.cells #[.int .i64 t1, .slice a1 n1 c1', .int .i64 t2, .slice a2 n2 c2'] 112) = W2 := ⟨_, rfl⟩
      have hb : Below w2.heap.size w2 W2 := by rw [← hW2]; exact bAlloc (bSelf w2) _
      have K10 : Hid (Blk W2 w2.heap.size #[.int .i64 t1, .slice a1 n1 c1', .int .i64 t2, .slice a2 n2 c2']) := by rw [← hW2]; exact zH (Blk.new _ _ _)
      replace HRR := zH (HRR.out.to hb)
      rw [hW2]
      clear hW2 LL
      replace K3 := zH (K3.out.to hb)
      replace K6 := zH (K6.out.to hb)
      replace KN := zH (KN.out.to hb)
      replace HB := zH (bThen HB.out hb)
      clear hb
      obtain ⟨B, hB⟩ : ∃ B, w2.heap.size = B := ⟨_, rfl⟩
      rw [hB] at K10 N10N N106 N103 N10 ⊢
      clear hB
      refine wp_region_tree (by kernel_rfl) (fun wd hwd => ?_)
      have T := zH hwd
      clear hwd
      refine WTq 0 ?_; apply Exists.intro; refine ⟨fun w1 hb1 => ?_, ?_⟩; (focus (((obtain ⟨-, k10, -⟩ := K10.out.to (T.out.trans hb1)); have hb1 := zH hb1; go_simp); (try (go_bits; try go_simp)); (try (rw [if_pos (by omega)]; try go_simp)); (first | done | (with_reducible rfl) | exact rfl)))
      simp only [Act.put, zzT, zzO, zzS]
      refine WTq 1 ?_; apply Exists.intro; refine ⟨fun w1 hb1 => ?_, ?_⟩; (focus ((have hb1 := zH hb1; go_simp); (try (go_bits; try go_simp)); (try (rw [if_pos (by omega)]; try go_simp)); (first | done | (with_reducible rfl) | exact rfl)))
      simp only [Act.put, zzT, zzO, zzS]
      refine WTq 2 ?_; apply Exists.intro; refine ⟨fun w1 hb1 => ?_, ?_⟩; (focus (((obtain ⟨-, k3, -⟩ := K3.out.to (T.out.trans hb1)); have hb1 := zH hb1; go_simp); (try (go_bits; try go_simp)); (try (rw [if_pos (by omega)]; try go_simp)); (first | done | (with_reducible rfl) | exact rfl)))
      simp only [Act.put, zzT, zzO, zzS]
      refine WT_one 3 rfl (by kernel_rfl) ?_
      unfold stepT
      go_wp2_with fail
      refine (HI1.out _).mono ?_
      rintro e u1 ⟨b1, b2, vv, rfl, hr2, hb, -⟩
      have HR2 := zH hr2
      have hbd := zH (hb.mono T.out.size)
      replace T := zH (bThen T.out hb)
      obtain ⟨y1, z1, x1, y2, z2, x2, rfl, -, -⟩ := hr2.ex
      clear hb hr2
      go_wp2_with fail
      refine ⟨hbd.out, ?_⟩
      clear hbd
      refine WT_one 4 rfl (by kernel_rfl) ?_
      unfold stepT
      go_wp2_with fail
      refine (HC1.out _ _ _ _ _ _ _ (HRR.out.to (Below.mono T.out (Nat.le_refl _))) HR2.out).mono ?_
      rintro e W3 ⟨rfl, hb⟩
      have hbd := zH (hb.mono T.out.size)
      replace T := zH (bThen T.out hb)
      clear hb HR2
      go_wp2_with fail
      refine ⟨hbd.out, ?_⟩
      clear hbd
      refine WTq 5 ?_; apply Exists.intro; refine ⟨fun w1 hb1 => ?_, ?_⟩; (focus ((have hb1 := zH hb1; go_simp); (try (go_bits; try go_simp)); (try (rw [if_pos (by omega)]; try go_simp)); (first | done | (with_reducible rfl) | exact rfl)))
      simp only [Act.put, zzT, zzO, zzS]
      refine WT_done (by kernel_rfl) ?_
      replace K3 := zH (K3.out.to T.out)
      replace K6 := zH (K6.out.to T.out)
      replace KN := zH (KN.out.to T.out)
      replace K10 := zH (K10.out.to T.out)
      replace HRR := zH (HRR.out.to T.out)
      replace HB := zH (bThen HB.out T.out)
      clear T HC1 HI1
      by_cases g1 : c1 ≤ 0
      · rw [if_pos g1] at HPV
        obtain ⟨-, kn, fn⟩ := KN.out
        go_wp2_with fail
        obtain ⟨W4, hW4⟩ : ∃ W4, W3.setCell ⟨BN, 1, none⟩ (.bool true) = W4 := ⟨_, rfl⟩
        have hb : Below w.heap.size W3 W4 := by rw [← hW4]; exact (Below.refl _ _).setCell (p := ⟨BN, 1, none⟩) NB.out _
        replace K3 : Hid (Blk W4 w.heap.size #[.slice a pts.length cap, .int .i64 pump, .int .i64 on, .int .i64 off]) := by rw [← hW4]; exact zH (K3.out.other (p := ⟨BN, 1, none⟩) (fun e => NE3.out e.symm) _)
        replace K6 : Hid (Blk W4 (w.heap.size + 1 + 1) #[.int .i64 0, .bool false]) := by rw [← hW4]; exact zH (K6.out.other (p := ⟨BN, 1, none⟩) (fun e => NE6.out e.symm) _)
        replace K10 : Hid (Blk W4 B #[.int .i64 t1, .slice a1 n1 c1', .int .i64 t2, .slice a2 n2 c2']) := by rw [← hW4]; exact zH (K10.out.other (p := ⟨BN, 1, none⟩) N10N.out _)
        replace KN : Hid (Blk W4 BN #[.int .i64 m, .bool true]) := by rw [← hW4]; exact zH (KN.out.set 1 _)
        replace HRR : Hid (RR W4 a1 a2 (.agg #[.int .i64 t1, .slice a1 n1 c1', .int .i64 t2, .slice a2 n2 c2']) q) := by rw [← hW4]; exact zH (HRR.out.set1 HLN.out.1 HLN.out.2 _)
        replace HB := zH (HB.out.trans hb)
        rw [hW4]
        clear hW4 hb kn fn g1
        refine wp_region_tree (by kernel_rfl) (fun wd hwd => ?_)
        have T := zH hwd
        clear hwd
        refine WTq 0 ?_; apply Exists.intro; refine ⟨fun w1 hb1 => ?_, ?_⟩; (focus (((obtain ⟨-, k10, -⟩ := K10.out.to (T.out.trans hb1)); have hb1 := zH hb1; go_simp); (try (go_bits; try go_simp)); (try (rw [if_pos (by omega)]; try go_simp)); (first | done | (with_reducible rfl) | exact rfl)))
        simp only [Act.put, zzT, zzO, zzS]
        refine WTq 1 ?_; apply Exists.intro; refine ⟨fun w1 hb1 => ?_, ?_⟩; (focus ((have hb1 := zH hb1; go_simp); (try (go_bits; try go_simp)); (try (rw [if_pos (by omega)]; try go_simp)); (first | done | (with_reducible rfl) | exact rfl)))
        simp only [Act.put, zzT, zzO, zzS]
        refine WTq 2 ?_; apply Exists.intro; refine ⟨fun w1 hb1 => ?_, ?_⟩; (focus (((obtain ⟨-, k3, -⟩ := K3.out.to (T.out.trans hb1)); have hb1 := zH hb1; go_simp); (try (go_bits; try go_simp)); (try (rw [if_pos (by omega)]; try go_simp)); (first | done | (with_reducible rfl) | exact rfl)))
        simp only [Act.put, zzT, zzO, zzS]
        refine WT_one 3 rfl (by kernel_rfl) ?_
        unfold stepT
        go_wp2_with fail
        refine (HI2.out _).mono ?_
        rintro e u1 ⟨b1, b2, vv, rfl, hr2, hb, -⟩
        have HR2 := zH hr2
        have hbd := zH (hb.mono T.out.size)
        replace T := zH (bThen T.out hb)
        obtain ⟨y1, z1, x1, y2, z2, x2, rfl, -, -⟩ := hr2.ex
        clear hb hr2
        go_wp2_with fail
        refine ⟨hbd.out, ?_⟩
        clear hbd
        refine WT_one 4 rfl (by kernel_rfl) ?_
        unfold stepT
        go_wp2_with fail
        refine (HC2.out _ _ _ _ _ _ _ (HRR.out.to (Below.mono T.out (Nat.le_refl _))) HR2.out).mono ?_
        rintro e W5 ⟨rfl, hb⟩
        have hbd := zH (hb.mono T.out.size)
        replace T := zH (bThen T.out hb)
        clear hb HR2
        go_wp2_with fail
        refine ⟨hbd.out, ?_⟩
        clear hbd
        refine WTq 5 ?_; apply Exists.intro; refine ⟨fun w1 hb1 => ?_, ?_⟩; (focus ((have hb1 := zH hb1; go_simp); (try (go_bits; try go_simp)); (try (rw [if_pos (by omega)]; try go_simp)); (first | done | (with_reducible rfl) | exact rfl)))
        simp only [Act.put, zzT, zzO, zzS]
        refine WT_done (by kernel_rfl) ?_
        replace K3 := zH (K3.out.to T.out)
        replace K6 := zH (K6.out.to T.out)
        replace KN := zH (KN.out.to T.out)
        replace K10 := zH (K10.out.to T.out)
        replace HRR := zH (HRR.out.to T.out)
        replace HB := zH (bThen HB.out T.out)
        clear T HC2 HI2
        by_cases g2 : 0 ≤ c2
        · rw [if_pos g2] at HPV
          obtain rfl : pv = false := HPV.out
          obtain ⟨-, kn, fn⟩ := KN.out
          have kn2 := (KN.out.set 1 (.bool false)).2.1
          obtain ⟨hs6, k6, f6⟩ := K6.out.other (p := ⟨BN, 1, none⟩) (fun e => NE6.out e.symm) (.bool false)
          go_wp2_with fail
          have F := (((K6.out.other (p := ⟨BN, 1, none⟩) (fun e => NE6.out e.symm) (.bool false))).set 0 (.int .i64 m)).set 1 (.bool false)
          have F0 := F.2.1 0
          have F1 := F.2.1 1
          clear F k6 f6
          refine bodyPost_ret (v := .tuple #[.agg #[.int .i64 m, .bool false], .bool true]) ?_ rfl ⟨rfl, ?_⟩
          · simp [results, Tryz.results32, go_sem, F0, F1]
          · exact ((HB.out.setCell (p := ⟨BN, 1, none⟩) NB.out _).setCell (p := ⟨w.heap.size + 1 + 1, 0, none⟩) (by simp; omega) _).setCell (p := ⟨w.heap.size + 1 + 1, 1, none⟩) (by simp; omega) _
        · rw [if_neg g2] at HPV
          obtain rfl : pv = true := HPV.out
          obtain ⟨-, kn, fn⟩ := KN.out
          obtain ⟨hs6, k6, f6⟩ := K6.out
          go_wp2_with fail
          have F := (K6.out.set 0 (.int .i64 m)).set 1 (.bool true)
          have F0 := F.2.1 0
          have F1 := F.2.1 1
          clear F k6 f6
          refine bodyPost_ret (v := .tuple #[.agg #[.int .i64 m, .bool true], .bool true]) ?_ rfl ⟨rfl, ?_⟩
          · simp [results, Tryz.results32, go_sem, F0, F1]
          · exact (HB.out.setCell (p := ⟨w.heap.size + 1 + 1, 0, none⟩) (by simp; omega) _).setCell (p := ⟨w.heap.size + 1 + 1, 1, none⟩) (by simp; omega) _
      · rw [if_neg g1] at HPV
        go_wp2_with fail
        clear g1
        refine wp_region_tree (by kernel_rfl) (fun wd hwd => ?_)
        have T := zH hwd
        clear hwd
        refine WTq 0 ?_; apply Exists.intro; refine ⟨fun w1 hb1 => ?_, ?_⟩; (focus (((obtain ⟨-, k10, -⟩ := K10.out.to (T.out.trans hb1)); have hb1 := zH hb1; go_simp); (try (go_bits; try go_simp)); (try (rw [if_pos (by omega)]; try go_simp)); (first | done | (with_reducible rfl) | exact rfl)))
        simp only [Act.put, zzT, zzO, zzS]
        refine WTq 1 ?_; apply Exists.intro; refine ⟨fun w1 hb1 => ?_, ?_⟩; (focus ((have hb1 := zH hb1; go_simp); (try (go_bits; try go_simp)); (try (rw [if_pos (by omega)]; try go_simp)); (first | done | (with_reducible rfl) | exact rfl)))
        simp only [Act.put, zzT, zzO, zzS]
        refine WTq 2 ?_; apply Exists.intro; refine ⟨fun w1 hb1 => ?_, ?_⟩; (focus (((obtain ⟨-, k3, -⟩ := K3.out.to (T.out.trans hb1)); have hb1 := zH hb1; go_simp); (try (go_bits; try go_simp)); (try (rw [if_pos (by omega)]; try go_simp)); (first | done | (with_reducible rfl) | exact rfl)))
        simp only [Act.put, zzT, zzO, zzS]
        refine WT_one 3 rfl (by kernel_rfl) ?_
        unfold stepT
        go_wp2_with fail
        refine (HI2.out _).mono ?_
        rintro e u1 ⟨b1, b2, vv, rfl, hr2, hb, -⟩
        have HR2 := zH hr2
        have hbd := zH (hb.mono T.out.size)
        replace T := zH (bThen T.out hb)
        obtain ⟨y1, z1, x1, y2, z2, x2, rfl, -, -⟩ := hr2.ex
        clear hb hr2
        go_wp2_with fail
        refine ⟨hbd.out, ?_⟩
        clear hbd
        refine WT_one 4 rfl (by kernel_rfl) ?_
        unfold stepT
        go_wp2_with fail
        refine (HC2.out _ _ _ _ _ _ _ (HRR.out.to (Below.mono T.out (Nat.le_refl _))) HR2.out).mono ?_
        rintro e W5 ⟨rfl, hb⟩
        have hbd := zH (hb.mono T.out.size)
        replace T := zH (bThen T.out hb)
        clear hb HR2
        go_wp2_with fail
        refine ⟨hbd.out, ?_⟩
        clear hbd
        refine WTq 5 ?_; apply Exists.intro; refine ⟨fun w1 hb1 => ?_, ?_⟩; (focus ((have hb1 := zH hb1; go_simp); (try (go_bits; try go_simp)); (try (rw [if_pos (by omega)]; try go_simp)); (first | done | (with_reducible rfl) | exact rfl)))
        simp only [Act.put, zzT, zzO, zzS]
        refine WT_done (by kernel_rfl) ?_
        replace K3 := zH (K3.out.to T.out)
        replace K6 := zH (K6.out.to T.out)
        replace KN := zH (KN.out.to T.out)
        replace K10 := zH (K10.out.to T.out)
        replace HRR := zH (HRR.out.to T.out)
        replace HB := zH (bThen HB.out T.out)
        clear T HC2 HI2
        by_cases g2 : 0 ≤ c2
        · rw [if_pos g2] at HPV
          obtain rfl : pv = false := HPV.out
          obtain ⟨-, kn, fn⟩ := KN.out
          have kn2 := (KN.out.set 1 (.bool false)).2.1
          obtain ⟨hs6, k6, f6⟩ := K6.out.other (p := ⟨BN, 1, none⟩) (fun e => NE6.out e.symm) (.bool false)
          go_wp2_with fail
          have F := (((K6.out.other (p := ⟨BN, 1, none⟩) (fun e => NE6.out e.symm) (.bool false))).set 0 (.int .i64 m)).set 1 (.bool false)
          have F0 := F.2.1 0
          have F1 := F.2.1 1
          clear F k6 f6
          refine bodyPost_ret (v := .tuple #[.agg #[.int .i64 m, .bool false], .bool true]) ?_ rfl ⟨rfl, ?_⟩
          · simp [results, Tryz.results32, go_sem, F0, F1]
          · exact ((HB.out.setCell (p := ⟨BN, 1, none⟩) NB.out _).setCell (p := ⟨w.heap.size + 1 + 1, 0, none⟩) (by simp; omega) _).setCell (p := ⟨w.heap.size + 1 + 1, 1, none⟩) (by simp; omega) _
        · rw [if_neg g2] at HPV
          obtain rfl : pv = true := HPV.out
          obtain ⟨-, kn, fn⟩ := KN.out
          obtain ⟨hs6, k6, f6⟩ := K6.out
          go_wp2_with fail
          have F := (K6.out.set 0 (.int .i64 m)).set 1 (.bool true)
          have F0 := F.2.1 0
          have F1 := F.2.1 1
          clear F k6 f6
          refine bodyPost_ret (v := .tuple #[.agg #[.int .i64 m, .bool true], .bool true]) ?_ rfl ⟨rfl, ?_⟩
          · simp [results, Tryz.results32, go_sem, F0, F1]
          · exact (HB.out.setCell (p := ⟨w.heap.size + 1 + 1, 0, none⟩) (by simp; omega) _).setCell (p := ⟨w.heap.size + 1 + 1, 1, none⟩) (by simp; omega) _
end
end Go.Proofs.YtjfedpblkejmkaaGreat
