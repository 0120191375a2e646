/-
  Texts of this claim, in their build order: OT4 OT5 OT1 OT7 OR10 OR12 OT6.
-/
import Derived.Test.YtbpcapcgbnbknaaGreatOne46
import Derived.Test.YtbpcapcgbnbknaaGreatOne25
import Derived.Test.YtbpcapcgbnbknaaGreatOne42
import Derived.Test.YtbpcapcgbnbknaaGreatOne47
import Derived.Test.YtbpcapcgbnbknaaGreatOne38
import Derived.Test.YtbpcapcgbnbknaaGreatOne5
import Derived.Test.YtbpcapcgbnbknaaGreatOne32
import Derived.Test.YtbpcapcgbnbknaaGreatOne3
import Derived.Test.YtbpcapcgbnbknaaGreatOne4
import Derived.Test.YtbpcapcgbnbknaaGreatOne44
import Derived.Test.YtbpcapcgbnbknaaGreatOne23
import Derived.Test.YtbpcapcgbnbknaaGreatOne28
import Derived.Test.YtbpcapcgbnbknaaGreatOne26
import Derived.Test.YtbpcapcgbnbknaaGreatOne43
import Derived.Test.YtbpcapcgbnbknaaGreatOne37
import Derived.Test.YtbpcapcgbnbknaaGreatOne40
import Derived.Test.YtbpcapcgbnbknaaGreatOne0

namespace Go.Proofs.YtbpcapcgbnbknaaGreat
section
open Go.RowKit
attribute [local go_sem] Oper.semAt_some

theorem cmp_sm {p q : Int × Int} (W : World) (hp : SmF p) (hq : SmF q) :
    Calls Tryz.prog 84 #[.agg #[.int .i64 p.1, .int .i64 p.2], .agg #[.int .i64 q.1, .int .i64 q.2]] W fun e w' => e = .returned (.int .i64 (cmpQ p q)) ∧ Below W.heap.size W w' :=
  bCmp_any p q W ⟨hp.n0, hp.n1⟩ ⟨by have := hp.d0; omega, hp.d1⟩ ⟨hq.n0, hq.n1⟩ ⟨by have := hq.d0; omega, hq.d1⟩

set_option maxHeartbeats 6400000 in
set_option maxRecDepth 100000 in
theorem above_any (p : Plt) (run : List OSt) (lim : Int) (a ar : Option Addr) (cap cr : Nat) (w : World) (h0 : (chP p).2 = 0) (hrun : ∀ k, k < run.length → StOk p (sg run k)) (hlim : 0 ≤ lim ∧ lim ≤ 1000) (hlen : run.length ≤ 1000) (hr : Reads w a (p.pts.length * 2) (fracs p.pts)) (hrr : Reads w ar (run.length * 2) (osts run)) :
    Calls Tryz.prog 28 #[.agg (plC p a cap), .slice ar run.length cr, .int .i64 lim] w fun e w' => e = .returned (.bool (run.all fun x => !blwQ p lim x)) ∧ Below w.heap.size w w' := by
  have HSE := zH (fun W (x : OSt) (hb : Below w.heap.size w W) => rStateErr_any p x a cap W (by have := (chP_ok h0).pts.two; omega) (by have := (chP_ok h0).pts.few; omega) (hr.to hb))
  have HCPY := zH (fun W (hb : Below w.heap.size w W) => rCopyPlant_any p a cap W (by have := (chP_ok h0).pts.few; omega) (hr.to hb))
  have HPA := zH (fun W a1 c1 (x : Int) h1 => PressureAt_any p x a1 c1 W (by have := (chP_ok h0).pts.few; omega) h1)
  have HONE := zH (fun k (hk : k < run.length) => abv_one (lim := lim) h0 (hrun k hk))
  have HRR := zH hrr
  have HSL := zH (show SmF (lim, 1) from ⟨by dsimp only; omega, by dsimp only; omega, by dsimp only; omega, by dsimp only; omega⟩)
  have HT := zH (fun h => all_sgT (q := blwQ p lim) (l := run) h)
  have HF := zH (fun k hk h => all_sgF (q := blwQ p lim) (l := run) (k := k) hk h)
  obtain ⟨rb, hrb⟩ : ∃ b, run.all (fun x => !blwQ p lim x) = b := ⟨_, rfl⟩
  rw [hrb] at HT HF ⊢
  obtain ⟨m, hm⟩ : ∃ n, p.pts.length = n := ⟨_, rfl⟩
  obtain ⟨n, hn⟩ : ∃ n, run.length = n := ⟨_, rfl⟩
  have HM := zH hm
  rw [hn] at HONE HRR HT HF hlen ⊢
  unfold plC at HSE HCPY HPA ⊢
  rw [hm] at HSE HCPY HPA ⊢
  clear hrb hm hn hr hrr hrun h0 hlim
  go_enter Tryz.func28, Tryz.ntmps28
  go_wp2_with fail
  obtain ⟨W, hW⟩ : ∃ W, w.alloc (.cells #[.slice a m cap, .int .i64 p.pump, .int .i64 p.on, .int .i64 p.off] 51) = W := ⟨_, rfl⟩
  rw [hW]
  have K3 : Hid (Blk W w.heap.size #[.slice a m cap, .int .i64 p.pump, .int .i64 p.on, .int .i64 p.off]) := by subst hW; exact zH (Blk.new _ _ _)
  have HB : Hid (Below w.heap.size w W) := by subst hW; exact zH (bAlloc (bSelf w) _)
  replace HRR := zH (HRR.out.to HB.out)
  clear hW
  go_loopw [7, 8, 9] (fun s7 _ _ wr => ∃ k : Nat, s7 = .int .i64 k ∧ k ≤ n ∧ Hid (∀ j, j < k → blwQ p lim (sg run j) = false) ∧ Hid (Below W.heap.size W wr)) (fun s7 _ _ _ => n - (intOf s7).toNat)
  case atStart => exact ⟨0, rfl, Nat.zero_le _, zH (fun j hj => by omega), zH (bSelf _)⟩
  case round =>
    obtain ⟨k, rfl, hk, HP, HR0⟩ := hrel
    by_cases hlt : k < n
    · obtain ⟨g, go, rfl, hg, hgc⟩ := HRR.out.at (k := k * 2) (by omega)
      obtain ⟨⟨n1, d1⟩, hz⟩ : ∃ q, sg run k = q := ⟨_, rfl⟩
      have E0 : Hid (W.cell? ⟨g, go + k * 2, none⟩ = some (.int .i64 n1)) := zH (by rw [hgc _ (by omega), osts0, hz])
      have E1 : Hid (W.cell? ⟨g, go + k * 2 + 1, none⟩ = some (.bool d1)) := zH (by rw [Nat.add_assoc, hgc _ (by omega), osts1, hz])
      obtain ⟨e1, e2, e3, e4, e5⟩ := HONE.out k hlt
      have HFK := zH (HF.out k hlt)
      have HZ := zH hz
      rw [hz] at e1 e2 e3 e4 e5 HFK
      have HS1 := zH (fun W hb => HSE.out W (n1, d1) hb)
      have HP1 := zH (fun W a1 c1 h => HPA.out W a1 c1 n1 h)
      dsimp only at e1 e2 e3 e4 e5 HS1
      obtain ⟨⟨p1, p2⟩, hpq⟩ : ∃ q, prsR p n1 = q := ⟨_, rfl⟩
      rw [e1] at HS1
      rw [e2, hpq] at HP1
      rw [hpq] at e3 e4 e5
      have HCM := zH (fun W => cmp_sm W e3 HSL.out)
      obtain ⟨cq, hcq⟩ : ∃ x, cmpQ (p1, p2) (lim, 1) = x := ⟨_, rfl⟩
      rw [hcq] at HCM e5
      dsimp only at HCM HP1 e4
      have HQ : Hid ((p2 ≤ 0) = False) := zH (by simp; omega)
      have HE5 := zH e5
      clear hgc hz hpq hcq e1 e2 e3 e5 HONE
      have HB1 := zH (bThen HB.out HR0.out)
      have K31 := zH (K3.out.to HR0.out)
      obtain ⟨wo, hwo⟩ : ∃ wo, wo = wr := ⟨_, rfl⟩
      subst hwo
      go_wp2_with fail
      refine wp_region_quiet_all (fun w' => Below (World.heap wo).size (wo) w') (by kernel_rfl) (by kernel_rfl) (Below.refl _ _).drew ?_
      refine WQ.out ?_
      repeat (first | (refine WQ_no (by rfl) ?_; (simp only [Act.put, zzT, zzO, zzS])) | (refine WQ_yes (by rfl) ?_; apply Exists.intro; refine ⟨fun w1 hb1 => ?_, ?_⟩; (focus (((obtain ⟨-, k3, -⟩ := K31.out.to hb1; have e0 := ((HR0.out.trans (hb1.mono HR0.out.size)).cell (p := ⟨g, go + k * 2, none⟩) hg).trans E0.out; have e1 := ((HR0.out.trans (hb1.mono HR0.out.size)).cell (p := ⟨g, go + k * 2 + 1, none⟩) hg).trans E1.out); have hb1 := zH hb1; go_simp); (try (go_bits; try go_simp)); (try (rw [if_pos (by omega)]; try go_simp)); (first | done | ((go_at_call 21; refine (HS1.out _ (bThen HB1.out hb1.out)).mono ?_; rintro e w' ⟨rfl, hb⟩; exact ⟨rfl, bThen hb1.out hb⟩)) | (with_reducible rfl) | exact rfl))); (simp only [Act.put, zzT, zzO, zzS])))
      refine WQ_nil ?_
      intro w1 hb1
      replace HR0 := zH (bThen HR0.out hb1)
      replace HB1 := zH (bThen HB1.out hb1)
      replace K31 := zH (K31.out.to hb1)
      clear hb1 HS1 E1
      obtain ⟨wp, hwp⟩ : ∃ wo, wo = w1 := ⟨_, rfl⟩
      subst hwp
      go_wp2_with fail
      refine wp_region_tree (by kernel_rfl) (fun wd hwd => ?_)
      have T := zH hwd
      clear hwd
      refine WTq 0 ?_; apply Exists.intro; refine ⟨fun w1 hb1 => ?_, ?_⟩; (focus (((obtain ⟨-, k3, -⟩ := K31.out.to (T.out.trans hb1)); have hb1 := zH hb1; go_simp); (try (go_bits; try go_simp)); (try (rw [if_pos (by omega)]; try go_simp)); (first | done | (with_reducible rfl) | exact rfl)))
      simp only [Act.put, zzT, zzO, zzS]
      refine WTq 2 ?_; apply Exists.intro; refine ⟨fun w1 hb1 => ?_, ?_⟩; (focus ((have hb1 := zH hb1; go_simp); (try (go_bits; try go_simp)); (try (rw [if_pos (by omega)]; try go_simp)); (first | done | (with_reducible rfl) | exact rfl)))
      simp only [Act.put, zzT, zzO, zzS]
      refine WTq 3 ?_; apply Exists.intro; refine ⟨fun w1 hb1 => ?_, ?_⟩; (focus ((have hb1 := zH hb1; go_simp); (try (go_bits; try go_simp)); (try (rw [if_pos (by omega)]; try go_simp)); (first | done | (with_reducible rfl) | exact rfl)))
      simp only [Act.put, zzT, zzO, zzS]
      refine WTq 4 ?_; apply Exists.intro; refine ⟨fun w1 hb1 => ?_, ?_⟩; (focus ((have hb1 := zH hb1; go_simp); (try (go_bits; try go_simp)); (try (rw [if_pos (by omega)]; try go_simp)); (first | done | (with_reducible rfl) | exact rfl)))
      simp only [Act.put, zzT, zzO, zzS]
      refine WTq 5 ?_; apply Exists.intro; refine ⟨fun w1 hb1 => ?_, ?_⟩; (focus ((have hb1 := zH hb1; go_simp); (try (go_bits; try go_simp)); (try (rw [if_pos (by omega)]; try go_simp)); (first | done | (with_reducible rfl) | exact rfl)))
      simp only [Act.put, zzT, zzO, zzS]
      refine WTq 6 ?_; apply Exists.intro; refine ⟨fun w1 hb1 => ?_, ?_⟩; (focus (((have e0 := (((HR0.out.trans (T.out.mono HR0.out.size)).trans (hb1.mono (by have := T.out.size; have := HR0.out.size; omega))).cell (p := ⟨g, go + k * 2, none⟩) hg).trans E0.out); have hb1 := zH hb1; go_simp); (try (go_bits; try go_simp)); (try (rw [if_pos (by omega)]; try go_simp)); (first | done | (with_reducible rfl) | exact rfl)))
      simp only [Act.put, zzT, zzO, zzS]
      refine WT_two 1 11 rfl rfl (by kernel_rfl) ?_ ?_
      · unfold stepT
        go_wp2_with fail
        refine (HCPY.out _ (bThen HB1.out T.out)).mono ?_
        rintro e u1 ⟨a1, c1, rfl, -, hr1, hb, -⟩
        have HR1 := zH hr1
        clear hr1
        unfold plC
        rw [HM.out] at HR1 ⊢
        have hbd := zH (hb.mono T.out.size)
        replace T := zH (bThen T.out hb)
        clear hb
        go_wp2_with fail
        refine ⟨hbd.out, ?_⟩
        clear hbd
        refine WT_two 7 11 rfl rfl (by kernel_rfl) ?_ ?_
        · unfold stepT
          go_wp2_with fail
          refine (HP1.out _ _ _ HR1.out).mono ?_
          rintro e u2 ⟨rfl, hb⟩
          replace HR1 := zH (HR1.out.to hb)
          have hbd := zH (hb.mono T.out.size)
          replace T := zH (bThen T.out hb)
          clear hb
          go_wp2_with fail
          refine ⟨hbd.out, ?_⟩
          clear hbd
          refine WTq 8 ?_; apply Exists.intro; refine ⟨fun w1 hb1 => ?_, ?_⟩; (focus ((have hb1 := zH hb1; go_simp); (try (go_bits; try go_simp)); (try (rw [if_pos (by omega)]; try go_simp)); (first | done | (with_reducible rfl) | exact rfl)))
          simp only [Act.put, zzT, zzO, zzS]
          refine WTq 9 ?_; apply Exists.intro; refine ⟨fun w1 hb1 => ?_, ?_⟩; (focus ((have hb1 := zH hb1; go_simp); (try (go_bits; try go_simp)); (try (rw [if_pos (by omega)]; try go_simp)); (first | done | (with_reducible rfl) | exact rfl)))
          simp only [Act.put, zzT, zzO, zzS]
          refine WTq 10 ?_; apply Exists.intro; refine ⟨fun w1 hb1 => ?_, ?_⟩; (focus ((have hb1 := zH hb1; go_simp); (try (go_bits; try go_simp)); (try (rw [if_pos (by omega)]; try go_simp)); (first | done | (with_reducible rfl) | exact rfl)))
          simp only [Act.put, zzT, zzO, zzS]
          refine WT_one 11 rfl (by kernel_rfl) ?_
          unfold stepT
          go_wp2_with fail
          obtain ⟨u3, hwA⟩ : ∃ wA, u2.alloc (.cells #[.int .i64 0, .int .i64 0] 77) = wA := ⟨_, rfl⟩
          rw [hwA]
          have hb : Below u2.heap.size u2 u3 := by subst hwA; exact bAlloc (bSelf _) _
          replace HR1 := zH (HR1.out.to hb)
          have KBN : Hid (Blk u3 u2.heap.size #[.int .i64 0, .int .i64 0]) := by subst hwA; exact Blk.new _ _ _
          clear hwA
          have BNN : Hid (wp.heap.size ≤ u2.heap.size) := zH T.out.size
          obtain ⟨BN, hBN⟩ : ∃ N, u2.heap.size = N := ⟨_, rfl⟩
          have hbd := zH (hb.mono T.out.size)
          replace T := zH (bThen T.out hb)
          clear hb
          rw [hBN] at KBN BNN  ⊢
          clear hBN
          refine ⟨hbd.out, ?_⟩
          clear hbd
          refine WT_one 12 rfl (by kernel_rfl) ?_
          unfold stepT
          obtain ⟨-, kx, fx⟩ := KBN.out
          go_wp2_with fail
          clear kx fx
          obtain ⟨u4, hu⟩ : ∃ u, (u3.setCell ⟨BN, 0, none⟩ (.int .i64 p1)).setCell ⟨BN, 1, none⟩ (.int .i64 p2) = u := ⟨_, rfl⟩
          have hb : Below wp.heap.size u3 u4 := by rw [← hu]; exact ((Below.refl _ _).setCell (p := ⟨BN, 0, none⟩) BNN.out _).setCell (p := ⟨BN, 1, none⟩) BNN.out _
          replace KBN := zH ((KBN.out.set 0 (.int .i64 p1)).set 1 (.int .i64 p2))
          rw [hu] at KBN ⊢
          clear hu
          replace T := zH (T.out.trans hb)
          refine ⟨hb, ?_⟩
          clear hb
          refine WTq 13 ?_; apply Exists.intro; refine ⟨fun w1 hb1 => ?_, ?_⟩; (focus ((have hb1 := zH hb1; go_simp); (try (go_bits; try go_simp)); (try (rw [if_pos (by omega)]; try go_simp)); (first | done | (with_reducible rfl) | exact rfl)))
          simp only [Act.put, zzT, zzO, zzS]
          refine WT_done (by kernel_rfl) ?_
          replace HR0 := zH (HR0.out.trans (T.out.mono HR0.out.size))
          clear T
          obtain ⟨wv, hwv⟩ : ∃ wv, wv = u4 := ⟨_, rfl⟩
          subst hwv
          by_cases hc : cq < 0
          · have hb0 : blwQ p lim (n1, d1) = true := by rw [← HE5.out]; exact decide_eq_true hc
            obtain rfl := HFK.out hb0
            clear hb0 HFK HE5
            go_wp2_with fail
            refine wp_region_quiet_all (fun w' => Below (World.heap wv).size (wv) w') (by kernel_rfl) (by kernel_rfl) (Below.refl _ _).drew ?_
            refine WQ.out ?_
            repeat (first | (refine WQ_no (by rfl) ?_; (simp only [Act.put, zzT, zzO, zzS])) | (refine WQ_yes (by rfl) ?_; apply Exists.intro; refine ⟨fun w1 hb1 => ?_, ?_⟩; (focus (((obtain ⟨-, kn, -⟩ := KBN.out.to hb1; have e4q := HQ.out); have hb1 := zH hb1; go_simp); (try (go_bits; try go_simp)); (try (rw [if_pos (by omega)]; try go_simp)); (first | done | ((first | (go_at_call 72; refine (oWhole_any lim _).mono ?_; rintro e w' ⟨rfl, hb⟩; exact ⟨rfl, bThen hb1.out hb⟩) | (go_at_call 84; refine (HCM.out _).mono ?_; rintro e w' ⟨rfl, hb⟩; exact ⟨rfl, bThen hb1.out hb⟩))) | (with_reducible rfl) | exact rfl))); (simp only [Act.put, zzT, zzO, zzS])))
            refine WQ_nil ?_
            intro w1 hb1
            go_wp2_with fail
            go_ret
            exact ⟨rfl, bThen HB.out (bThen HR0.out hb1)⟩
          · have hb0 : blwQ p lim (n1, d1) = false := by rw [← HE5.out]; exact decide_eq_false hc
            have HB0 := zH hb0
            clear hb0 HFK HE5
            go_wp2_with fail
            refine wp_region_quiet_all (fun w' => Below (World.heap wv).size (wv) w') (by kernel_rfl) (by kernel_rfl) (Below.refl _ _).drew ?_
            refine WQ.out ?_
            repeat (first | (refine WQ_no (by rfl) ?_; (simp only [Act.put, zzT, zzO, zzS])) | (refine WQ_yes (by rfl) ?_; apply Exists.intro; refine ⟨fun w1 hb1 => ?_, ?_⟩; (focus (((obtain ⟨-, kn, -⟩ := KBN.out.to hb1; have e4q := HQ.out); have hb1 := zH hb1; go_simp); (try (go_bits; try go_simp)); (try (rw [if_pos (by omega)]; try go_simp)); (first | done | ((first | (go_at_call 72; refine (oWhole_any lim _).mono ?_; rintro e w' ⟨rfl, hb⟩; exact ⟨rfl, bThen hb1.out hb⟩) | (go_at_call 84; refine (HCM.out _).mono ?_; rintro e w' ⟨rfl, hb⟩; exact ⟨rfl, bThen hb1.out hb⟩))) | (with_reducible rfl) | exact rfl))); (simp only [Act.put, zzT, zzO, zzS])))
            refine WQ_nil ?_
            intro w1 hb1
            replace HR0 := zH (bThen HR0.out hb1)
            clear hb1
            go_wp2_with fail
            go_roundw
            case rel =>
              refine ⟨k + 1, by go_num, by omega, zH (fun j hj => ?_), HR0⟩
              by_cases h : j = k
              · subst h; rw [HZ.out]; exact HB0.out
              · exact HP.out j (by omega)
            case measure => simp [intOf]; omega
        · unfold stepT
          go_wp2_with fail
          obtain ⟨u2, hwA⟩ : ∃ wA, u1.alloc (.cells #[.int .i64 0, .int .i64 0] 77) = wA := ⟨_, rfl⟩
          rw [hwA]
          have hb : Below u1.heap.size u1 u2 := by subst hwA; exact bAlloc (bSelf _) _
          replace HR1 := zH (HR1.out.to hb)
          have KBN : Hid (Blk u2 u1.heap.size #[.int .i64 0, .int .i64 0]) := by subst hwA; exact Blk.new _ _ _
          clear hwA
          have BNN : Hid (wp.heap.size ≤ u1.heap.size) := zH T.out.size
          obtain ⟨BN, hBN⟩ : ∃ N, u1.heap.size = N := ⟨_, rfl⟩
          have hbd := zH (hb.mono T.out.size)
          replace T := zH (bThen T.out hb)
          clear hb
          rw [hBN] at KBN BNN  ⊢
          clear hBN
          refine ⟨hbd.out, ?_⟩
          clear hbd
          refine WT_one 7 rfl (by kernel_rfl) ?_
          unfold stepT
          go_wp2_with fail
          refine (HP1.out _ _ _ HR1.out).mono ?_
          rintro e u3 ⟨rfl, hb⟩
          replace KBN := zH (KBN.out.to hb)
          replace HR1 := zH (HR1.out.to hb)
          have hbd := zH (hb.mono T.out.size)
          replace T := zH (bThen T.out hb)
          clear hb
          go_wp2_with fail
          refine ⟨hbd.out, ?_⟩
          clear hbd
          refine WTq 8 ?_; apply Exists.intro; refine ⟨fun w1 hb1 => ?_, ?_⟩; (focus ((have hb1 := zH hb1; go_simp); (try (go_bits; try go_simp)); (try (rw [if_pos (by omega)]; try go_simp)); (first | done | (with_reducible rfl) | exact rfl)))
          simp only [Act.put, zzT, zzO, zzS]
          refine WTq 9 ?_; apply Exists.intro; refine ⟨fun w1 hb1 => ?_, ?_⟩; (focus ((have hb1 := zH hb1; go_simp); (try (go_bits; try go_simp)); (try (rw [if_pos (by omega)]; try go_simp)); (first | done | (with_reducible rfl) | exact rfl)))
          simp only [Act.put, zzT, zzO, zzS]
          refine WTq 10 ?_; apply Exists.intro; refine ⟨fun w1 hb1 => ?_, ?_⟩; (focus ((have hb1 := zH hb1; go_simp); (try (go_bits; try go_simp)); (try (rw [if_pos (by omega)]; try go_simp)); (first | done | (with_reducible rfl) | exact rfl)))
          simp only [Act.put, zzT, zzO, zzS]
          refine WT_one 12 rfl (by kernel_rfl) ?_
          unfold stepT
          obtain ⟨-, kx, fx⟩ := KBN.out
          go_wp2_with fail
          clear kx fx
          obtain ⟨u4, hu⟩ : ∃ u, (u3.setCell ⟨BN, 0, none⟩ (.int .i64 p1)).setCell ⟨BN, 1, none⟩ (.int .i64 p2) = u := ⟨_, rfl⟩
          have hb : Below wp.heap.size u3 u4 := by rw [← hu]; exact ((Below.refl _ _).setCell (p := ⟨BN, 0, none⟩) BNN.out _).setCell (p := ⟨BN, 1, none⟩) BNN.out _
          replace KBN := zH ((KBN.out.set 0 (.int .i64 p1)).set 1 (.int .i64 p2))
          rw [hu] at KBN ⊢
          clear hu
          replace T := zH (T.out.trans hb)
          refine ⟨hb, ?_⟩
          clear hb
          refine WTq 13 ?_; apply Exists.intro; refine ⟨fun w1 hb1 => ?_, ?_⟩; (focus ((have hb1 := zH hb1; go_simp); (try (go_bits; try go_simp)); (try (rw [if_pos (by omega)]; try go_simp)); (first | done | (with_reducible rfl) | exact rfl)))
          simp only [Act.put, zzT, zzO, zzS]
          refine WT_done (by kernel_rfl) ?_
          replace HR0 := zH (HR0.out.trans (T.out.mono HR0.out.size))
          clear T
          obtain ⟨wv, hwv⟩ : ∃ wv, wv = u4 := ⟨_, rfl⟩
          subst hwv
          by_cases hc : cq < 0
          · have hb0 : blwQ p lim (n1, d1) = true := by rw [← HE5.out]; exact decide_eq_true hc
            obtain rfl := HFK.out hb0
            clear hb0 HFK HE5
            go_wp2_with fail
            refine wp_region_quiet_all (fun w' => Below (World.heap wv).size (wv) w') (by kernel_rfl) (by kernel_rfl) (Below.refl _ _).drew ?_
            refine WQ.out ?_
            repeat (first | (refine WQ_no (by rfl) ?_; (simp only [Act.put, zzT, zzO, zzS])) | (refine WQ_yes (by rfl) ?_; apply Exists.intro; refine ⟨fun w1 hb1 => ?_, ?_⟩; (focus (((obtain ⟨-, kn, -⟩ := KBN.out.to hb1; have e4q := HQ.out); have hb1 := zH hb1; go_simp); (try (go_bits; try go_simp)); (try (rw [if_pos (by omega)]; try go_simp)); (first | done | ((first | (go_at_call 72; refine (oWhole_any lim _).mono ?_; rintro e w' ⟨rfl, hb⟩; exact ⟨rfl, bThen hb1.out hb⟩) | (go_at_call 84; refine (HCM.out _).mono ?_; rintro e w' ⟨rfl, hb⟩; exact ⟨rfl, bThen hb1.out hb⟩))) | (with_reducible rfl) | exact rfl))); (simp only [Act.put, zzT, zzO, zzS])))
            refine WQ_nil ?_
            intro w1 hb1
            go_wp2_with fail
            go_ret
            exact ⟨rfl, bThen HB.out (bThen HR0.out hb1)⟩
          · have hb0 : blwQ p lim (n1, d1) = false := by rw [← HE5.out]; exact decide_eq_false hc
            have HB0 := zH hb0
            clear hb0 HFK HE5
            go_wp2_with fail
            refine wp_region_quiet_all (fun w' => Below (World.heap wv).size (wv) w') (by kernel_rfl) (by kernel_rfl) (Below.refl _ _).drew ?_
            refine WQ.out ?_
            repeat (first | (refine WQ_no (by rfl) ?_; (simp only [Act.put, zzT, zzO, zzS])) | (refine WQ_yes (by rfl) ?_; apply Exists.intro; refine ⟨fun w1 hb1 => ?_, ?_⟩; (focus (((obtain ⟨-, kn, -⟩ := KBN.out.to hb1; have e4q := HQ.out); have hb1 := zH hb1; go_simp); (try (go_bits; try go_simp)); (try (rw [if_pos (by omega)]; try go_simp)); (first | done | ((first | (go_at_call 72; refine (oWhole_any lim _).mono ?_; rintro e w' ⟨rfl, hb⟩; exact ⟨rfl, bThen hb1.out hb⟩) | (go_at_call 84; refine (HCM.out _).mono ?_; rintro e w' ⟨rfl, hb⟩; exact ⟨rfl, bThen hb1.out hb⟩))) | (with_reducible rfl) | exact rfl))); (simp only [Act.put, zzT, zzO, zzS])))
            refine WQ_nil ?_
            intro w1 hb1
            replace HR0 := zH (bThen HR0.out hb1)
            clear hb1
            go_wp2_with fail
            go_roundw
            case rel =>
              refine ⟨k + 1, by go_num, by omega, zH (fun j hj => ?_), HR0⟩
              by_cases h : j = k
              · subst h; rw [HZ.out]; exact HB0.out
              · exact HP.out j (by omega)
            case measure => simp [intOf]; omega
      · unfold stepT
        go_wp2_with fail
        obtain ⟨u1, hwA⟩ : ∃ wA, wd.alloc (.cells #[.int .i64 0, .int .i64 0] 77) = wA := ⟨_, rfl⟩
        rw [hwA]
        have hb : Below wd.heap.size wd u1 := by subst hwA; exact bAlloc (bSelf _) _
        have KBN : Hid (Blk u1 wd.heap.size #[.int .i64 0, .int .i64 0]) := by subst hwA; exact Blk.new _ _ _
        clear hwA
        have BNN : Hid (wp.heap.size ≤ wd.heap.size) := zH T.out.size
        obtain ⟨BN, hBN⟩ : ∃ N, wd.heap.size = N := ⟨_, rfl⟩
        have hbd := zH (hb.mono T.out.size)
        replace T := zH (bThen T.out hb)
        clear hb
        rw [hBN] at KBN BNN  ⊢
        clear hBN
        refine ⟨hbd.out, ?_⟩
        clear hbd
        refine WT_one 1 rfl (by kernel_rfl) ?_
        unfold stepT
        go_wp2_with fail
        refine (HCPY.out _ (bThen HB1.out T.out)).mono ?_
        rintro e u2 ⟨a1, c1, rfl, -, hr1, hb, -⟩
        replace KBN := zH (KBN.out.to hb)
        have HR1 := zH hr1
        clear hr1
        unfold plC
        rw [HM.out] at HR1 ⊢
        have hbd := zH (hb.mono T.out.size)
        replace T := zH (bThen T.out hb)
        clear hb
        go_wp2_with fail
        refine ⟨hbd.out, ?_⟩
        clear hbd
        refine WT_one 7 rfl (by kernel_rfl) ?_
        unfold stepT
        go_wp2_with fail
        refine (HP1.out _ _ _ HR1.out).mono ?_
        rintro e u3 ⟨rfl, hb⟩
        replace KBN := zH (KBN.out.to hb)
        replace HR1 := zH (HR1.out.to hb)
        have hbd := zH (hb.mono T.out.size)
        replace T := zH (bThen T.out hb)
        clear hb
        go_wp2_with fail
        refine ⟨hbd.out, ?_⟩
        clear hbd
        refine WTq 8 ?_; apply Exists.intro; refine ⟨fun w1 hb1 => ?_, ?_⟩; (focus ((have hb1 := zH hb1; go_simp); (try (go_bits; try go_simp)); (try (rw [if_pos (by omega)]; try go_simp)); (first | done | (with_reducible rfl) | exact rfl)))
        simp only [Act.put, zzT, zzO, zzS]
        refine WTq 9 ?_; apply Exists.intro; refine ⟨fun w1 hb1 => ?_, ?_⟩; (focus ((have hb1 := zH hb1; go_simp); (try (go_bits; try go_simp)); (try (rw [if_pos (by omega)]; try go_simp)); (first | done | (with_reducible rfl) | exact rfl)))
        simp only [Act.put, zzT, zzO, zzS]
        refine WTq 10 ?_; apply Exists.intro; refine ⟨fun w1 hb1 => ?_, ?_⟩; (focus ((have hb1 := zH hb1; go_simp); (try (go_bits; try go_simp)); (try (rw [if_pos (by omega)]; try go_simp)); (first | done | (with_reducible rfl) | exact rfl)))
        simp only [Act.put, zzT, zzO, zzS]
        refine WT_one 12 rfl (by kernel_rfl) ?_
        unfold stepT
        obtain ⟨-, kx, fx⟩ := KBN.out
        go_wp2_with fail
        clear kx fx
        obtain ⟨u4, hu⟩ : ∃ u, (u3.setCell ⟨BN, 0, none⟩ (.int .i64 p1)).setCell ⟨BN, 1, none⟩ (.int .i64 p2) = u := ⟨_, rfl⟩
        have hb : Below wp.heap.size u3 u4 := by rw [← hu]; exact ((Below.refl _ _).setCell (p := ⟨BN, 0, none⟩) BNN.out _).setCell (p := ⟨BN, 1, none⟩) BNN.out _
        replace KBN := zH ((KBN.out.set 0 (.int .i64 p1)).set 1 (.int .i64 p2))
        rw [hu] at KBN ⊢
        clear hu
        replace T := zH (T.out.trans hb)
        refine ⟨hb, ?_⟩
        clear hb
        refine WTq 13 ?_; apply Exists.intro; refine ⟨fun w1 hb1 => ?_, ?_⟩; (focus ((have hb1 := zH hb1; go_simp); (try (go_bits; try go_simp)); (try (rw [if_pos (by omega)]; try go_simp)); (first | done | (with_reducible rfl) | exact rfl)))
        simp only [Act.put, zzT, zzO, zzS]
        refine WT_done (by kernel_rfl) ?_
        replace HR0 := zH (HR0.out.trans (T.out.mono HR0.out.size))
        clear T
        obtain ⟨wv, hwv⟩ : ∃ wv, wv = u4 := ⟨_, rfl⟩
        subst hwv
        by_cases hc : cq < 0
        · have hb0 : blwQ p lim (n1, d1) = true := by rw [← HE5.out]; exact decide_eq_true hc
          obtain rfl := HFK.out hb0
          clear hb0 HFK HE5
          go_wp2_with fail
          refine wp_region_quiet_all (fun w' => Below (World.heap wv).size (wv) w') (by kernel_rfl) (by kernel_rfl) (Below.refl _ _).drew ?_
          refine WQ.out ?_
          repeat (first | (refine WQ_no (by rfl) ?_; (simp only [Act.put, zzT, zzO, zzS])) | (refine WQ_yes (by rfl) ?_; apply Exists.intro; refine ⟨fun w1 hb1 => ?_, ?_⟩; (focus (((obtain ⟨-, kn, -⟩ := KBN.out.to hb1; have e4q := HQ.out); have hb1 := zH hb1; go_simp); (try (go_bits; try go_simp)); (try (rw [if_pos (by omega)]; try go_simp)); (first | done | ((first | (go_at_call 72; refine (oWhole_any lim _).mono ?_; rintro e w' ⟨rfl, hb⟩; exact ⟨rfl, bThen hb1.out hb⟩) | (go_at_call 84; refine (HCM.out _).mono ?_; rintro e w' ⟨rfl, hb⟩; exact ⟨rfl, bThen hb1.out hb⟩))) | (with_reducible rfl) | exact rfl))); (simp only [Act.put, zzT, zzO, zzS])))
          refine WQ_nil ?_
          intro w1 hb1
          go_wp2_with fail
          go_ret
          exact ⟨rfl, bThen HB.out (bThen HR0.out hb1)⟩
        · have hb0 : blwQ p lim (n1, d1) = false := by rw [← HE5.out]; exact decide_eq_false hc
          have HB0 := zH hb0
          clear hb0 HFK HE5
          go_wp2_with fail
          refine wp_region_quiet_all (fun w' => Below (World.heap wv).size (wv) w') (by kernel_rfl) (by kernel_rfl) (Below.refl _ _).drew ?_
          refine WQ.out ?_
          repeat (first | (refine WQ_no (by rfl) ?_; (simp only [Act.put, zzT, zzO, zzS])) | (refine WQ_yes (by rfl) ?_; apply Exists.intro; refine ⟨fun w1 hb1 => ?_, ?_⟩; (focus (((obtain ⟨-, kn, -⟩ := KBN.out.to hb1; have e4q := HQ.out); have hb1 := zH hb1; go_simp); (try (go_bits; try go_simp)); (try (rw [if_pos (by omega)]; try go_simp)); (first | done | ((first | (go_at_call 72; refine (oWhole_any lim _).mono ?_; rintro e w' ⟨rfl, hb⟩; exact ⟨rfl, bThen hb1.out hb⟩) | (go_at_call 84; refine (HCM.out _).mono ?_; rintro e w' ⟨rfl, hb⟩; exact ⟨rfl, bThen hb1.out hb⟩))) | (with_reducible rfl) | exact rfl))); (simp only [Act.put, zzT, zzO, zzS])))
          refine WQ_nil ?_
          intro w1 hb1
          replace HR0 := zH (bThen HR0.out hb1)
          clear hb1
          go_wp2_with fail
          go_roundw
          case rel =>
            refine ⟨k + 1, by go_num, by omega, zH (fun j hj => ?_), HR0⟩
            by_cases h : j = k
            · subst h; rw [HZ.out]; exact HB0.out
            · exact HP.out j (by omega)
          case measure => simp [intOf]; omega
    · obtain rfl : n = k := by omega
      obtain rfl : rb = true := HT.out HP.out
      go_wp2_with fail
      go_ret
      exact ⟨rfl, bThen HB.out HR0.out⟩
end
section
open Go.RowKit
attribute [local go_sem] Oper.semAt_some

theorem xsP_lwtE : lwtE exP (30, false) exC = 0 := by decide
theorem xsP_lwtA : lwtA exP (30, false) exC = (2, 165, 1) := by decide
theorem xsP_wtnE : wtnE exP (30, false) exC 166 = 0 := by decide
theorem xsP_wtnO : wtnO exP (30, false) exC 166 = some [12, 2] := by decide

set_option maxHeartbeats 6400000 in
set_option maxRecDepth 100000 in
theorem oilShown_any (w : World) : Calls Tryz.prog 19 #[] w fun e w' => e = .returned (.bool true) ∧ Below w.heap.size w w' := by
  have HLOW := zH (fun W a ac h1 h2 => LowestIn_any exP (30, false) exC a ac 3 2 W (by decide) (by decide) h2 h1)
  have HWIT := zH (fun W a ac h1 h2 => WitnessOf_any exP (30, false) exC 166 a ac 3 2 W (by decide) (by decide) h2 h1)
  rw [xsP_lwtE, xsP_lwtA] at HLOW
  rw [xsP_wtnE, xsP_wtnO] at HWIT
  simp only [Option.getD_some, List.length_cons, List.length_nil, Nat.reduceAdd, show exP.pts.length = 3 from rfl, show exC.length = 2 from rfl] at HLOW HWIT
  go_enter Tryz.func19, Tryz.ntmps19
  go_wp2_with fail
  refine (Plant_any _).mono ?_
  rintro e w4 ⟨a4, rfl, hr4, hb⟩
  have HB := zH hb
  have H4 := zH hr4
  clear hb hr4
  go_wp2_with fail
  refine (Full_any _).mono ?_
  rintro e w5 ⟨rfl, hb⟩
  replace HB := zH (bThen HB.out hb)
  replace H4 := zH (H4.out.to hb)
  clear hb
  go_wp2_with fail
  refine (Class_any _).mono ?_
  rintro e w6 ⟨a6, rfl, hr6, hb⟩
  replace HB := zH (bThen HB.out hb)
  replace H4 := zH (H4.out.to hb)
  have H6 := zH hr6
  clear hb hr6
  go_wp2_with fail
  refine (HLOW.out _ _ _ H4.out H6.out).mono ?_
  rintro e w7 ⟨rfl, hb⟩
  replace HB := zH (bThen HB.out hb)
  clear hb H4 H6
  go_wp2_with fail
  obtain ⟨W7, hW7⟩ : ∃ W7, w7.alloc (.cells #[.int .i64 165, .int .i64 1] 77) = W7 := ⟨_, rfl⟩
  rw [hW7]
  have hb : Below w7.heap.size w7 W7 := by subst hW7; exact bAlloc (bSelf _) _
  have K4 : Hid (Blk W7 w7.heap.size #[.int .i64 165, .int .i64 1]) := by subst hW7; exact zH (Blk.new _ _ _)
  replace HB := zH (bThen HB.out hb)
  clear hb hW7
  refine (Plant_any _).mono ?_
  rintro e w8 ⟨a8, rfl, hr8, hb⟩
  replace HB := zH (bThen HB.out hb)
  replace K4 := zH (K4.out.to hb)
  have H8 := zH hr8
  clear hb hr8
  go_wp2_with fail
  refine (Full_any _).mono ?_
  rintro e w9 ⟨rfl, hb⟩
  replace HB := zH (bThen HB.out hb)
  replace K4 := zH (K4.out.to hb)
  replace H8 := zH (H8.out.to hb)
  clear hb
  go_wp2_with fail
  refine (Class_any _).mono ?_
  rintro e wa ⟨aa, rfl, hra, hb⟩
  replace HB := zH (bThen HB.out hb)
  replace K4 := zH (K4.out.to hb)
  replace H8 := zH (H8.out.to hb)
  have HA := zH hra
  clear hb hra
  go_wp2_with fail
  refine (HWIT.out _ _ _ H8.out HA.out).mono ?_
  rintro e wb ⟨aw, cw, rfl, -, hrw, hb, -⟩
  replace HB := zH (bThen HB.out hb)
  replace K4 := zH (K4.out.to hb)
  have HW := zH hrw
  clear hb hrw H8 HA HLOW HWIT
  go_wp2_with fail
  refine wp_region_tree (by kernel_rfl) (fun wh hwd => ?_)
  have T := zH hwd
  clear hwd
  refine WTq 0 ?_; apply Exists.intro; refine ⟨fun w1 hb1 => ?_, ?_⟩; (focus ((have hb1 := zH hb1; go_simp); (try (go_bits; try go_simp)); (try (rw [if_pos (by omega)]; try go_simp)); (first | done | (with_reducible rfl) | exact rfl)))
  simp only [Act.put, zzT, zzO, zzS]
  refine WTq 1 ?_; apply Exists.intro; refine ⟨fun w1 hb1 => ?_, ?_⟩; (focus ((have hb1 := zH hb1; go_simp); (try (go_bits; try go_simp)); (try (rw [if_pos (by omega)]; try go_simp)); (first | done | (with_reducible rfl) | exact rfl)))
  simp only [Act.put, zzT, zzO, zzS]
  refine WTq 2 ?_; apply Exists.intro; refine ⟨fun w1 hb1 => ?_, ?_⟩; (focus ((have hb1 := zH hb1; go_simp); (try (go_bits; try go_simp)); (try (rw [if_pos (by omega)]; try go_simp)); (first | done | (with_reducible rfl) | exact rfl)))
  simp only [Act.put, zzT, zzO, zzS]
  refine WTq 3 ?_; apply Exists.intro; refine ⟨fun w1 hb1 => ?_, ?_⟩; (focus ((have hb1 := zH hb1; go_simp); (try (go_bits; try go_simp)); (try (rw [if_pos (by omega)]; try go_simp)); (first | done | (with_reducible rfl) | exact rfl)))
  simp only [Act.put, zzT, zzO, zzS]
  refine WTq 4 ?_; apply Exists.intro; refine ⟨fun w1 hb1 => ?_, ?_⟩; (focus ((have hb1 := zH hb1; go_simp); (try (go_bits; try go_simp)); (try (rw [if_pos (by omega)]; try go_simp)); (first | done | (with_reducible rfl) | exact rfl)))
  simp only [Act.put, zzT, zzO, zzS]
  refine WTq 5 ?_; apply Exists.intro; refine ⟨fun w1 hb1 => ?_, ?_⟩; (focus ((have hb1 := zH hb1; go_simp); (try (go_bits; try go_simp)); (try (rw [if_pos (by omega)]; try go_simp)); (first | done | (with_reducible rfl) | exact rfl)))
  simp only [Act.put, zzT, zzO, zzS]
  refine WTq 6 ?_; apply Exists.intro; refine ⟨fun w1 hb1 => ?_, ?_⟩; (focus ((have hb1 := zH hb1; go_simp); (try (go_bits; try go_simp)); (try (rw [if_pos (by omega)]; try go_simp)); (first | done | (with_reducible rfl) | exact rfl)))
  simp only [Act.put, zzT, zzO, zzS]
  refine WTq 7 ?_; apply Exists.intro; refine ⟨fun w1 hb1 => ?_, ?_⟩; (focus (((obtain ⟨-, k4, -⟩ := K4.out.to (T.out.trans hb1)); have hb1 := zH hb1; go_simp); (try (go_bits; try go_simp)); (try (rw [if_pos (by omega)]; try go_simp)); (first | done | (with_reducible rfl) | exact rfl)))
  simp only [Act.put, zzT, zzO, zzS]
  refine WT_one 8 rfl (by kernel_rfl) ?_
  unfold stepT
  go_wp2_with fail
  refine (oWhole_any 165 _).mono ?_
  rintro e u1 ⟨rfl, hb⟩
  go_wp2_with fail
  have hbd := zH (hb.mono T.out.size)
  replace T := zH (bThen T.out hb)
  refine ⟨hbd.out, ?_⟩
  clear hbd hb
  refine WTq 9 ?_; apply Exists.intro; refine ⟨fun w1 hb1 => ?_, ?_⟩; (focus ((have hb1 := zH hb1; go_simp); (try (go_bits; try go_simp)); (try (rw [if_pos (by omega)]; try go_simp)); (first | done | (with_reducible rfl) | exact rfl)))
  simp only [Act.put, zzT, zzO, zzS]
  refine WTq 10 ?_; apply Exists.intro; refine ⟨fun w1 hb1 => ?_, ?_⟩; (focus ((have hb1 := zH hb1; go_simp); (try (go_bits; try go_simp)); (try (rw [if_pos (by omega)]; try go_simp)); (first | done | (with_reducible rfl) | exact rfl)))
  simp only [Act.put, zzT, zzO, zzS]
  refine WTq 11 ?_; apply Exists.intro; refine ⟨fun w1 hb1 => ?_, ?_⟩; (focus ((have hb1 := zH hb1; go_simp); (try (go_bits; try go_simp)); (try (rw [if_pos (by omega)]; try go_simp)); (first | done | (with_reducible rfl) | exact rfl)))
  simp only [Act.put, zzT, zzO, zzS]
  refine WTq 12 ?_; apply Exists.intro; refine ⟨fun w1 hb1 => ?_, ?_⟩; (focus ((have hb1 := zH hb1; go_simp); (try (go_bits; try go_simp)); (try (rw [if_pos (by omega)]; try go_simp)); (first | done | (with_reducible rfl) | exact rfl)))
  simp only [Act.put, zzT, zzO, zzS]
  refine WTq 13 ?_; apply Exists.intro; refine ⟨fun w1 hb1 => ?_, ?_⟩; (focus ((have hb1 := zH hb1; go_simp); (try (go_bits; try go_simp)); (try (rw [if_pos (by omega)]; try go_simp)); (first | done | (with_reducible rfl) | exact rfl)))
  simp only [Act.put, zzT, zzO, zzS]
  refine WTq 14 ?_; apply Exists.intro; refine ⟨fun w1 hb1 => ?_, ?_⟩; (focus ((have hb1 := zH hb1; go_simp); (try (go_bits; try go_simp)); (try (rw [if_pos (by omega)]; try go_simp)); (first | done | (with_reducible rfl) | exact rfl)))
  simp only [Act.put, zzT, zzO, zzS]
  refine WTq 15 ?_; apply Exists.intro; refine ⟨fun w1 hb1 => ?_, ?_⟩; (focus ((have hb1 := zH hb1; go_simp); (try (go_bits; try go_simp)); (try (rw [if_pos (by omega)]; try go_simp)); (first | done | (with_reducible rfl) | exact rfl)))
  simp only [Act.put, zzT, zzO, zzS]
  refine WTq 16 ?_; apply Exists.intro; refine ⟨fun w1 hb1 => ?_, ?_⟩; (focus ((have hb1 := zH hb1; go_simp); (try (go_bits; try go_simp)); (try (rw [if_pos (by omega)]; try go_simp)); (first | done | (with_reducible rfl) | exact rfl)))
  simp only [Act.put, zzT, zzO, zzS]
  refine WT_one 17 rfl (by kernel_rfl) ?_
  unfold stepT
  go_wp2_with fail
  obtain ⟨u2, hwA⟩ : ∃ wA, u1.alloc (.cells #[.int .i64 12, .int .i64 2] 3) = wA := ⟨_, rfl⟩
  rw [hwA]
  have hb : Below u1.heap.size u1 u2 := by subst hwA; exact bAlloc (bSelf _) _
  have HY : Hid (Reads u2 (some ⟨u1.heap.size, 0, none⟩) 2 (ints [12, 2])) := by subst hwA; exact zH (two_fresh _ _ _ _ rfl)
  clear hwA
  have hbd := zH (hb.mono T.out.size)
  replace T := zH (bThen T.out hb)
  refine ⟨hbd.out, ?_⟩
  clear hbd hb
  refine WT_one 18 rfl (by kernel_rfl) ?_
  unfold stepT
  go_wp2_with fail
  refine (Ints_any [12, 2] [12, 2] _ _ _ _ _ (by decide) (HW.out.to T.out) HY.out).mono ?_
  rintro e u3 ⟨rfl, hb⟩
  rw [decide_eq_true (Eq.refl _)]
  go_wp2_with fail
  have hbd := zH (hb.mono T.out.size)
  replace T := zH (bThen T.out hb)
  refine ⟨hbd.out, ?_⟩
  clear hbd hb
  refine WTq 19 ?_; apply Exists.intro; refine ⟨fun w1 hb1 => ?_, ?_⟩; (focus ((have hb1 := zH hb1; go_simp); (try (go_bits; try go_simp)); (try (rw [if_pos (by omega)]; try go_simp)); (first | done | (with_reducible rfl) | exact rfl)))
  simp only [Act.put, zzT, zzO, zzS]
  refine WT_one 20 rfl (by kernel_rfl) ?_
  unfold stepT
  go_wp2_with fail
  refine ⟨Below.refl _ _, ?_⟩
  refine WT_done (by kernel_rfl) ?_
  go_wp2_with fail
  go_ret
  exact ⟨rfl, bThen HB.out T.out⟩
end
section
open Go.RowKit

theorem rtLst : RowTy Tryz.prog 26 28 1 24 (.slice none 0 0) := by
  obtain ⟨i, h1, h2, h3, h4⟩ := info_parts (show (Tryz.prog.info? 28).map (fun i => (i.zero, i.size, i.bytes)) = some (some (.slice none 0 0), 1, 24) by kernel_rfl)
  exact ⟨by kernel_rfl, ⟨i, h1, h2, h3, h4⟩, rfl, by omega, by omega⟩

/-- A copy of whole numbers in a row of its own. -/
def ROwn (zs : List Int) (w : World) (e : Ending) (w' : World) : Prop := ∃ v, e = .returned v ∧ w'.ownsRow w.heap.size 3 1 v zs.length (zs.map fun z => Value.int .i64 z) ∧ Below w.heap.size w w'
set_option maxHeartbeats 400000 in
set_option maxRecDepth 100000 in
theorem CopyInts_row (zs : List Int) (a : Option Addr) (cap : Nat) (w : World) (hfew : zs.length ≤ 100000) (hr : Reads w a zs.length (ints zs)) :
    Calls Tryz.prog 24 #[.slice a zs.length cap] w fun e w' => ROwn zs w e w' := by
  cases a with
  | none =>
    have h0 : zs.length = 0 := by
      rcases hr with h | ⟨b, off, e, -⟩
      · exact h
      · cases e
    have h1 : zs = [] := List.length_eq_zero_iff.1 h0
    subst h1
    go_enter Tryz.func24, Tryz.ntmps24
    go_wp2_with fail
    go_ret
    exact ⟨_, rfl, World.ownsRow_lit w #[] 0 (Nat.le_refl _) (by decide) rfl, bAlloc (bSelf w) _⟩
  | some ad =>
    have HR := zH hr
    clear hr
    have HN := zH (Reads.news' (HR.out.alloc (.cells #[] 3)))
    have HF := zH hfew
    go_enter Tryz.func24, Tryz.ntmps24
    go_wp2_with (at_builtin; refine wpList_app w.heap.size rtInt rfl (.tmp 3) (.tmp 4) rfl (.slice (some ⟨w.heap.size, 0, none⟩) 0 0) 0 [] rfl (World.ownsRow_lit w #[] 0 (Nat.le_refl _) (by decide) rfl) ad zs.length cap (zs.map fun z => Value.int .i64 z) rfl (by simp) HN.out (ones _) (by unfold maxLen; omega) (by omega) (by simp) ?_; intro v' w2 hown' hgrow _ hwhere; have HO := zH hown'; have HBB : Hid (Below w.heap.size w w2) := zH ((bAlloc (bSelf w) _).grown hgrow (by simp) (fun k e => by cases e; exact Nat.le_refl _)); clear hown' hgrow hwhere)
    go_ret
    have hrow := HO.out
    rw [Nat.zero_add, List.nil_append] at hrow
    exact ⟨_, rfl, hrow, HBB.out⟩

/-- Lists in memory, to be read. -/
def lsF (L : List (List Int)) (da : Nat → Option Addr × Nat) (i : Nat) : Value := .slice (da i).1 (ll L i).length (da i).2
structure LsR (W : World) (a : Option Addr) (L : List (List Int)) (da : Nat → Option Addr × Nat) : Prop where
  rd : Reads W a L.length (lsF L da)
  dm : ∀ k, k < L.length → Reads W (da k).1 (ll L k).length (ints (ll L k))
theorem LsR.to {W W' : World} {a : Option Addr} {L : List (List Int)} {da : Nat → Option Addr × Nat} (h : LsR W a L da) (hb : Below W.heap.size W W') : LsR W' a L da :=
  ⟨h.rd.to hb, fun k hk => (h.dm k hk).to hb⟩
theorem LsR.one (w : World) (T : TypeId) {B : Nat} (hB : w.heap.size = B) : LsR (w.alloc (.cells #[.slice none 0 0] T)) (some ⟨B, 0, none⟩) [[]] (fun _ => (none, 0)) := by
  refine ⟨Reads.fresh w _ _ _ _ _ hB (fun i hi => ?_), fun k hk => .inl ?_⟩
  · obtain rfl : i = 0 := by simpa using hi
    rfl
  · obtain rfl : k = 0 := by simpa using hk
    rfl
/-- Lists in memory, in a row that grows. -/
def lcells (L : List (List Int)) (da : Nat → Option Addr × Nat) : List Value := (List.range L.length).map (lsF L da)
structure LsO (W : World) (B : Nat) (v : Value) (L : List (List Int)) (da : Nat → Option Addr × Nat) : Prop where
  own : W.ownsRow B 28 1 v L.length (lcells L da)
  dm : ∀ k, k < L.length → Reads W (da k).1 (ll L k).length (ints (ll L k)) ∧ ∀ q, (da k).1 = some q → q.block < W.heap.size ∧ v.ownBlock ≠ some q.block
theorem LsO.to {W W' : World} {B : Nat} {v : Value} {L : List (List Int)} {da : Nat → Option Addr × Nat} (h : LsO W B v L da) (hb : Below W.heap.size W W') : LsO W' B v L da :=
  ⟨owns_to h.own hb, fun k hk => ⟨(h.dm k hk).1.to hb, fun q hq => ⟨Nat.lt_of_lt_of_le ((h.dm k hk).2 q hq).1 hb.size, ((h.dm k hk).2 q hq).2⟩⟩⟩
theorem LsO.nil (W : World) (B : Nat) : LsO W B (.slice none 0 0) [] (fun _ => (none, 0)) :=
  ⟨⟨by simp [lcells], .inl ⟨rfl, rfl⟩⟩, fun k hk => by simp at hk⟩
def daA (da : Nat → Option Addr × Nat) (n : Nat) (x : Option Addr × Nat) (k : Nat) : Option Addr × Nat := if k = n then x else da k
theorem lcells_add {L : List (List Int)} {da : Nat → Option Addr × Nat} {ds : List Int} {x : Option Addr × Nat} :
    lcells L da ++ [.slice x.1 ds.length x.2] = lcells (L ++ [ds]) (daA da L.length x) := by
  unfold lcells
  rw [List.length_append, show [ds].length = 1 from rfl, List.range_succ, List.map_append]
  congr 1
  · refine List.map_congr_left fun k hk => ?_
    have hk' := List.mem_range.1 hk
    have hne : ¬ k = L.length := by omega
    unfold lsF daA
    rw [ll_app1 hk', if_neg hne]
  · show [_] = [_]
    unfold lsF daA
    rw [ll_app2, if_pos rfl]
/-- One more list: its row is new, and the row of lists is appended to. -/
theorem LsO.add {W W1 W2 : World} {B : Nat} {v v' : Value} {L : List (List Int)} {da : Nat → Option Addr × Nat} {ds : List Int} {x : Option Addr × Nat} (h : LsO W B v L da)
    (hb : Below W.heap.size W W1) (hr : Reads W1 x.1 ds.length (ints ds)) (hx : ∀ q, x.1 = some q → W.heap.size ≤ q.block ∧ q.block < W1.heap.size)
    (hown : W2.ownsRow B 28 1 v' (L.length + 1) (lcells L da ++ [.slice x.1 ds.length x.2])) (hg : W1.grownBy W2 v.ownBlock) (hw : v'.ownBlock = v.ownBlock ∨ v'.ownBlock = some W1.heap.size) :
    LsO W2 B v' (L ++ [ds]) (daA da L.length x) := by
  have h1 := h.to hb
  have hlt := h.own.lt
  have hne : ∀ b, b < W1.heap.size → v.ownBlock ≠ some b → v'.ownBlock ≠ some b := fun b hb1 hb2 e => by
    rcases hw with hw | hw
    · rw [hw] at e; exact hb2 e
    · rw [hw] at e; injection e with e; omega
  refine ⟨?_, fun k hk => ?_⟩
  · rw [List.length_append, ← lcells_add]
    exact hown
  · by_cases hk2 : k = L.length
    · subst hk2
      have e1 : daA da L.length x L.length = x := by unfold daA; rw [if_pos rfl]
      rw [e1, ll_app2]
      have hnb : ∀ q, x.1 = some q → v.ownBlock ≠ some q.block := fun q hq e => by
        have := (hlt _ e).2; have := (hx q hq).1; omega
      exact ⟨hr.grown hg (fun q hq e => hnb q hq e.symm), fun q hq => ⟨Nat.lt_of_lt_of_le (hx q hq).2 hg.size, hne _ (hx q hq).2 (hnb q hq)⟩⟩
    · have hk' : k < L.length := by rw [List.length_append] at hk; simp only [List.length_cons, List.length_nil] at hk; omega
      have e1 : daA da L.length x k = da k := by unfold daA; rw [if_neg hk2]
      rw [e1, ll_app1 hk']
      obtain ⟨k1, k2⟩ := h1.dm k hk'
      exact ⟨k1.grown hg (fun q hq e => (k2 q hq).2 e.symm), fun q hq => ⟨Nat.lt_of_lt_of_le (k2 q hq).1 hg.size, hne _ (k2 q hq).1 (k2 q hq).2⟩⟩
/-- A round of the loop that makes lists: a copy, one more demand behind it, and the whole behind the lists. -/
theorem LsO.step {y wr u1 w8 w9 : World} {B : Nat} {v v' : Value} {L : List (List Int)} {da : Nat → Option Addr × Nat} {ds : List Int} {od : Int} {a1 a2 : Option Addr} {c1 c2 : Nat} {o1 o2 : Obj} (h : LsO wr B v L da)
    (h0 : Below B y wr) (hs : B ≤ wr.heap.size) (hbc : Below wr.heap.size wr u1) (ho : u1.ownsRow wr.heap.size 3 1 (.slice a1 ds.length c1) ds.length (ds.map fun z => Value.int .i64 z))
    (hown1 : w8.ownsRow wr.heap.size 3 1 (.slice a2 (ds.length + 1) c2) (ds.length + 1) ((ds.map fun z => Value.int .i64 z) ++ [.int .i64 od])) (hg1 : (u1.alloc o1).grownBy w8 (Value.slice a1 ds.length c1).ownBlock)
    (hown2 : w9.ownsRow B 28 1 v' (L.length + 1) (lcells L da ++ [.slice a2 (ds.length + 1) c2])) (hg2 : (w8.alloc o2).grownBy w9 v.ownBlock) (hw2 : v'.ownBlock = v.ownBlock ∨ v'.ownBlock = some (w8.alloc o2).heap.size) :
    LsO w9 B v' (L ++ [ds ++ [od]]) (daA da L.length (a2, c2)) ∧ Below B y w9 := by
  have hb8 : Below wr.heap.size wr w8 := (bAlloc hbc _).grown hg1 (by have := hbc.size; simp only [World.size_alloc]; omega) (fun k e => (ho.lt k e).1)
  have hb9 : Below wr.heap.size wr (w8.alloc o2) := bAlloc hb8 _
  have hown1' : w8.ownsRow wr.heap.size 3 1 (.slice a2 (ds.length + 1) c2) (ds ++ [od]).length ((ds ++ [od]).map fun z => Value.int .i64 z) := by
    rw [List.length_append, List.map_append]; exact hown1
  obtain ⟨a3, c3, e3, -, hr, hfr⟩ := Reads.of_owns' hown1'
  injection e3 with e3 e4 e5
  subst e3
  have hle : (ds ++ [od]).length = ds.length + 1 := by simp
  refine ⟨LsO.add (x := (a2, c2)) h hb9 (hr.alloc _) (fun q hq => ⟨hfr q hq, ?_⟩) (by rw [hle]; exact hown2) hg2 hw2, ?_⟩
  · obtain ⟨b, off, e, hb, -⟩ := hr.at (k := 0) (by omega)
    rw [e] at hq
    cases hq
    simp only [World.size_alloc]
    omega
  · have h2 : Below B y (w8.alloc o2) := h0.trans (hb9.mono hs)
    refine h2.grown hg2 (by have := hb9.size; omega) (fun k e => (h.own.lt k e).1)
/-- What the row reads as. -/
theorem LsO.enc {W : World} {B : Nat} {v : Value} {L : List (List Int)} {da : Nat → Option Addr × Nat} (h : LsO W B v L da) : ∃ a c, v = .slice a L.length c ∧ L.length ≤ c ∧ LsR W a L da := by
  obtain ⟨a, c, rfl, hc, hr, -⟩ := Reads.of_row (f := lsF L da) h.own (fun i hi => by
    unfold lcells
    rw [List.getElem?_map, List.getElem?_range (by omega)]
    rfl)
  rw [Nat.mul_one] at hr
  exact ⟨a, c, rfl, hc, hr, fun k hk => (h.dm k hk).1⟩
end
section
open Go.RowKit

theorem cmp_prA {p : Plt} {v u : Int} (h : PtsOk p.pts) (v0 : 0 ≤ v ∧ v ≤ capV p.pts) (u0 : 0 ≤ u ∧ u ≤ capV p.pts) (W : World) (a1 a2 b1 b2 : Option Addr) (v1 v2 : Value) (h1 : RR W a1 a2 v1 (rPr p.pts v)) (h2 : RR W b1 b2 v2 (rPr p.pts u)) :
    Calls Tryz.prog 29 #[v1, v2] W fun e w' => e = .returned (.int .i64 (v - u).sign) ∧ Below W.heap.size W w' := by
  have d1 := dg_frL (QOk.of_pts h v0.1 v0.2)
  have d2 := dg_frL (QOk.of_pts h u0.1 u0.2)
  rw [← rPr_eq h v0.1 v0.2] at d1
  rw [← rPr_eq h u0.1 u0.2] at d2
  have := RatioCmp_any (rPr p.pts v) (rPr p.pts u) a1 a2 b1 b2 v1 v2 W h1 h2 d1.1 d1.2 d2.1 d2.2
  rw [show ((rPr p.pts v).1 * (rPr p.pts u).2 - (rPr p.pts u).1 * (rPr p.pts v).2).sign = (v - u).sign from cmpQ_up h v0.1 v0.2 u0.1 u0.2] at this
  exact this
theorem scells_snocA (l : List OSt) (s : OSt) : scells (l ++ [s]) = scells l ++ [.int .i64 s.1, .bool s.2] := by
  unfold scells
  rw [List.flatMap_append]
  rfl
theorem RW.grown {W W' : World} {a : Option Addr} {v : Value} {z : Int} {row : Option Nat} (h : RW W a v z) (hg : W.grownBy W' row) (hl : Loc (fun c => row ≠ some c) a z) : RW W' a v z :=
  h.keep fun hr => by
    by_cases h0 : dg z = []
    · exact .inl (by rw [h0]; rfl)
    · exact hr.grown hg (fun p hp e => hl h0 p hp e.symm)
theorem RR.grown {W W' : World} {a1 a2 : Option Addr} {v : Value} {q : Int × Int} {row : Option Nat} (h : RR W a1 a2 v q) (hg : W.grownBy W' row) (hl : Loc (fun c => row ≠ some c) a1 q.1 ∧ Loc (fun c => row ≠ some c) a2 q.2) : RR W' a1 a2 v q := by
  obtain ⟨s1, n1, c1, s2, n2, c2, e, h1, h2⟩ := h
  exact ⟨s1, n1, c1, s2, n2, c2, e, h1.grown hg hl.1, h2.grown hg hl.2⟩
theorem grown_st4 (W : World) (b : Nat) (x0 x1 x2 x3 : Value) : W.grownBy (Go.Proofs.YtbpcapcgbnbknaaGreat.st4 W b x0 x1 x2 x3) (some b) := by
  have h := below_st4 W (Nat.le_refl b) x0 x1 x2 x3
  have hs : (Go.Proofs.YtbpcapcgbnbknaaGreat.st4 W b x0 x1 x2 x3).heap.size = W.heap.size := by unfold Go.Proofs.YtbpcapcgbnbknaaGreat.st4; simp [World.setCell]
  refine ⟨h.os, h.tape, h.output, by omega, fun k hk hne => ?_⟩
  unfold Go.Proofs.YtbpcapcgbnbknaaGreat.st4
  have hn : k ≠ b := fun e => hne (by rw [e])
  rw [Below.heap_setCell _ _ _ _ hn, Below.heap_setCell _ _ _ _ hn, Below.heap_setCell _ _ _ _ hn, Below.heap_setCell _ _ _ _ hn]

structure LowM (wr : World) (B E : Nat) (q : Int × Int) (ends : List OSt) (v : Value) (a1 a2 : Option Addr) (t1 t2 : Int) (n1 c1 n2 c2 : Nat) : Prop where
  box : Blk wr B #[.int .i64 t1, .slice a1 n1 c1, .int .i64 t2, .slice a2 n2 c2]
  rr : RR wr a1 a2 (.agg #[.int .i64 t1, .slice a1 n1 c1, .int .i64 t2, .slice a2 n2 c2]) q
  lb : Loc (fun c => c ≠ B) a1 q.1 ∧ Loc (fun c => c ≠ B) a2 q.2
  lv : Loc (fun c => v.ownBlock ≠ some c) a1 q.1 ∧ Loc (fun c => v.ownBlock ≠ some c) a2 q.2
  own : wr.ownsRow E 53 2 v ends.length (scells ends)
  lt : B < E
theorem LowM.to {wr W' : World} {B E : Nat} {q : Int × Int} {ends : List OSt} {v : Value} {a1 a2 : Option Addr} {t1 t2 : Int} {n1 c1 n2 c2 : Nat} (h : LowM wr B E q ends v a1 a2 t1 t2 n1 c1 n2 c2) (hb : Below wr.heap.size wr W') : LowM W' B E q ends v a1 a2 t1 t2 n1 c1 n2 c2 :=
  ⟨h.box.to hb, h.rr.to hb, h.lb, h.lv, owns_to h.own hb, h.lt⟩
/-- A lower pressure is stored. -/
theorem LowM.put {wr : World} {B E : Nat} {q q' : Int × Int} {ends : List OSt} {v : Value} {a1 a2 b1 b2 : Option Addr} {t1 t2 t3 t4 : Int} {n1 c1 n2 c2 n3 c3 n4 c4 : Nat} (h : LowM wr B E q ends v a1 a2 t1 t2 n1 c1 n2 c2)
    (hr : RR wr b1 b2 (.agg #[.int .i64 t3, .slice b1 n3 c3, .int .i64 t4, .slice b2 n4 c4]) q') (hl : Loc (fun c => c ≠ B) b1 q'.1 ∧ Loc (fun c => c ≠ B) b2 q'.2) (hv : Loc (fun c => v.ownBlock ≠ some c) b1 q'.1 ∧ Loc (fun c => v.ownBlock ≠ some c) b2 q'.2) :
    LowM (Go.Proofs.YtbpcapcgbnbknaaGreat.st4 wr B (.int .i64 t3) (.slice b1 n3 c3) (.int .i64 t4) (.slice b2 n4 c4)) B E q' ends v b1 b2 t3 t4 n3 c3 n4 c4 :=
  ⟨h.box.st4 _ _ _ _, hr.st4 hl _ _ _ _, hl, hv, h.own.kept (grown_st4 ..) (by
    by_cases e : v.ownBlock = none
    · exact .inl e
    · refine .inr fun e2 => ?_
      have := (h.own.lt _ e2).1
      have := h.lt
      omega), h.lt⟩
/-- An end is appended. -/
theorem LowM.app {wr w2 : World} {B E : Nat} {q : Int × Int} {ends : List OSt} {v v' : Value} {a1 a2 : Option Addr} {t1 t2 : Int} {n1 c1 n2 c2 : Nat} {x : OSt} {o : Obj} (h : LowM wr B E q ends v a1 a2 t1 t2 n1 c1 n2 c2)
    (hown : w2.ownsRow E 53 2 v' (ends.length + 1) (scells ends ++ [.int .i64 x.1, .bool x.2])) (hg : (wr.alloc o).grownBy w2 v.ownBlock) (hw : v'.ownBlock = v.ownBlock ∨ v'.ownBlock = some (wr.alloc o).heap.size) :
    LowM w2 B E q (ends ++ [x]) v' a1 a2 t1 t2 n1 c1 n2 c2 := by
  have h1 := h.to (bAlloc (bSelf wr) o)
  refine ⟨blk_grown h1.box hg (fun e => ?_), h1.rr.grown hg h1.lv, h.lb, ?_, ?_, h.lt⟩
  · have := (h.own.lt _ e).1
    have := h.lt
    omega
  · rcases hw with e | e
    · rw [e]; exact h.lv
    · rw [e]
      obtain ⟨s1, m1, d1, s2, m2, d2, -, r1, r2⟩ := h.rr
      have hlt : ∀ c, c < wr.heap.size → some (wr.alloc o).heap.size ≠ some c := fun c hc e => by injection e with e; simp only [World.size_alloc] at e; omega
      exact ⟨r1.loc.imp hlt, r2.loc.imp hlt⟩
  · rw [List.length_append, scells_snocA]
    exact hown
end
section
set_option maxRecDepth 100000
set_option maxHeartbeats 1600000
open Go.RowKit
attribute [local go_sem] Oper.semAt_some

theorem rgE_val (lo hi : Int) : rgE (lo, hi) = if wthn lo 0 50 = false then 2 else if wthn hi 0 50 = false then 2 else if hi < lo then 9 else 0 := by
  unfold rgE
  dsimp only
  by_cases h : hi < lo
  · rw [if_pos h, decide_eq_false (show ¬ lo ≤ hi by omega)]
    cases wthn lo 0 50 <;> cases wthn hi 0 50 <;> rfl
  · rw [if_neg h, decide_eq_true (show lo ≤ hi by omega)]
    cases wthn lo 0 50 <;> cases wthn hi 0 50 <;> rfl

theorem rRangeErr_any (lo hi : Int) (w : World) :
    Calls Tryz.prog 119 #[.agg #[.int .i64 lo, .int .i64 hi]] w fun e w' => e = .returned (.int .i64 (rgE (lo, hi))) ∧ Below w.heap.size w w' := by
  have H1 := zH (fun W => rFlowErr_any lo W)
  have H2 := zH (fun W => rFlowErr_any hi W)
  have HV := zH (rgE_val lo hi)
  obtain ⟨r, hr⟩ : ∃ r, rgE (lo, hi) = r := ⟨_, rfl⟩
  rw [hr] at HV ⊢
  obtain ⟨b1, hb1⟩ : ∃ b, wthn lo 0 50 = b := ⟨_, rfl⟩
  obtain ⟨b2, hb2⟩ : ∃ b, wthn hi 0 50 = b := ⟨_, rfl⟩
  rw [hb1] at H1 HV
  rw [hb2] at H2 HV
  clear hr hb1 hb2
  cases b1
  · obtain rfl : r = 2 := HV.out
    clear HV
    go_enter Tryz.func119, Tryz.ntmps119
    go_wp2_with (go_at_call 118; refine (H1.out _).mono ?_; rintro e w' ⟨rfl, rfl⟩; rw [show unl false 2 = 2 from rfl])
    go_ret
    exact ⟨rfl, bAlloc (bSelf w) _⟩
  · cases b2
    · obtain rfl : r = 2 := HV.out
      clear HV
      go_enter Tryz.func119, Tryz.ntmps119
      go_wp2_with (go_at_call 118; first | (refine (H1.out _).mono ?_; rintro e w' ⟨rfl, rfl⟩; rw [show unl true 2 = 0 from rfl]) | (refine (H2.out _).mono ?_; rintro e w' ⟨rfl, rfl⟩; rw [show unl false 2 = 2 from rfl]))
      go_ret
      exact ⟨rfl, bAlloc (bSelf w) _⟩
    · by_cases h : hi < lo
      · obtain rfl : r = 9 := by rw [HV.out, if_neg (by decide), if_neg (by decide), if_pos h]
        clear HV
        go_enter Tryz.func119, Tryz.ntmps119
        go_wp2_with (go_at_call 118; first | (refine (H1.out _).mono ?_; rintro e w' ⟨rfl, rfl⟩; rw [show unl true 2 = 0 from rfl]) | (refine (H2.out _).mono ?_; rintro e w' ⟨rfl, rfl⟩; rw [show unl true 2 = 0 from rfl]))
        go_ret
        exact ⟨rfl, bAlloc (bSelf w) _⟩
      · obtain rfl : r = 0 := by rw [HV.out, if_neg (by decide), if_neg (by decide), if_neg h]
        clear HV
        go_enter Tryz.func119, Tryz.ntmps119
        go_wp2_with (go_at_call 118; first | (refine (H1.out _).mono ?_; rintro e w' ⟨rfl, rfl⟩; rw [show unl true 2 = 0 from rfl]) | (refine (H2.out _).mono ?_; rintro e w' ⟨rfl, rfl⟩; rw [show unl true 2 = 0 from rfl]))
        go_ret
        exact ⟨rfl, bAlloc (bSelf w) _⟩

theorem rCheckClass_any (c : List (Int × Int)) (a : Option Addr) (cap : Nat) (w : World) (hr : Reads w a (c.length * 2) (fracs c)) :
    Calls Tryz.prog 75 #[.slice a c.length cap] w fun e w' => e = .returned (.tuple #[.int .i64 (chCl c).1, .int .i64 (chCl c).2]) ∧ Below w.heap.size w w' := by
  have HR := zH hr
  have HRG := zH (fun lo hi W => rRangeErr_any lo hi W)
  have HCH : Hid (chCl c = if 20 < c.length then (0, 8) else eachR (fun k => rgE (fg c k)) 0 c.length) := zH rfl
  obtain ⟨⟨c1, c2⟩, hc⟩ : ∃ x, chCl c = x := ⟨_, rfl⟩
  rw [hc] at HCH ⊢
  obtain ⟨n, hn⟩ : ∃ n, c.length = n := ⟨_, rfl⟩
  rw [hn] at HR HCH ⊢
  dsimp only
  clear hr hc hn
  by_cases h20 : 20 < n
  · have hq := HCH.out
    rw [if_pos h20] at hq
    injection hq with h1 h2
    subst h1 h2
    clear HCH
    go_enter Tryz.func75, Tryz.ntmps75
    go_wp2_with fail
    go_ret2
    exact ⟨rfl, bSelf w⟩
  · have hq := HCH.out
    rw [if_neg h20] at hq
    replace HCH := zH hq
    clear hq
    go_enter Tryz.func75, Tryz.ntmps75
    go_wp2_with fail
    go_loopw [4, 5] (fun s4 _ wr => ∃ k : Nat, k ≤ n ∧ s4 = .int .i64 k ∧ Hid (eachR (fun k => rgE (fg c k)) 0 n = eachR (fun k => rgE (fg c k)) k (n - k)) ∧ Hid (Below w.heap.size w wr)) (fun s4 _ _ => n - (intOf s4).toNat)
    case atStart => exact ⟨0, Nat.zero_le _, rfl, zH rfl, zH (bSelf w)⟩
    case round =>
      obtain ⟨k, hk, rfl, hee, hB⟩ := hrel
      by_cases hlt : k < n
      · have HBAD : Hid (∀ e, rgE (fg c k) = e → e ≠ 0 → (c1, c2) = ((k : Int), e)) := zH (fun e he hne => by
          have h1 := eachR_stop (err := fun k => rgE (fg c k)) hlt (by rw [he]; exact hne)
          rw [HCH.out, hee.out, h1, he])
        have HGO : Hid (rgE (fg c k) = 0 → eachR (fun k => rgE (fg c k)) 0 n = eachR (fun k => rgE (fg c k)) (k + 1) (n - (k + 1))) := zH (fun h => hee.out.trans (eachR_step (err := fun k => rgE (fg c k)) hlt h))
        obtain ⟨b, off, rfl, hb, hc⟩ := (HR.out.to hB.out).at (k := k * 2) (by omega)
        obtain ⟨⟨v, q⟩, hv⟩ : ∃ v, fg c k = v := ⟨_, rfl⟩
        have h0 : wr.cell? ⟨b, off + k * 2, none⟩ = some (.int .i64 v) := by have := hc (k * 2) (by omega); rw [fracs0, hv] at this; exact this
        have h1 : wr.cell? ⟨b, off + k * 2 + 1, none⟩ = some (.int .i64 q) := by have := hc (k * 2 + 1) (by omega); rw [fracs1, hv] at this; exact this
        rw [hv] at HBAD HGO
        clear hc hv
        obtain ⟨e0, he0⟩ : ∃ e, rgE (v, q) = e := ⟨_, rfl⟩
        have HRK := zH (fun W => HRG.out v q W)
        rw [he0] at HBAD HGO HRK
        clear he0
        by_cases hz : e0 = 0
        · subst hz
          go_wp2_with (go_at_call 119; refine (HRK.out _).mono ?_; rintro e w' ⟨rfl, hb5⟩; have HB5 := zH hb5; clear hb5)
          go_roundw
          case rel => exact ⟨k + 1, by omega, by go_num, zH (HGO.out (by first | trivial | rfl)), zH (bThen hB.out HB5.out)⟩
          case measure => simp [intOf]; omega
        · have hq := HBAD.out e0 rfl hz
          injection hq with q1 q2
          subst q1 q2
          have hz' : (c2 != 0) = true := by simpa using hz
          go_wp2_with (go_at_call 119; refine (HRK.out _).mono ?_; rintro e w' ⟨rfl, hb5⟩; have HB5 := zH hb5; clear hb5)
          go_ret2
          exact ⟨rfl, bThen hB.out HB5.out⟩
      · obtain rfl : n = k := by omega
        have hq : (c1, c2) = (0, 0) := by rw [HCH.out, hee.out, Nat.sub_self]; rfl
        injection hq with q1 q2
        subst q1 q2
        go_wp2_with fail
        go_ret2
        exact ⟨rfl, hB.out⟩

theorem rClassErr_any (c : List (Int × Int)) (a : Option Addr) (cap : Nat) (w : World) (hr : Reads w a (c.length * 2) (fracs c)) :
    Calls Tryz.prog 22 #[.slice a c.length cap] w fun e w' => e = .returned (.int .i64 (chCl c).2) ∧ Below w.heap.size w w' := by
  have HC := zH (rCheckClass_any c a cap w hr)
  obtain ⟨⟨c1, c2⟩, hc⟩ : ∃ x, chCl c = x := ⟨_, rfl⟩
  rw [hc] at HC ⊢
  obtain ⟨n, hn⟩ : ∃ n, c.length = n := ⟨_, rfl⟩
  rw [hn] at HC ⊢
  dsimp only at HC ⊢
  clear hr hc hn
  go_enter Tryz.func22, Tryz.ntmps22
  go_wp2_with fail
  refine HC.out.mono ?_
  rintro e w' ⟨rfl, hb⟩
  have HB := zH hb
  clear hb
  go_wp2_with fail
  go_ret
  exact ⟨rfl, HB.out⟩
end
section
open Go.RowKit
attribute [local go_sem] Oper.semAt_some

theorem rtRg : RowTy Tryz.prog 54 23 2 16 (.agg #[.int .i64 0, .int .i64 0]) := by
  obtain ⟨i, h1, h2, h3, h4⟩ := info_parts (show (Tryz.prog.info? 23).map (fun i => (i.zero, i.size, i.bytes)) = some (some (.agg #[.int .i64 0, .int .i64 0]), 2, 16) by kernel_rfl)
  exact ⟨by kernel_rfl, ⟨i, h1, h2, h3, h4⟩, rfl, by omega, by omega⟩

set_option maxHeartbeats 800000 in
set_option maxRecDepth 100000 in
theorem CopyRanges_any (c : List (Int × Int)) (a : Option Addr) (cap : Nat) (w : World) (hfew : c.length ≤ 100000) (hr : Reads w a (c.length * 2) (fracs c)) :
    Calls Tryz.prog 31 #[.slice a c.length cap] w fun e w' => ∃ a' cap', e = .returned (.slice a' c.length cap') ∧ c.length ≤ cap' ∧ Reads w' a' (c.length * 2) (fracs c) ∧ Below w.heap.size w w' ∧ ∀ p, a' = some p → w.heap.size ≤ p.block := by
  cases a with
  | none =>
    have h0 : c.length = 0 := by
      rcases hr with h | ⟨b, off, e, -⟩
      · omega
      · cases e
    rw [h0]
    clear hr
    go_enter Tryz.func31, Tryz.ntmps31
    go_wp2_with fail
    go_ret
    exact ⟨_, _, rfl, by omega, .inl rfl, bAlloc (bSelf w) _, fun p hp => by cases hp; exact Nat.le_refl _⟩
  | some ad =>
    have HR := zH hr
    have HN := zH (Reads.newsF (HR.out.alloc (.cells #[] 23)))
    have HPO : Hid (∀ (u2 : World) (v : Value), u2.ownsRow w.heap.size 23 2 v c.length (fcells c) → ∃ a' c', v = .slice a' c.length c' ∧ c.length ≤ c' ∧ Reads u2 a' (c.length * 2) (fracs c) ∧ ∀ q, a' = some q → w.heap.size ≤ q.block) := zH (fun u2 v h => Reads.of_row (f := fracs c) h (fun i hi => fcells_get c i hi))
    have HCL : Hid ((fcells c).length = c.length * 2) := zH (fcells_len c)
    have HON := zH (onesF c)
    obtain ⟨n, hn⟩ : ∃ n, c.length = n := ⟨_, rfl⟩
    rw [hn] at HPO HCL hfew ⊢
    clear hr HR hn
    go_enter Tryz.func31, Tryz.ntmps31
    go_wp2_with (at_builtin; refine wpList_app w.heap.size rtRg rfl (.tmp 3) (.tmp 4) rfl (.slice (some ⟨w.heap.size, 0, none⟩) 0 0) 0 [] rfl (World.ownsRow_lit w #[] 0 (Nat.le_refl _) (by decide) rfl) ad n cap (fcells c) rfl HCL.out HN.out HON.out (by unfold maxLen; omega) (by omega) (by simp) ?_; intro v' w2 hown' hgrow _ hwhere; have HO := zH hown'; have HBB : Hid (Below w.heap.size w w2) := zH ((bAlloc (bSelf w) _).grown hgrow (by simp) (fun k e => by cases e; exact Nat.le_refl _)); clear hown' hgrow hwhere)
    go_ret
    have hrow := HO.out
    rw [Nat.zero_add, List.nil_append] at hrow
    obtain ⟨a', cap', rfl, hcp, hrd, hfr⟩ := HPO.out _ _ hrow
    exact ⟨a', cap', rfl, hcp, hrd, HBB.out, hfr⟩
end
section
open Go.RowKit
attribute [local go_sem] Oper.semAt_some

theorem op_of {p : Plt} {v : Int} {c : List (Int × Int)} {lim : Int} (h1 : (chP p).2 = 0) (h2 : stE p v = 0) (h3 : (chCl c).2 = 0) (h4 : unl (wthn lim 0 1000) 2 = 0) : opLE p v c lim = 0 := by
  refine firstE2.2 ⟨firstE2.2 ⟨?_, h3⟩, h4⟩
  unfold opSE
  rw [if_pos h1]
  exact h2
theorem perm_a (p : Plt) (s : OSt) (c : List (Int × Int)) (lim : Int) (a ac : Option Addr) (cap cc : Nat) (w : World) (h : opLE p s.1 c lim = 0) (hlen : p.pts.length ≤ 1000) (hlc : c.length ≤ maxLen) (hrc : Reads w ac (c.length * 2) (fracs c)) (hr : Reads w a (p.pts.length * 2) (fracs p.pts)) :
    Calls Tryz.prog 30 #[.agg (plC p a cap), .agg #[.int .i64 s.1, .bool s.2], .slice ac c.length cc, .int .i64 lim] w fun e w' => e = .returned (.tuple #[.bool (prmB p s c lim), .int .i64 0]) ∧ Below w.heap.size w w' := by
  have h1 := IsPermitted_any p s c lim a ac cap cc w hlen hlc hrc hr
  rw [h] at h1
  exact h1

theorem above_b (p : Plt) (ro : List OSt) (lim : Int) (n m : Nat) (ab : Bool) (a ar : Option Addr) (cap cr : Nat) (w : World) (hm : p.pts.length = m) (h0 : (chP p).2 = 0) (hl : ro.length = n) (hn : n ≤ 1000) (hok : ∀ k, k < n → StOk p (sg ro k)) (hlim : 0 ≤ lim ∧ lim ≤ 1000) (hr : Reads w a (m * 2) (fracs p.pts)) (hrr : Reads w ar (n * 2) (osts ro)) (hab : (ro.all fun x => !blwQ p lim x) = ab) :
    Calls Tryz.prog 28 #[.agg #[.slice a m cap, .int .i64 p.pump, .int .i64 p.on, .int .i64 p.off], .slice ar n cr, .int .i64 lim] w fun e w' => e = .returned (.bool ab) ∧ Below w.heap.size w w' := by
  subst hm hl hab
  exact above_any p ro lim a ar cap cr w h0 hok hlim hn hr hrr

theorem from_b (n m : Int) (q : Int × Int) (W : World) (h1 : -1000000000 ≤ n) (h2 : n ≤ 1000000000) (h3 : 0 < m) (h4 : m ≤ 1000000000) (hq : fr n m = q) : Calls Tryz.prog 34 #[.agg #[.int .i64 n, .int .i64 m]] W fun e w1 => RPost [] q W e w1 := by
  subst hq
  exact RatioFrom_any n m W (by omega) (by omega) h3 (by omega)
theorem cmp_prZ {p : Plt} {v : Int} (h : PtsOk p.pts) (v0 : 0 ≤ v ∧ v ≤ capV p.pts) (W : World) (a1 a2 b1 b2 : Option Addr) (v1 v2 : Value) (h1 : RR W a1 a2 v1 (rPr p.pts v)) (h2 : RR W b1 b2 v2 (rPr p.pts v)) :
    Calls Tryz.prog 29 #[v1, v2] W fun e w' => e = .returned (.int .i64 0) ∧ Below W.heap.size W w' := by
  have h3 := cmp_prA h v0 v0 W a1 a2 b1 b2 v1 v2 h1 h2
  rw [Int.sub_self, Int.sign_zero] at h3
  exact h3
theorem isEnd_b (l : List OSt) (x1 : Int) (d1 : Bool) (b : Bool) (n : Nat) (a : Option Addr) (cap : Nat) (w : World) (hb : inS l (x1, d1) = b) (hn : l.length = n) (hlen : n ≤ 100000) (hr : Reads w a (n * 2) (osts l)) :
    Calls Tryz.prog 36 #[.slice a n cap, .agg #[.int .i64 x1, .bool d1]] w fun e w' => e = .returned (.bool b) ∧ Below w.heap.size w w' := by
  subst hb hn
  exact isEnd_any l (x1, d1) a cap w hlen hr
theorem rLess_b (x1 y1 : Int) (d1 e1 : Bool) (b : Bool) (w : World) (hb : ltS (x1, d1) (y1, e1) = b) :
    Calls Tryz.prog 35 #[.agg #[.int .i64 x1, .bool d1], .agg #[.int .i64 y1, .bool e1]] w fun e w' => e = .returned (.bool b) ∧ Below w.heap.size w w' := by
  subst hb
  exact rLessA_any (x1, d1) (y1, e1) w

set_option maxHeartbeats 25600000 in
set_option maxRecDepth 100000 in
theorem TopOilOneByOne_any (p : Plt) (s : OSt) (c : List (Int × Int)) (lim : Int) (a ac : Option Addr) (cap cc : Nat) (w : World) (hlc : c.length ≤ maxLen) (hr : Reads w a (p.pts.length * 2) (fracs p.pts)) (hrc : Reads w ac (c.length * 2) (fracs c)) :
    Calls Tryz.prog 4 #[.agg (plC p a cap), .agg #[.int .i64 s.1, .bool s.2], .agg #[.slice ac c.length cc, .int .i64 lim]] w fun e w' => e = .returned (.bool true) ∧ Below w.heap.size w w' := by
  have HAW := zH (fun W => oilShown_any W)
  have HPE := zH (fun W (h8 : p.pts.length ≤ 8) (hb : Below w.heap.size w W) => rPlantErr_any p a cap W (by omega) (hr.to hb))
  have HS0 := zH (fun W (h0 : (chP p).2 = 0) (hb : Below w.heap.size w W) => rStateErr_any p s a cap W (by have := (chP_ok h0).pts.two; omega) (by have := (chP_ok h0).pts.few; omega) (hr.to hb))
  have HCE := zH (fun W (hb : Below w.heap.size w W) => rClassErr_any c ac cc W (hrc.to hb))
  have HLM := zH (fun W => rLimitErr_any lim W)
  have HLE : Hid ((chP p).2 = 0 → stE p s.1 = 0 → (chCl c).2 = 0 → unl (wthn lim 0 1000) 2 = 0 → opLE p s.1 c lim = 0) := zH op_of
  have HOK := zH (fun (h : opLE p s.1 c lim = 0) => opLE_ok h)
  have HCPY := zH (fun W (h8 : p.pts.length ≤ 8) (hb : Below w.heap.size w W) => rCopyPlant_any p a cap W (by omega) (hr.to hb))
  have HCR := zH (fun W (h3 : c.length ≤ 3) (hb : Below w.heap.size w W) => CopyRanges_any c ac cc W (by omega) (hrc.to hb))
  have HPR := zH (fun W v (h : opLE p s.1 c lim = 0) (hv : 0 ≤ v ∧ v ≤ capV p.pts) (hb : Below w.heap.size w W) => rPressure_any p v a cap W (opLE_ok h).1.1.pts (by have := cap_le (opLE_ok h).1.1; omega) (hr.to hb))
  have HSE := zH (fun W (x : OSt) (h : opLE p s.1 c lim = 0) (hx : StOk p x) (hb : Below w.heap.size w W) => by
    have h0 := chP_opL h
    have h2 := rStateErr_any p x a cap W (by have := (chP_ok h0).pts.two; omega) (by have := (chP_ok h0).pts.few; omega) (hr.to hb)
    rw [(abv_one (lim := lim) h0 hx).1] at h2
    exact h2)
  have HRN := zH (fun W a1 c1 a2 c2 (ds : List Int) (h8 : p.pts.length ≤ 8) (hl : ds.length ≤ 3) h1 h2 => oRunOf_any p s ds a1 a2 c1 c2 W (by omega) (by unfold maxLen; omega) h1 h2)
  have HAB := zH (fun W ar cr (ro : List OSt) (n : Nat) (ab : Bool) (h : opLE p s.1 c lim = 0) h2 h3 h4 (hb : Below w.heap.size w W) h5 h6 => above_b p ro lim n p.pts.length ab a ar cap cr W rfl (chP_opL h) h2 h3 h4 (wthn_iff.1 ((unlZ (by decide)).1 (opLE_parts h).2.2)) (hr.to hb) h5 h6)
  have HCM := zH (fun W v u (h : opLE p s.1 c lim = 0) h1 h2 a1 a2 b1 b2 v1 v2 r1 r2 => cmp_prA (v := v) (u := u) (opLE_ok h).1.1.pts h1 h2 W a1 a2 b1 b2 v1 v2 r1 r2)
  have HCZ := zH (fun W v (h : opLE p s.1 c lim = 0) h1 a1 a2 b1 b2 v1 v2 r1 r2 => cmp_prZ (v := v) (opLE_ok h).1.1.pts h1 W a1 a2 b1 b2 v1 v2 r1 r2)
  have HPC := zH (fun W a1 c1 a2 c2 (h : opLE p s.1 c lim = 0) (h8 : p.pts.length ≤ 8) h1 h2 => perm_a p s c lim a1 a2 c1 c2 W h (by omega) hlc h2 h1)
  have HRB := zH (fun W a1 c1 a2 c2 (h8 : p.pts.length ≤ 8) h1 h2 => ReachedBy_any p s c a1 a2 c1 c2 W (by omega) hlc h2 h1)
  have HLW := zH (fun W a1 c1 a2 c2 (h8 : p.pts.length ≤ 8) h1 h2 => LowestIn_any p s c a1 a2 c1 c2 W (by omega) hlc h2 h1)
  have HEND := zH (fun (h : opLE p s.1 c lim = 0) => one_end h)
  have HONE := zH (fun (h : opLE p s.1 c lim = 0) i (hi : i < (allD c).length) => run_one (i := i) h hi)
  have HLOW := zH (fun (h : opLE p s.1 c lim = 0) i (hi : i ≤ (allD c).length) => zI_low h i hi)
  have HZ1 := zH (fun i (hi : i < (allD c).length) => zI_succ (p := p) (s := s) (lim := lim) (i := i) hi)
  have HZN := zH (fun i => zI_ends (p := p) (s := s) (lim := lim) (L := allD c) (i := i))
  have HRC := zH hrc
  obtain ⟨m, hm⟩ : ∃ n, p.pts.length = n := ⟨_, rfl⟩
  obtain ⟨n, hn⟩ : ∃ n, c.length = n := ⟨_, rfl⟩
  obtain ⟨ch, hch⟩ : ∃ b, (chP p).2 = b := ⟨_, rfl⟩
  obtain ⟨se, hse⟩ : ∃ b, stE p s.1 = b := ⟨_, rfl⟩
  obtain ⟨ce, hce⟩ : ∃ b, (chCl c).2 = b := ⟨_, rfl⟩
  obtain ⟨le, hle⟩ : ∃ b, unl (wthn lim 0 1000) 2 = b := ⟨_, rfl⟩
  obtain ⟨oe, hoe⟩ : ∃ b, opLE p s.1 c lim = b := ⟨_, rfl⟩
  obtain ⟨ec, hec⟩ : ∃ b, rchE p s c = b := ⟨_, rfl⟩
  obtain ⟨oc, hoc⟩ : ∃ b, rchO p s c = b := ⟨_, rfl⟩
  obtain ⟨⟨lt, lq1, lq2⟩, hlo⟩ : ∃ b, lwtA p s c = b := ⟨_, rfl⟩
  obtain ⟨el, hel⟩ : ∃ b, lwtE p s c = b := ⟨_, rfl⟩
  obtain ⟨rb, hrb⟩ : ∃ b, prmB p s c lim = b := ⟨_, rfl⟩
  have HEN2 : Hid (oe = 0 → ∀ z, zI p s lim (allD c) (allD c).length = z → rb = z.kept ∧ (z.emp = true → ec = 22 ∧ el = 22) ∧ (z.emp = false → ec = 0 ∧ el = 0 ∧ lt = z.tl.1 ∧ 0 < lq2 ∧ lq2 ≤ 1000000000 ∧ -1000000000 ≤ lq1 ∧ lq1 ≤ 1000000000 ∧ fr lq1 lq2 = rPr p.pts z.tl.2 ∧ oc.length ≤ z.ends.length ∧ (∀ i, i + 1 < oc.length → ltS (sg oc i) (sg oc (i + 1)) = true) ∧ (∀ i, i < oc.length → inS z.ends (sg oc i) = true) ∧ ∀ i, i < z.ends.length → inS oc (sg z.ends i) = true)) := zH (fun h z hz => by
    have h1 := HEND.out (by rw [hoe]; exact h)
    rw [hz] at h1
    obtain ⟨g1, g2, g3⟩ := h1
    rw [hrb] at g1
    rw [hec, hel] at g2
    rw [hec, hel, hlo, hoc] at g3
    exact ⟨g1, g2, g3⟩)
  have HM := zH hm
  have HN := zH hn
  unfold SPost at HRN HRB
  rw [hm] at HPE HCPY HRN HPC HRB HLW
  rw [hch] at HPE HS0 HLE
  rw [hse] at HS0 HLE
  rw [hce] at HCE HLE
  rw [hle] at HLM HLE
  rw [hoe] at HLE HOK HPR HSE HAB HCM HCZ HPC HONE HLOW
  rw [hec, hoc] at HRB
  rw [hlo, hel] at HLW
  rw [hrb] at HPC
  rw [hn] at HCE HOK HCR HPC HRB HLW HONE HRC hlc ⊢
  clear HEND hn hch hse hce hle hoe hec hoc hlo hel hrb hr hrc
  obtain ⟨s1, sr⟩ := s
  unfold plC at HPE HS0 HCPY HPR HSE HRN HPC HRB HLW ⊢
  dsimp only at HPE HS0 HCPY HPR HSE HRN HPC HRB HLW HOK ⊢
  rw [hm] at HPE HS0 HCPY HPR HSE HRN HAB HPC HRB HLW ⊢
  clear hm
  go_enter Tryz.func4, Tryz.ntmps4
  go_wp2_with fail
  obtain ⟨W, hW⟩ : ∃ W, ((w.alloc (.cells #[.slice a m cap, .int .i64 p.pump, .int .i64 p.on, .int .i64 p.off] 51)).alloc (.cells #[.int .i64 s1, .bool sr] 53)).alloc (.cells #[.slice ac n cc, .int .i64 lim] 56) = W := ⟨_, rfl⟩
  rw [hW]
  have K3 : Hid (Blk W w.heap.size #[.slice a m cap, .int .i64 p.pump, .int .i64 p.on, .int .i64 p.off]) := by subst hW; exact zH (((Blk.new _ _ _).alloc _).alloc _)
  have K4 : Hid (Blk W (w.heap.size + 1) #[.int .i64 s1, .bool sr]) := by subst hW; exact zH ((Blk.newAt _ _ _ (by simp)).alloc _)
  have K5 : Hid (Blk W (w.heap.size + 1 + 1) #[.slice ac n cc, .int .i64 lim]) := by subst hW; exact zH (Blk.newAt _ _ _ (by simp))
  have HB : Hid (Below w.heap.size w W) := by subst hW; exact zH (bAlloc (bAlloc (bAlloc (bSelf w) _) _) _)
  clear hW
  refine (HAW.out _).mono ?_
  rintro e y1 ⟨rfl, hb⟩
  replace K3 := zH (K3.out.to hb)
  replace K4 := zH (K4.out.to hb)
  replace K5 := zH (K5.out.to hb)
  replace HB := zH (bThen HB.out hb)
  clear hb HAW
  obtain ⟨-, k3, -⟩ := K3.out
  by_cases h8 : m ≤ 8
  case neg =>
    have h8' : (8 : Int) < (m : Int) := by omega
    go_wp2_with fail
    go_ret
    exact ⟨rfl, HB.out⟩
  have h8' : ¬ (8 : Int) < (m : Int) := by omega
  go_wp2_with fail
  clear k3
  refine (HPE.out _ h8 HB.out).mono ?_
  rintro e y2 ⟨rfl, hb⟩
  replace K3 := zH (K3.out.to hb)
  replace K4 := zH (K4.out.to hb)
  replace K5 := zH (K5.out.to hb)
  replace HB := zH (bThen HB.out hb)
  clear hb HPE
  by_cases h0 : ch = 0
  case neg =>
    have h0' : (ch != 0) = true := by simpa using h0
    go_wp2_with fail
    go_ret
    exact ⟨rfl, HB.out⟩
  subst h0
  obtain ⟨-, k3, -⟩ := K3.out
  obtain ⟨-, k4, -⟩ := K4.out
  go_wp2_with fail
  clear k3 k4
  refine (HS0.out _ (by first | rfl | trivial) HB.out).mono ?_
  rintro e y3 ⟨rfl, hb⟩
  replace K3 := zH (K3.out.to hb)
  replace K4 := zH (K4.out.to hb)
  replace K5 := zH (K5.out.to hb)
  replace HB := zH (bThen HB.out hb)
  clear hb HS0
  by_cases h0 : se = 0
  case neg =>
    have h0' : (se != 0) = true := by simpa using h0
    go_wp2_with fail
    go_ret
    exact ⟨rfl, HB.out⟩
  subst h0
  obtain ⟨-, k5, -⟩ := K5.out
  by_cases hn3 : n ≤ 3
  case neg =>
    have hn3' : (3 : Int) < (n : Int) := by omega
    go_wp2_with fail
    go_ret
    exact ⟨rfl, HB.out⟩
  have hn3' : ¬ (3 : Int) < (n : Int) := by omega
  go_wp2_with fail
  clear k5
  refine (HCE.out _ HB.out).mono ?_
  rintro e y4 ⟨rfl, hb⟩
  replace K3 := zH (K3.out.to hb)
  replace K4 := zH (K4.out.to hb)
  replace K5 := zH (K5.out.to hb)
  replace HB := zH (bThen HB.out hb)
  clear hb HCE
  by_cases h0 : ce = 0
  case neg =>
    have h0' : (ce != 0) = true := by simpa using h0
    go_wp2_with fail
    go_ret
    exact ⟨rfl, HB.out⟩
  subst h0
  obtain ⟨-, k5, -⟩ := K5.out
  go_wp2_with fail
  clear k5
  refine (HLM.out _).mono ?_
  rintro e w' ⟨rfl, rfl⟩
  clear HLM
  by_cases h0 : le = 0
  case neg =>
    have h0' : (le != 0) = true := by simpa using h0
    go_wp2_with fail
    go_ret
    exact ⟨rfl, HB.out⟩
  subst h0
  obtain rfl := HLE.out (by first | trivial | rfl) (by first | trivial | rfl) (by first | trivial | rfl) (by first | trivial | rfl)
  clear HLE
  replace HOK := zH (HOK.out rfl)
  replace HEN2 := zH (HEN2.out rfl)
  replace HPC := zH (fun W a1 c1 a2 c2 => HPC.out W a1 c1 a2 c2 rfl h8)
  replace HRN := zH (fun W a1 c1 a2 c2 ds => HRN.out W a1 c1 a2 c2 ds h8)
  replace HRB := zH (fun W a1 c1 a2 c2 => HRB.out W a1 c1 a2 c2 h8)
  replace HLW := zH (fun W a1 c1 a2 c2 => HLW.out W a1 c1 a2 c2 h8)
  replace HCPY := zH (fun W => HCPY.out W h8)
  replace HCR := zH (fun W => HCR.out W (by have := HN.out; omega))
  replace HPR := zH (fun W v => HPR.out W v rfl)
  replace HSE := zH (fun W x => HSE.out W x rfl)
  replace HAB := zH (fun W ar cr ro n ab => HAB.out W ar cr ro n ab rfl)
  replace HCM := zH (fun W v u => HCM.out W v u rfl)
  replace HCZ := zH (fun W v => HCZ.out W v rfl)
  replace HONE := zH (HONE.out rfl)
  replace HLOW := zH (HLOW.out rfl)
  clear h8' hn3'
  go_wp2_with fail
  obtain ⟨y8, hy8⟩ : ∃ u, y4.alloc (.cells #[.slice none 0 0] 28) = u := ⟨_, rfl⟩
  rw [hy8]
  have hb : Below y4.heap.size y4 y8 := by subst hy8; exact bAlloc (bSelf _) _
  have HLS0 : Hid (LsR y8 (some ⟨y4.heap.size, 0, none⟩) [[]] (fun _ => (none, 0))) := by subst hy8; exact zH (LsR.one _ _ rfl)
  replace K3 := zH (K3.out.to hb)
  replace K4 := zH (K4.out.to hb)
  replace K5 := zH (K5.out.to hb)
  replace HB := zH (bThen HB.out hb)
  replace HRC := zH (HRC.out.to HB.out)
  clear hb hy8
  go_loopw [7, 8, 9, 10, 11] (fun s7 s8 _ _ _ wr => ∃ (i : Nat) (Li : List (List Int)) (la : Option Addr) (lc : Nat) (da : Nat → Option Addr × Nat), s7 = .slice la Li.length lc ∧ s8 = .int .i64 i ∧ i ≤ n ∧ Hid (Li = lsP c i) ∧ Hid (∀ k, k < i → (fg c k).2 - (fg c k).1 ≤ 3) ∧ Hid (LsR wr la Li da) ∧ Hid (Below y8.heap.size y8 wr)) (fun _ s8 _ _ _ _ => n - (intOf s8).toNat)
  case atStart => exact ⟨0, [[]], _, 1, fun _ => (none, 0), rfl, rfl, Nat.zero_le _, zH (lsP_zero c).symm, zH (fun k hk => by omega), HLS0, zH (bSelf _)⟩
  case round =>
    clear HLS0
    obtain ⟨i, Li, la, lc, da, rfl, rfl, hi, HLI, H3, HLR, HR0⟩ := hrel
    obtain ⟨wo, hwo⟩ : ∃ wo, wo = wr := ⟨_, rfl⟩
    subst hwo
    by_cases hlt : i < n
    · as_aux_lemma =>
        have hic : i < c.length := by have := HN.out; omega
        obtain ⟨b, off, rfl, hb, hc⟩ := (HRC.out.to HR0.out).at (k := i * 2) (by omega)
        obtain ⟨⟨lo, hi'⟩, hv⟩ : ∃ v, fg c i = v := ⟨_, rfl⟩
        have C0 : Hid (wo.cell? ⟨b, off + i * 2, none⟩ = some (.int .i64 lo)) := zH (by have := hc (i * 2) (by omega); rw [fracs0, hv] at this; exact this)
        have C1 : Hid (wo.cell? ⟨b, off + i * 2 + 1, none⟩ = some (.int .i64 hi')) := zH (by have := hc (i * 2 + 1) (by omega); rw [fracs1, hv] at this; exact this)
        have hvb := HOK.out.1.2.2.2 i (by omega)
        rw [hv] at hvb
        dsimp only at hvb
        obtain ⟨hv0, hv1, hv2⟩ := hvb
        have HV := zH hv
        have K5o := zH (K5.out.to HR0.out)
        obtain ⟨-, k5, -⟩ := K5o.out
        clear hc hv
        by_cases h3 : hi' - lo ≤ 3
        case neg =>
          have h3' : (3 : Int) < hi' - lo := by omega
          go_wp2_with fail
          refine wp_region_quiet_all (fun w' => Below (World.heap wo).size (wo) w') (by kernel_rfl) (by kernel_rfl) (Below.refl _ _).drew ?_
          refine WQ.out ?_
          repeat (first | (refine WQ_no (by rfl) ?_; (simp only [Act.put, zzT, zzO, zzS])) | (refine WQ_yes (by rfl) ?_; apply Exists.intro; refine ⟨fun w1 hb1 => ?_, ?_⟩; (focus (((obtain ⟨-, k5, -⟩ := K5o.out.to hb1; have c0 := (hb1.cell (p := ⟨b, off + i * 2, none⟩) hb).trans C0.out; have c1 := (hb1.cell (p := ⟨b, off + i * 2 + 1, none⟩) hb).trans C1.out); have hb1 := zH hb1; go_simp); (try (go_bits; try go_simp)); (try (rw [if_pos (by omega)]; try go_simp)); (first | done | (with_reducible rfl) | exact rfl))); (simp only [Act.put, zzT, zzO, zzS])))
          refine WQ_nil ?_
          intro w1 hb1
          go_wp2_with fail
          go_ret
          exact ⟨rfl, bThen HB.out (bThen HR0.out hb1)⟩
        have h3' : ¬ (3 : Int) < hi' - lo := by omega
        go_wp2_with fail
        refine wp_region_quiet_all (fun w' => Below (World.heap wo).size (wo) w') (by kernel_rfl) (by kernel_rfl) (Below.refl _ _).drew ?_
        refine WQ.out ?_
        repeat (first | (refine WQ_no (by rfl) ?_; (simp only [Act.put, zzT, zzO, zzS])) | (refine WQ_yes (by rfl) ?_; apply Exists.intro; refine ⟨fun w1 hb1 => ?_, ?_⟩; (focus (((obtain ⟨-, k5, -⟩ := K5o.out.to hb1; have c0 := (hb1.cell (p := ⟨b, off + i * 2, none⟩) hb).trans C0.out; have c1 := (hb1.cell (p := ⟨b, off + i * 2 + 1, none⟩) hb).trans C1.out); have hb1 := zH hb1; go_simp); (try (go_bits; try go_simp)); (try (rw [if_pos (by omega)]; try go_simp)); (first | done | (with_reducible rfl) | exact rfl))); (simp only [Act.put, zzT, zzO, zzS])))
        refine WQ_nil ?_
        intro w1 hb1
        replace HR0 := zH (bThen HR0.out hb1)
        replace HLR := zH (HLR.out.to hb1)
        replace C0 := zH ((hb1.cell (p := ⟨b, off + i * 2, none⟩) hb).trans C0.out)
        replace C1 := zH ((hb1.cell (p := ⟨b, off + i * 2 + 1, none⟩) hb).trans C1.out)
        replace K5o := zH (K5o.out.to hb1)
        replace hb := Nat.lt_of_lt_of_le hb hb1.size
        clear hb1 k5
        obtain ⟨yM, hyM⟩ : ∃ y, y = w1 := ⟨_, rfl⟩
        subst hyM
        obtain ⟨cnt, hcnt⟩ : ∃ t : Nat, (hi' - lo + 1).toNat = t := ⟨_, rfl⟩
        have HCN : Hid ((cnt : Int) = hi' - lo + 1) := zH (by omega)
        have HCL : Hid ((rngL (lo, hi')).length = cnt) := zH (by rw [rngLn]; exact hcnt)
        obtain ⟨nl, hnl⟩ : ∃ t, Li.length = t := ⟨_, rfl⟩
        have HNL := zH hnl
        have h64 : nl ≤ 64 := by rw [← hnl, HLI.out]; exact lsP_64 H3.out (by omega) (by have := HN.out; omega)
        rw [hnl]
        clear hcnt hnl h3'
        go_wp2_with fail
        go_loopw [9, 10, 11] (fun s9 s10 _ wr => ∃ (k : Nat) (Lk : List (List Int)) (va : Option Addr) (vc : Nat) (db : Nat → Option Addr × Nat), s9 = .slice va Lk.length vc ∧ s10 = .int .i64 k ∧ k ≤ nl ∧ Hid (Lk = allN (Li.take k) (lo, hi')) ∧ Hid (LsO wr yM.heap.size (.slice va Lk.length vc) Lk db) ∧ Hid (Below yM.heap.size yM wr)) (fun _ s10 _ _ => nl - (intOf s10).toNat)
        case atStart => exact ⟨0, [], none, 0, fun _ => (none, 0), rfl, rfl, Nat.zero_le _, zH rfl, zH (LsO.nil _ _), zH (bSelf _)⟩
        case round =>
          obtain ⟨k, Lk, va, vc, db, rfl, rfl, hk, HLK, HLO, HR1⟩ := hrel
          obtain ⟨wk, hwk⟩ : ∃ wo, wo = wr := ⟨_, rfl⟩
          subst hwk
          by_cases hkn : k < nl
          · have hkL : Hid (k < Li.length) := zH (by rw [HNL.out]; exact hkn)
            have K5k := zH (K5o.out.to HR1.out)
            obtain ⟨-, k5, -⟩ := K5k.out
            have c0 := (HR1.out.cell (p := ⟨b, off + i * 2, none⟩) hb).trans C0.out
            go_wp2_with fail
            clear k5 c0
            go_loopw [9, 11] (fun s9 s11 wr => ∃ (j : Nat) (Lj : List (List Int)) (va : Option Addr) (vc : Nat) (db : Nat → Option Addr × Nat), s9 = .slice va Lj.length vc ∧ s11 = .int .i64 (lo + (j : Int)) ∧ j ≤ cnt ∧ Hid (Lj = lsJ Li (lo, hi') k j) ∧ Hid (LsO wr yM.heap.size (.slice va Lj.length vc) Lj db) ∧ Hid (Below yM.heap.size yM wr)) (fun _ s11 _ => cnt - (intOf s11 - lo).toNat)
            case atStart => exact ⟨0, Lk, va, vc, db, rfl, by first | go_num | simp, Nat.zero_le _, zH (by rw [HLK.out, lsJ_zero]), HLO, HR1⟩
            case round =>
              clear HLO HR1 HLK K5k
              obtain ⟨j, Lj, va, vc, db, rfl, rfl, hj, HLJ, HLO, HR1⟩ := hrel
              obtain ⟨wj, hwj⟩ : ∃ wo, wo = wr := ⟨_, rfl⟩
              subst hwj
              obtain ⟨-, k5, -⟩ := K5o.out.to HR1.out
              have c1 := (HR1.out.cell (p := ⟨b, off + i * 2 + 1, none⟩) hb).trans C1.out
              obtain ⟨od, hod⟩ : ∃ o, lo + (j : Int) = o := ⟨_, rfl⟩
              have HOD := zH hod
              by_cases hjn : j < cnt
              · have hle : od ≤ hi' := by have := HCN.out; omega
                have hod0 : 0 ≤ od := by omega
                rw [hod]
                clear hod
                obtain ⟨lb, lo2, rfl, hlb, hlc2⟩ := (HLR.out.to HR1.out).rd.at (k := k) hkL.out
                obtain ⟨⟨xa, xc⟩, hda⟩ : ∃ x, da k = x := ⟨_, rfl⟩
                obtain ⟨ds, hds⟩ : ∃ d, ll Li k = d := ⟨_, rfl⟩
                have hdl : ds.length = i := lsP_in (c := c) (by omega) (by rw [← hds, ← HLI.out]; exact ll_mem hkL.out)
                have hx0 := hlc2 k hkL.out
                have hdm := (HLR.out.to HR1.out).dm k hkL.out
                unfold lsF at hx0
                rw [hda, hds] at hx0 hdm
                dsimp only at hx0 hdm
                have HCI := zH (CopyInts_row ds xa xc wj (by omega) hdm)
                have HST := zH (fun (u1 w8 w9 : World) (v' : Value) (a1 a2 : Option Addr) (c1 c2 : Nat) (o1 o2 : Obj) => LsO.step (y := yM) (wr := wj) (u1 := u1) (w8 := w8) (w9 := w9) (v' := v') (ds := ds) (od := od) (a1 := a1) (a2 := a2) (c1 := c1) (c2 := c2) (o1 := o1) (o2 := o2) HLO.out HR1.out HR1.out.size)
                have HLJ2 : Hid (Lj ++ [ds ++ [od]] = lsJ Li (lo, hi') k (j + 1)) := zH (by rw [HLJ.out, lsJ_succ Li (lo, hi') k (by rw [HCL.out]; exact hjn), hds]; dsimp only; rw [HOD.out])
                have h64j : Lj.length ≤ 256 := by
                  rw [HLJ.out]
                  exact Nat.le_trans (lsJ_len (by dsimp only; omega) hkL.out) (by have := HNL.out; omega)
                unfold ROwn at HCI
                obtain ⟨nd, hnd⟩ : ∃ t, ds.length = t := ⟨_, rfl⟩
                obtain ⟨nj, hnj⟩ : ∃ t, Lj.length = t := ⟨_, rfl⟩
                rw [hnd] at HCI HST hx0
                rw [hnj] at HST h64j ⊢
                have HNJ := zH hnj
                have hnd3 : nd ≤ 3 := by omega
                have HOL := zH (show wj.ownsRow yM.heap.size 28 1 (.slice va nj vc) nj (lcells Lj db) from by have := HLO.out.own; rw [hnj] at this; exact this)
                have hsM := HR1.out.size
                have HSM := zH hsM
                clear hlc2 hdm hda hds hdl hnd hnj hsM
                go_wp2_with fail
                clear k5 c1
                refine HCI.out.mono ?_
                rintro e u1 ⟨v1, rfl, ho1, hbc⟩
                obtain ⟨xa1, xc1, rfl⟩ := ownsRow_sl ho1
                have HO1 := zH ho1
                have HBC := zH hbc
                have HOA := zH (owns_to ho1 (bAlloc (bSelf u1) (.cells #[.int .i64 od] 3)))
                have HNW := zH (Blk.new u1 #[.int .i64 od] 3).news
                have HSU : Hid (wj.heap.size ≤ u1.heap.size) := zH hbc.size
                clear ho1 hbc HCI hx0
                go_wp2_with (first | (at_builtin; refine wpList_app wj.heap.size rtInt rfl (.tmp 116) (.tmp 118) rfl _ nd _ rfl HOA.out ⟨u1.heap.size, 0, none⟩ 1 1 [.int .i64 od] rfl rfl (by simpa using HNW.out) (ones [od]) (by unfold maxLen; omega) (by omega) (by have := HSU.out; simp only [World.size_alloc]; omega) ?_; intro v' w8 hown' hgrow _ hwhere; obtain ⟨xa2, xc2, rfl⟩ := ownsRow_sl hown'; have HO2 := zH hown'; have HG2 := zH hgrow; have HB8 : Hid (Below wj.heap.size wj w8) := zH ((bAlloc HBC.out _).grown hgrow (by have := HSU.out; simp only [World.size_alloc]; omega) (fun k e => (HO1.out.lt k e).1)); have HOB := zH (owns_to (owns_to HOL.out HB8.out) (bAlloc (bSelf w8) (.cells #[.slice xa2 (nd + 1) xc2] 28))); have HNW2 := zH (Blk.new w8 #[.slice xa2 (nd + 1) xc2] 28).news; clear hown' hgrow hwhere) | (at_builtin; go_loud (refine wpList_app yM.heap.size rtLst rfl (.tmp 111) (.tmp 120) rfl _ nj _ rfl HOB.out ⟨w8.heap.size, 0, none⟩ 1 1 [.slice xa2 (nd + 1) xc2] rfl rfl (by simpa using HNW2.out) (by intro u hu; simp only [List.mem_cons, List.not_mem_nil, or_false] at hu; subst hu; rfl) (by unfold maxLen; omega) (by omega) (by have := HB8.out.size; have := HSM.out; simp only [World.size_alloc]; omega) ?_; intro v' w9 hown' hgrow _ hwhere; have hst := HST.out u1 w8 w9 v' xa1 xa2 xc1 xc2 (.cells #[.int .i64 od] 3) (.cells #[.slice xa2 (nd + 1) xc2] 28) HBC.out HO1.out HO2.out HG2.out hown' hgrow hwhere; obtain ⟨xa3, xc3, rfl⟩ := ownsRow_sl hown'; have HS9 := zH hst.1; have HB9 := zH hst.2; clear hown' hgrow hwhere hst)))
                go_roundw
                case rel => exact ⟨j + 1, Lj ++ [ds ++ [od]], xa3, xc3, _, by rw [List.length_append, HNJ.out]; rfl, by rw [show od + 1 = lo + ((j + 1 : Nat) : Int) by have := HOD.out; omega], by omega, HLJ2, zH (by have := HS9.out; rw [List.length_append, HNJ.out]; exact this), HB9⟩
                case measure => have := HOD.out; have := HCN.out; simp [intOf]; omega
              · obtain rfl : cnt = j := by omega
                have hgt : ¬ lo + (cnt : Int) ≤ hi' := by have := HCN.out; omega
                have hbd : lo + (cnt : Int) ≤ 51 := by have := HCN.out; omega
                clear hod
                go_wp2_with fail
                go_roundw
                case rel => exact ⟨k + 1, Lj, va, vc, db, rfl, by go_num, by omega, zH (by rw [HLJ.out]; exact lsJ_full Li (lo, hi') hkL.out (by rw [HCL.out]; omega)), HLO, HR1⟩
                case measure => simp [intOf]; omega
          · obtain rfl : nl = k := by omega
            obtain ⟨va', vc', e, hcp, hrd⟩ := HLO.out.enc
            cases e
            have HRD := zH hrd
            clear hcp hrd
            go_wp2_with fail
            go_roundw
            case rel => exact ⟨i + 1, Lk, va, vc, db, rfl, by go_num, by omega, zH (by rw [HLK.out, ← HNL.out, List.take_length, lsP_succ hic, HLI.out, HV.out]), zH (fun q hq => by
              by_cases h : q = i
              · subst h; rw [HV.out]; exact h3
              · exact H3.out q (by omega)), HRD, zH (bThen HR0.out HR1.out)⟩
            case measure => simp [intOf]; omega
    · obtain rfl : n = i := by omega
      have HLD : Hid (Li = allD c) := zH (by rw [HLI.out, ← HN.out]; exact lsP_all c)
      replace K3 := zH (K3.out.to HR0.out)
      replace K4 := zH (K4.out.to HR0.out)
      replace K5 := zH (K5.out.to HR0.out)
      replace HB := zH (bThen HB.out HR0.out)
      obtain ⟨nL, hnL⟩ : ∃ t, Li.length = t := ⟨_, rfl⟩
      have HNL := zH hnL
      have h64 : nL ≤ 64 := by rw [← hnL, HLI.out]; exact lsP_64 H3.out (by have := HN.out; omega) (by have := HN.out; omega)
      rw [hnL]
      rw [← HLD.out] at HONE HLOW HZ1 HZN HEN2
      rw [hnL] at HONE HLOW HZ1 HEN2
      clear hnL HLI H3 HRC HR0
      obtain ⟨yL, hyL⟩ : ∃ y, y = wo := ⟨_, rfl⟩
      subst hyL
      obtain ⟨-, k3, -⟩ := K3.out
      obtain ⟨-, k4, -⟩ := K4.out
      obtain ⟨-, k5, -⟩ := K5.out
      go_wp2_with fail
      clear k3 k4 k5
      refine (HPR.out _ s1 HOK.out.1.2.1 HB.out).mono ?_
      rintro e y10 ⟨a1, a2, v, rfl, hrr, hb, hloc⟩
      have HR1 := zH hrr
      have HB10 := zH hb
      obtain ⟨t1, n1, c1, t2, n2, c2, rfl, -, -⟩ := hrr.ex
      clear hb hloc hrr
      go_wp2_with fail
      obtain ⟨y11, hy11⟩ : ∃ u, y10.alloc (.cells #[.int .i64 t1, .slice a1 n1 c1, .int .i64 t2, .slice a2 n2 c2] 65) = u := ⟨_, rfl⟩
      rw [hy11]
      have hb : Below y10.heap.size y10 y11 := by subst hy11; exact bAlloc (bSelf _) _
      have KBX : Hid (Blk y11 y10.heap.size #[.int .i64 t1, .slice a1 n1 c1, .int .i64 t2, .slice a2 n2 c2]) := by subst hy11; exact zH (Blk.new _ _ _)
      have LBX := zH HR1.out.locNe
      have HE0 : Hid (yL.heap.size ≤ y10.heap.size) := zH HB10.out.size
      replace HR1 := zH (HR1.out.to hb)
      have HRL0 := zH (bThen HB10.out hb)
      clear HB10 hb hy11
      obtain ⟨BX, hBX⟩ : ∃ u, y10.heap.size = u := ⟨_, rfl⟩
      rw [hBX] at KBX LBX HE0 ⊢
      clear hBX
      obtain ⟨EX, hEX⟩ : ∃ u, y11.heap.size = u := ⟨_, rfl⟩
      have HEX : Hid (BX < EX) := zH (by rw [← hEX]; exact KBX.out.1)
      have HEY : Hid (EX ≤ y11.heap.size) := zH (by omega)
      clear hEX
      have HLW0 : Hid (LowM y11 BX EX (rPr p.pts s1) [] (.slice none 0 0) a1 a2 t1 t2 n1 c1 n2 c2) := zH ⟨KBX.out, HR1.out, LBX.out, ⟨fun _ _ _ e => (by cases e), fun _ _ _ e => (by cases e)⟩, ⟨by simp [scells], .inl ⟨rfl, rfl⟩⟩, HEX.out⟩
      clear KBX LBX HR1
      go_loopw [12, 13, 14, 16, 17, 18, 19, 20, 21, 22] (fun s12 s13 s14 s16 s17 _ _ _ _ _ wr => ∃ (i : Nat) (kp em : Bool) (tk lv : Int) (en : List OSt) (va : Option Addr) (vc : Nat) (a1 a2 : Option Addr) (t1 t2 : Int) (n1 c1 n2 c2 : Nat), s12 = .bool kp ∧ s13 = .bool em ∧ s14 = .int .i64 tk ∧ s16 = .slice va en.length vc ∧ s17 = .int .i64 i ∧ i ≤ nL ∧ Hid (zI p (s1, sr) lim Li i = ⟨kp, em, (tk, lv), en⟩) ∧ Hid (LowM wr BX EX (rPr p.pts lv) en (.slice va en.length vc) a1 a2 t1 t2 n1 c1 n2 c2) ∧ Hid (EX ≤ wr.heap.size) ∧ Hid (Below yL.heap.size yL wr)) (fun _ _ _ _ s17 _ _ _ _ _ _ => nL - (intOf s17).toNat)
      case atStart => exact ⟨0, true, false, 0, s1, [], none, 0, a1, a2, t1, t2, n1, c1, n2, c2, rfl, rfl, rfl, rfl, rfl, Nat.zero_le _, zH rfl, HLW0, HEY, HRL0⟩
      case round =>
        clear HLW0 HRL0 HEY
        obtain ⟨i, kp, em, tk, lv, en, va, vc, a1, a2, t1, t2, n1, c1, n2, c2, rfl, rfl, rfl, rfl, rfl, hi, HZI, HLM, HES, HR0⟩ := hrel
        obtain ⟨wo, hwo⟩ : ∃ wo, wo = wr := ⟨_, rfl⟩
        subst hwo
        by_cases hlt : i < nL
        · as_aux_lemma =>
            obtain ⟨hdl, hcase⟩ := HONE.out i hlt
            have hLi : Hid (i < Li.length) := zH (by rw [HNL.out]; exact hlt)
            have hzs := HZ1.out i hlt
            have hlow := HLOW.out i (by omega)
            rw [HZI.out] at hzs hlow
            obtain ⟨lb, lo2, rfl, hlb, hlc2⟩ := (HLR.out.to HR0.out).rd.at (k := i) hLi.out
            obtain ⟨⟨xa, xc⟩, hda⟩ : ∃ x, da i = x := ⟨_, rfl⟩
            have hdm := (HLR.out.to HR0.out).dm i hLi.out
            have hx0 := hlc2 i hLi.out
            obtain ⟨ds, hds⟩ : ∃ d, ll Li i = d := ⟨_, rfl⟩
            unfold lsF at hx0
            rw [hda, hds] at hx0 hdm
            rw [hds] at hdl hcase hzs
            dsimp only at hx0 hdm hlow
            have HCI := zH (fun W (hb : Below wo.heap.size wo W) => CopyInts_any ds xa xc W (by omega) (hdm.to hb))
            have HRD := zH (fun W a1 c1 a2 c2 h1 h2 => HRN.out W a1 c1 a2 c2 ds (by omega) h1 h2)
            have HOKF := zH (fun (h : rnR p (s1, sr) ds = 0) => obF_ok (lim := lim) (z := (⟨kp, em, (tk, lv), en⟩ : ObS)) h)
            have HNOF := zH (fun (h : rnR p (s1, sr) ds ≠ 0) => obF_no (lim := lim) (z := (⟨kp, em, (tk, lv), en⟩ : ObS)) h)
            obtain ⟨ro, hro⟩ : ∃ r, runO p (s1, sr) ds = r := ⟨_, rfl⟩
            obtain ⟨rn, hrn⟩ : ∃ r, rnR p (s1, sr) ds = r := ⟨_, rfl⟩
            rw [hro, hrn] at hcase HRD
            rw [hro, hrn, hdl] at HOKF
            rw [hrn] at HNOF
            rw [hdl] at HCI HRD hx0
            have HZS := zH hzs
            have HX0 := zH hx0
            obtain ⟨nr, hnr⟩ : ∃ t, ro.length = t := ⟨_, rfl⟩
            have HNR := zH hnr
            rw [hnr] at hcase HRD
            have HBo := zH (bThen HB.out HR0.out)
            have K3o := zH (K3.out.to HR0.out)
            have K4o := zH (K4.out.to HR0.out)
            have K5o := zH (K5.out.to HR0.out)
            have hlv := hlow
            clear hlc2 hdm hx0 hda hds hzs hro hrn hdl hnr hlow HRN HONE HZ1 HLOW
            go_wp2_with fail
            refine wp_region_tree (by kernel_rfl) (fun wd hwd => ?_)
            have T := zH hwd
            clear hwd
            refine WTq 0 ?_; apply Exists.intro; refine ⟨fun w1 hb1 => ?_, ?_⟩; (focus (((obtain ⟨-, k3, -⟩ := K3o.out.to (T.out.trans hb1)); have hb1 := zH hb1; go_simp); (try (go_bits; try go_simp)); (try (rw [if_pos (by omega)]; try go_simp)); (first | done | (with_reducible rfl) | exact rfl)))
            simp only [Act.put, zzT, zzO, zzS]
            refine WTq 2 ?_; apply Exists.intro; refine ⟨fun w1 hb1 => ?_, ?_⟩; (focus (((obtain ⟨-, k4, -⟩ := K4o.out.to (T.out.trans hb1)); have hb1 := zH hb1; go_simp); (try (go_bits; try go_simp)); (try (rw [if_pos (by omega)]; try go_simp)); (first | done | (with_reducible rfl) | exact rfl)))
            simp only [Act.put, zzT, zzO, zzS]
            refine WTq 3 ?_; apply Exists.intro; refine ⟨fun w1 hb1 => ?_, ?_⟩; (focus ((have hb1 := zH hb1; go_simp); (try (go_bits; try go_simp)); (try (rw [if_pos (by omega)]; try go_simp)); (first | done | (with_reducible rfl) | exact rfl)))
            simp only [Act.put, zzT, zzO, zzS]
            refine WTq 4 ?_; apply Exists.intro; refine ⟨fun w1 hb1 => ?_, ?_⟩; (focus ((have hb1 := zH hb1; go_simp); (try (go_bits; try go_simp)); (try (rw [if_pos (by omega)]; try go_simp)); (first | done | (with_reducible rfl) | exact rfl)))
            simp only [Act.put, zzT, zzO, zzS]
            refine WTq 5 ?_; apply Exists.intro; refine ⟨fun w1 hb1 => ?_, ?_⟩; (focus ((have hb1 := zH hb1; go_simp); (try (go_bits; try go_simp)); (try (rw [if_pos (by omega)]; try go_simp)); (first | done | (with_reducible rfl) | exact rfl)))
            simp only [Act.put, zzT, zzO, zzS]
            refine WTq 6 ?_; apply Exists.intro; refine ⟨fun w1 hb1 => ?_, ?_⟩; (focus (((have x0 := ((T.out.trans hb1).cell (p := ⟨lb, lo2 + i, none⟩) hlb).trans HX0.out); have hb1 := zH hb1; go_simp); (try (go_bits; try go_simp)); (try (rw [if_pos (by omega)]; try go_simp)); (first | done | (with_reducible rfl) | exact rfl)))
            simp only [Act.put, zzT, zzO, zzS]
            refine WT_one 1 rfl (by kernel_rfl) ?_
            unfold stepT
            go_wp2_with fail
            refine (HCPY.out _ (bThen HBo.out T.out)).mono ?_
            rintro e g1 ⟨a9, c9, rfl, -, hr1, hb, -⟩
            have HR1 := zH hr1
            clear hr1
            unfold plC
            rw [HM.out] at HR1 ⊢
            have hbd := zH (hb.mono T.out.size)
            replace T := zH (bThen T.out hb)
            clear hb
            go_wp2_with fail
            refine ⟨hbd.out, ?_⟩
            clear hbd
            refine WT_one 7 rfl (by kernel_rfl) ?_
            unfold stepT
            go_wp2_with fail
            refine (HCI.out _ T.out).mono ?_
            rintro e g2 ⟨a8, c8, rfl, -, hr2, hb, -⟩
            have HR2 := zH hr2
            clear hr2
            replace HR1 := zH (HR1.out.to hb)
            have hbd := zH (hb.mono T.out.size)
            replace T := zH (bThen T.out hb)
            clear hb
            go_wp2_with fail
            refine ⟨hbd.out, ?_⟩
            clear hbd
            refine WT_one 8 rfl (by kernel_rfl) ?_
            unfold stepT
            go_wp2_with fail
            refine (HRD.out _ _ _ _ _ HR1.out HR2.out).mono ?_
            rintro e g3 ⟨aR, cR, rfl, hcR, hrR, hb, hfr⟩
            have HRR := zH hrR
            have HFR := zH (fun q hq => Nat.le_trans T.out.size (hfr q hq))
            clear hrR hfr hcR HR1 HR2
            have hbd := zH (hb.mono T.out.size)
            replace T := zH (bThen T.out hb)
            clear hb
            go_wp2_with fail
            refine ⟨hbd.out, ?_⟩
            clear hbd
            refine WTq 9 ?_; apply Exists.intro; refine ⟨fun w1 hb1 => ?_, ?_⟩; (focus ((have hb1 := zH hb1; go_simp); (try (go_bits; try go_simp)); (try (rw [if_pos (by omega)]; try go_simp)); (first | done | (with_reducible rfl) | exact rfl)))
            simp only [Act.put, zzT, zzO, zzS]
            refine WTq 10 ?_; apply Exists.intro; refine ⟨fun w1 hb1 => ?_, ?_⟩; (focus ((have hb1 := zH hb1; go_simp); (try (go_bits; try go_simp)); (try (rw [if_pos (by omega)]; try go_simp)); (first | done | (with_reducible rfl) | exact rfl)))
            simp only [Act.put, zzT, zzO, zzS]
            refine WTq 11 ?_; apply Exists.intro; refine ⟨fun w1 hb1 => ?_, ?_⟩; (focus ((have hb1 := zH hb1; go_simp); (try (go_bits; try go_simp)); (try (rw [if_pos (by omega)]; try go_simp)); (first | done | (with_reducible rfl) | exact rfl)))
            simp only [Act.put, zzT, zzO, zzS]
            refine WTq 12 ?_; apply Exists.intro; refine ⟨fun w1 hb1 => ?_, ?_⟩; (focus ((have hb1 := zH hb1; go_simp); (try (go_bits; try go_simp)); (try (rw [if_pos (by omega)]; try go_simp)); (first | done | (with_reducible rfl) | exact rfl)))
            simp only [Act.put, zzT, zzO, zzS]
            refine WTq 13 ?_; apply Exists.intro; refine ⟨fun w1 hb1 => ?_, ?_⟩; (focus ((have hb1 := zH hb1; go_simp); (try (go_bits; try go_simp)); (try (rw [if_pos (by omega)]; try go_simp)); (first | done | (with_reducible rfl) | exact rfl)))
            simp only [Act.put, zzT, zzO, zzS]
            refine WT_done (by kernel_rfl) ?_
            replace HR0 := zH (HR0.out.trans (T.out.mono HR0.out.size))
            replace HLM := zH (HLM.out.to T.out)
            have HES0 := HES
            replace HES := zH (Nat.le_trans HES.out T.out.size)
            replace HBo := zH (bThen HBo.out T.out)
            replace K3o := zH (K3o.out.to T.out)
            replace K5o := zH (K5o.out.to T.out)
            replace HX0 := zH ((T.out.cell (p := ⟨lb, lo2 + i, none⟩) hlb).trans HX0.out)
            clear K4o HCI HRD
            have HFX : Hid (∀ q, aR = some q → q.block ≠ BX) := zH (fun q hq => by
              have h1 := HFR.out q hq
              have h2 := HLM.out.lt
              have h3 := HES0.out
              omega)
            clear T HFR HES0
            obtain ⟨wa, hwa⟩ : ∃ z, z = g3 := ⟨_, rfl⟩
            subst hwa
            rcases hcase with rfl | ⟨rfl, rfl, hok⟩
            · have hz2 := HZS.out
              rw [HNOF.out (by decide)] at hz2
              have HZ2 := zH hz2
              clear hz2 HZS HOKF HNOF hlv
              go_wp2_with fail
              go_roundw
              case rel => exact ⟨i + 1, false, true, tk, lv, en, va, vc, a1, a2, t1, t2, n1, c1, n2, c2, rfl, rfl, rfl, rfl, by go_num, by omega, HZ2, HLM, HES, HR0⟩
              case measure => simp [intOf]; omega
            · as_aux_lemma =>
                have hz2 := HZS.out
                rw [HOKF.out rfl] at hz2
                try dsimp only at hz2
                obtain ⟨ab, hab⟩ : ∃ b, ro.all (fun x => !blwQ p lim x) = b := ⟨_, rfl⟩
                rw [hab] at hz2
                have HZ2 := zH hz2
                have HOKS := zH hok
                have HABV := zH (fun W (hb : Below w.heap.size w W) h3 => HAB.out W aR cR ro (n + 1) ab HNR.out (by omega) hok hb h3 hab)
                clear hz2 hab hok HZS HOKF HNOF HAB
                have x0 := HX0.out
                have hnn : ((n + 1 : Nat) : Int) = (n : Int) + 1 := by omega
                go_upto_region 31 with (fail)
                clear x0 HX0
                go_cut [12] from 160 to 167 (fun s12 wc => s12 = .bool (kp && ab) ∧ Hid (Below wa.heap.size wa wc))
                case first =>
                  cases kp
                  · go_wp2_with fail
                    go_meet
                    case rel => exact ⟨by first | rfl | simp, zH (bSelf _)⟩
                  · obtain ⟨-, k3, -⟩ := K3o.out
                    obtain ⟨-, k5, -⟩ := K5o.out
                    go_wp2_with fail
                    refine (HABV.out _ HBo.out HRR.out).mono ?_
                    rintro e u1 ⟨rfl, hb⟩
                    have hb' := zH hb
                    clear hb k3 k5
                    go_wp2_with fail
                    go_meet
                    case rel => exact ⟨by first | rfl | simp, hb'⟩
                obtain ⟨wb, hwb⟩ : ∃ wo, wo = wc := ⟨_, rfl⟩
                subst hwb
                obtain ⟨rfl, hb⟩ := hcut
                replace hb := hb.out
                replace HR0 := zH (HR0.out.trans (hb.mono HR0.out.size))
                replace HLM := zH (HLM.out.to hb)
                replace HES := zH (Nat.le_trans HES.out hb.size)
                replace HRR := zH (HRR.out.to hb)
                clear hb HABV HBo K3o K5o
                obtain ⟨kq, hkq⟩ : ∃ b, (kp && ab) = b := ⟨_, rfl⟩
                rw [hkq] at HZ2 ⊢
                obtain ⟨tk0, htk0⟩ : ∃ t, t = tk := ⟨_, rfl⟩
                obtain ⟨lv0, hlv0⟩ : ∃ t, t = lv := ⟨_, rfl⟩
                have HOBI := zH (fun k => obT_in (l := ro) (st := (tk, lv)) (A := 0) (B := capV p.pts) hlv (fun j hj => HOKS.out j (by rw [HNR.out] at hj; exact hj)) k)
                have HOBT := zH (fun k (hk : k < n + 1) => obT_take (l := ro) (st := (tk, lv)) (k := k) (by rw [HNR.out]; exact hk))
                have HOBF : Hid (obT 0 (tk, lv) ro = obT 0 (tk, lv) (ro.take (n + 1))) := zH (by rw [List.take_of_length_le (by rw [HNR.out]; omega)])
                rw [HOBF.out] at HZ2
                clear hkq HOBF htk0 hlv0 hlv
                go_wp2_with fail
                go_loopw [14, 20, 21, 22] (fun s14 s20 _ _ wr => ∃ (k : Nat) (tj lj : Int) (a1 a2 : Option Addr) (t1 t2 : Int) (n1 c1 n2 c2 : Nat), s14 = .int .i64 tj ∧ s20 = .int .i64 k ∧ k ≤ n + 1 ∧ Hid (obT 0 (tk, lv) (ro.take k) = (tj, lj)) ∧ Hid (LowM wr BX EX (rPr p.pts lj) en (.slice va en.length vc) a1 a2 t1 t2 n1 c1 n2 c2) ∧ Hid (Reads wr aR ((n + 1) * 2) (osts ro)) ∧ Hid (EX ≤ wr.heap.size) ∧ Hid (Below yL.heap.size yL wr)) (fun _ s20 _ _ _ => n + 1 - (intOf s20).toNat)
                case atStart => exact ⟨0, tk, lv, a1, a2, t1, t2, n1, c1, n2, c2, rfl, rfl, Nat.zero_le _, zH rfl, HLM, HRR, HES, HR0⟩
                case round =>
                  clear HLM HRR HES HR0
                  obtain ⟨k, tj, lj, a1, a2, t1, t2, n1, c1, n2, c2, rfl, rfl, hk, HOB, HLM, HRR, HES, HR0⟩ := hrel
                  obtain ⟨wt, hwt⟩ : ∃ wo, wo = wr := ⟨_, rfl⟩
                  subst hwt
                  by_cases hkn : k < n + 1
                  · as_aux_lemma =>
                      obtain ⟨g, go, rfl, hg, hgc⟩ := HRR.out.at (k := k * 2) (by omega)
                      obtain ⟨⟨x1, d1⟩, hz⟩ : ∃ q, sg ro k = q := ⟨_, rfl⟩
                      have E0 : Hid (wt.cell? ⟨g, go + k * 2, none⟩ = some (.int .i64 x1)) := zH (by rw [hgc _ (by omega), osts0, hz])
                      have E1 : Hid (wt.cell? ⟨g, go + k * 2 + 1, none⟩ = some (.bool d1)) := zH (by rw [Nat.add_assoc, hgc _ (by omega), osts1, hz])
                      have hst := HOKS.out k hkn
                      have hot := HOBT.out k hkn
                      have hoi := HOBI.out k
                      rw [HOB.out] at hot hoi
                      rw [hz] at hot hst
                      dsimp only at hot hoi
                      have HOT := zH hot
                      have HS1 := zH (fun W hb => HSE.out W (x1, d1) hst hb)
                      have HP1 := zH (fun W hb => HPR.out W x1 hst hb)
                      have HC1 := zH (fun W a1 a2 b1 b2 v1 v2 => HCM.out W x1 lj hst hoi a1 a2 b1 b2 v1 v2)
                      have HBt := zH (bThen HB.out HR0.out)
                      have K3t := zH (K3.out.to HR0.out)
                      clear hgc hz hst hot hoi
                      go_wp2_with fail
                      refine wp_region_quiet_all (fun w' => Below (World.heap wt).size (wt) w') (by kernel_rfl) (by kernel_rfl) (Below.refl _ _).drew ?_
                      refine WQ.out ?_
                      repeat (first | (refine WQ_no (by rfl) ?_; (simp only [Act.put, zzT, zzO, zzS])) | (refine WQ_yes (by rfl) ?_; apply Exists.intro; refine ⟨fun w1 hb1 => ?_, ?_⟩; (focus (((obtain ⟨-, k3, -⟩ := K3t.out.to hb1; have e0 := (hb1.cell (p := ⟨g, go + k * 2, none⟩) hg).trans E0.out; have e1 := (hb1.cell (p := ⟨g, go + k * 2 + 1, none⟩) hg).trans E1.out); have hb1 := zH hb1; go_simp); (try (go_bits; try go_simp)); (try (rw [if_pos (by omega)]; try go_simp)); (first | done | ((go_at_call 21; refine (HS1.out _ (bThen HBt.out hb1.out)).mono ?_; rintro e w' ⟨rfl, hb⟩; exact ⟨rfl, bThen hb1.out hb⟩)) | (with_reducible rfl) | exact rfl))); (simp only [Act.put, zzT, zzO, zzS])))
                      refine WQ_nil ?_
                      intro w1 hb1
                      replace HR0 := zH (HR0.out.trans (hb1.mono HR0.out.size))
                      replace HLM := zH (HLM.out.to hb1)
                      replace HRR := zH (HRR.out.to hb1)
                      replace HES := zH (Nat.le_trans HES.out hb1.size)
                      replace HBt := zH (bThen HBt.out hb1)
                      replace K3t := zH (K3t.out.to hb1)
                      replace E0 := zH ((hb1.cell (p := ⟨g, go + k * 2, none⟩) hg).trans E0.out)
                      replace hg := Nat.lt_of_lt_of_le hg hb1.size
                      clear hb1 HS1 E1
                      obtain ⟨wv, hwv⟩ : ∃ wo, wo = w1 := ⟨_, rfl⟩
                      subst hwv
                      go_wp2_with fail
                      go_upto_region 37 with (fail)
                      go_cut [21] from 181 to 187 (fun s21 wc => ∃ (BN : Nat) (b1 b2 : Option Addr) (t3 t4 : Int) (n3 c3 n4 c4 : Nat), s21 = .pointer (some ⟨BN, 0, none⟩) ∧ Hid (Blk wc BN #[.int .i64 t3, .slice b1 n3 c3, .int .i64 t4, .slice b2 n4 c4]) ∧ Hid (RR wc b1 b2 (.agg #[.int .i64 t3, .slice b1 n3 c3, .int .i64 t4, .slice b2 n4 c4]) (rPr p.pts x1)) ∧ Hid (Loc (fun c => c ≠ BX) b1 (rPr p.pts x1).1 ∧ Loc (fun c => c ≠ BX) b2 (rPr p.pts x1).2) ∧ Hid (Loc (fun c => (Value.slice va en.length vc).ownBlock ≠ some c) b1 (rPr p.pts x1).1 ∧ Loc (fun c => (Value.slice va en.length vc).ownBlock ≠ some c) b2 (rPr p.pts x1).2) ∧ Hid (Below wv.heap.size wv wc))
                      case first =>
                        have KBX : Hid (Blk wv BX #[.int .i64 t1, .slice a1 n1 c1, .int .i64 t2, .slice a2 n2 c2]) := zH HLM.out.box
                        have HVL : Hid (∀ q, (Value.slice va en.length vc).ownBlock = some q → q < wv.heap.size) := zH (fun q e => (HLM.out.own.lt q e).2)
                        refine wp_region_tree (by kernel_rfl) (fun wd hwd => ?_)
                        have T := zH hwd
                        clear hwd
                        replace KBX := zH (KBX.out.to T.out)
                        refine WTq 0 ?_; apply Exists.intro; refine ⟨fun w1 hb1 => ?_, ?_⟩; (focus (((obtain ⟨-, k3, -⟩ := K3t.out.to (T.out.trans hb1)); have hb1 := zH hb1; go_simp); (try (go_bits; try go_simp)); (try (rw [if_pos (by omega)]; try go_simp)); (first | done | (with_reducible rfl) | exact rfl)))
                        simp only [Act.put, zzT, zzO, zzS]
                        refine WTq 1 ?_; apply Exists.intro; refine ⟨fun w1 hb1 => ?_, ?_⟩; (focus ((have hb1 := zH hb1; go_simp); (try (go_bits; try go_simp)); (try (rw [if_pos (by omega)]; try go_simp)); (first | done | (with_reducible rfl) | exact rfl)))
                        simp only [Act.put, zzT, zzO, zzS]
                        refine WTq 2 ?_; apply Exists.intro; refine ⟨fun w1 hb1 => ?_, ?_⟩; (focus ((have hb1 := zH hb1; go_simp); (try (go_bits; try go_simp)); (try (rw [if_pos (by omega)]; try go_simp)); (first | done | (with_reducible rfl) | exact rfl)))
                        simp only [Act.put, zzT, zzO, zzS]
                        refine WTq 3 ?_; apply Exists.intro; refine ⟨fun w1 hb1 => ?_, ?_⟩; (focus ((have hb1 := zH hb1; go_simp); (try (go_bits; try go_simp)); (try (rw [if_pos (by omega)]; try go_simp)); (first | done | (with_reducible rfl) | exact rfl)))
                        simp only [Act.put, zzT, zzO, zzS]
                        refine WTq 4 ?_; apply Exists.intro; refine ⟨fun w1 hb1 => ?_, ?_⟩; (focus ((have hb1 := zH hb1; go_simp); (try (go_bits; try go_simp)); (try (rw [if_pos (by omega)]; try go_simp)); (first | done | (with_reducible rfl) | exact rfl)))
                        simp only [Act.put, zzT, zzO, zzS]
                        refine WTq 5 ?_; apply Exists.intro; refine ⟨fun w1 hb1 => ?_, ?_⟩; (focus (((have e0 := ((T.out.trans hb1).cell (p := ⟨g, go + k * 2, none⟩) hg).trans E0.out); have hb1 := zH hb1; go_simp); (try (go_bits; try go_simp)); (try (rw [if_pos (by omega)]; try go_simp)); (first | done | (with_reducible rfl) | exact rfl)))
                        simp only [Act.put, zzT, zzO, zzS]
                        refine WT_two 6 7 rfl rfl (by kernel_rfl) ?_ ?_
                        · unfold stepT
                          go_wp2_with fail
                          refine (HP1.out _ (bThen HBt.out T.out)).mono ?_
                          rintro e u1 ⟨ap, bp, vp, rfl, hrr, hb, hloc⟩
                          have HL := zH (fun (P : Nat → Prop) (h : ∀ b, wd.heap.size ≤ b → P b) => hloc P h (fun i hi => by cases hi))
                          have LVp := zH (HL.out (fun c => (Value.slice va en.length vc).ownBlock ≠ some c) (fun b hb e => by have h1 := HVL.out b e; have h2 := T.out.size; omega))
                          have LBXp := zH (HL.out (fun c => c ≠ BX) (fun b hb => by have := KBX.out.1; omega))
                          replace KBX := zH (KBX.out.to hb)
                          have HRp := zH hrr
                          have hbd := zH (hb.mono T.out.size)
                          replace T := zH (bThen T.out hb)
                          obtain ⟨sp, np, cp, tp, mp, dp, rfl, -, -⟩ := hrr.ex
                          clear hb hloc HL hrr
                          go_wp2_with fail
                          refine ⟨hbd.out, ?_⟩
                          clear hbd
                          refine WT_one 7 rfl (by kernel_rfl) ?_
                          unfold stepT
                          go_wp2_with fail
                          have LBNp : Hid (Loc (fun c => c ≠ u1.heap.size) ap _ ∧ Loc (fun c => c ≠ u1.heap.size) bp _) := zH (HRp.out.locNe)
                          have neBXBN : Hid (BX ≠ u1.heap.size) := zH (by have := KBX.out.1; omega)
                          obtain ⟨u2, hwA⟩ : ∃ wA, u1.alloc (.cells #[.int .i64 0, .slice none 0 0, .int .i64 0, .slice none 0 0] 65) = wA := ⟨_, rfl⟩
                          rw [hwA]
                          have hb : Below u1.heap.size u1 u2 := by subst hwA; exact bAlloc (bSelf _) _
                          replace HRp := zH (HRp.out.to hb)
                          replace KBX := zH (KBX.out.to hb)
                          have KBN : Hid (Blk u2 u1.heap.size #[.int .i64 0, .slice none 0 0, .int .i64 0, .slice none 0 0]) := by subst hwA; exact Blk.new _ _ _
                          clear hwA
                          have BNN : Hid (wv.heap.size ≤ u1.heap.size) := zH T.out.size
                          obtain ⟨BN, hBN⟩ : ∃ N, u1.heap.size = N := ⟨_, rfl⟩
                          have hbd := zH (hb.mono T.out.size)
                          replace T := zH (bThen T.out hb)
                          clear hb
                          rw [hBN] at KBN BNN LBNp neBXBN ⊢
                          clear hBN
                          refine ⟨hbd.out, ?_⟩
                          clear hbd
                          refine WT_one 8 rfl (by kernel_rfl) ?_
                          unfold stepT
                          obtain ⟨-, kx, fx⟩ := KBN.out
                          go_wp2_with fail
                          clear kx fx
                          obtain ⟨u3, hu⟩ : ∃ u, st4 u2 BN (.int .i64 sp) (.slice ap np cp) (.int .i64 tp) (.slice bp mp dp) = u := ⟨_, rfl⟩
                          have hb := below_st4 u2 BNN.out (.int .i64 sp) (.slice ap np cp) (.int .i64 tp) (.slice bp mp dp)
                          have hBX := KBX.out.st4o (b' := BN) (by first | exact neBNBX.out | exact fun e => neBXBN.out e.symm) (.int .i64 sp) (.slice ap np cp) (.int .i64 tp) (.slice bp mp dp)
                          have hBN := KBN.out.st4 (.int .i64 sp) (.slice ap np cp) (.int .i64 tp) (.slice bp mp dp)
                          have hp := HRp.out.st4 LBNp.out (.int .i64 sp) (.slice ap np cp) (.int .i64 tp) (.slice bp mp dp)
                          rw [hu] at hb hBX hBN hp
                          unfold st4 at hu
                          rw [hu]
                          replace KBX := zH hBX
                          replace KBN := zH hBN
                          replace HRp := zH hp
                          clear hBX hBN hp hu
                          replace T := zH (T.out.trans hb)
                          refine ⟨hb, ?_⟩
                          clear hb
                          refine WT_done (by kernel_rfl) ?_
                          go_wp2_with fail
                          go_meet
                          case rel => exact ⟨BN, ap, bp, sp, tp, np, cp, mp, dp, rfl, KBN, HRp, LBXp, LVp, T⟩
                        · unfold stepT
                          go_wp2_with fail
                          have neBXBN : Hid (BX ≠ wd.heap.size) := zH (by have := KBX.out.1; omega)
                          obtain ⟨u1, hwA⟩ : ∃ wA, wd.alloc (.cells #[.int .i64 0, .slice none 0 0, .int .i64 0, .slice none 0 0] 65) = wA := ⟨_, rfl⟩
                          rw [hwA]
                          have hb : Below wd.heap.size wd u1 := by subst hwA; exact bAlloc (bSelf _) _
                          replace KBX := zH (KBX.out.to hb)
                          have KBN : Hid (Blk u1 wd.heap.size #[.int .i64 0, .slice none 0 0, .int .i64 0, .slice none 0 0]) := by subst hwA; exact Blk.new _ _ _
                          clear hwA
                          have BNN : Hid (wv.heap.size ≤ wd.heap.size) := zH T.out.size
                          obtain ⟨BN, hBN⟩ : ∃ N, wd.heap.size = N := ⟨_, rfl⟩
                          have hbd := zH (hb.mono T.out.size)
                          replace T := zH (bThen T.out hb)
                          clear hb
                          rw [hBN] at KBN BNN neBXBN ⊢
                          clear hBN
                          refine ⟨hbd.out, ?_⟩
                          clear hbd
                          refine WT_one 6 rfl (by kernel_rfl) ?_
                          unfold stepT
                          go_wp2_with fail
                          refine (HP1.out _ (bThen HBt.out T.out)).mono ?_
                          rintro e u2 ⟨ap, bp, vp, rfl, hrr, hb, hloc⟩
                          have HL := zH (fun (P : Nat → Prop) (h : ∀ b, u1.heap.size ≤ b → P b) => hloc P h (fun i hi => by cases hi))
                          have LVp := zH (HL.out (fun c => (Value.slice va en.length vc).ownBlock ≠ some c) (fun b hb e => by have h1 := HVL.out b e; have h2 := T.out.size; omega))
                          have LBXp := zH (HL.out (fun c => c ≠ BX) (fun b hb => by have := KBX.out.1; omega))
                          have LBNp := zH (HL.out (fun c => c ≠ BN) (fun b hb => by have := KBN.out.1; omega))
                          replace KBX := zH (KBX.out.to hb)
                          replace KBN := zH (KBN.out.to hb)
                          have HRp := zH hrr
                          have hbd := zH (hb.mono T.out.size)
                          replace T := zH (bThen T.out hb)
                          obtain ⟨sp, np, cp, tp, mp, dp, rfl, -, -⟩ := hrr.ex
                          clear hb hloc HL hrr
                          go_wp2_with fail
                          refine ⟨hbd.out, ?_⟩
                          clear hbd
                          refine WT_one 8 rfl (by kernel_rfl) ?_
                          unfold stepT
                          obtain ⟨-, kx, fx⟩ := KBN.out
                          go_wp2_with fail
                          clear kx fx
                          obtain ⟨u3, hu⟩ : ∃ u, st4 u2 BN (.int .i64 sp) (.slice ap np cp) (.int .i64 tp) (.slice bp mp dp) = u := ⟨_, rfl⟩
                          have hb := below_st4 u2 BNN.out (.int .i64 sp) (.slice ap np cp) (.int .i64 tp) (.slice bp mp dp)
                          have hBX := KBX.out.st4o (b' := BN) (by first | exact neBNBX.out | exact fun e => neBXBN.out e.symm) (.int .i64 sp) (.slice ap np cp) (.int .i64 tp) (.slice bp mp dp)
                          have hBN := KBN.out.st4 (.int .i64 sp) (.slice ap np cp) (.int .i64 tp) (.slice bp mp dp)
                          have hp := HRp.out.st4 LBNp.out (.int .i64 sp) (.slice ap np cp) (.int .i64 tp) (.slice bp mp dp)
                          rw [hu] at hb hBX hBN hp
                          unfold st4 at hu
                          rw [hu]
                          replace KBX := zH hBX
                          replace KBN := zH hBN
                          replace HRp := zH hp
                          clear hBX hBN hp hu
                          replace T := zH (T.out.trans hb)
                          refine ⟨hb, ?_⟩
                          clear hb
                          refine WT_done (by kernel_rfl) ?_
                          go_wp2_with fail
                          go_meet
                          case rel => exact ⟨BN, ap, bp, sp, tp, np, cp, mp, dp, rfl, KBN, HRp, LBXp, LVp, T⟩
                      obtain ⟨wz, hwz⟩ : ∃ wo, wo = wc := ⟨_, rfl⟩
                      subst hwz
                      obtain ⟨BN, b1, b2, t3, t4, n3, c3, n4, c4, rfl, KBN, HRN2, LN, LV, hbc⟩ := hcut
                      replace hbc := hbc.out
                      replace HR0 := zH (HR0.out.trans (hbc.mono HR0.out.size))
                      replace HLM := zH (HLM.out.to hbc)
                      replace HRR := zH (HRR.out.to hbc)
                      replace HES := zH (Nat.le_trans HES.out hbc.size)
                      clear hbc HP1 E0 HBt K3t hg
                      obtain ⟨-, kx, -⟩ := HLM.out.box
                      obtain ⟨-, kN, -⟩ := KBN.out
                      go_wp2_with fail
                      clear kx kN
                      refine (HC1.out _ _ _ _ _ _ _ HRN2.out HLM.out.rr).mono ?_
                      rintro e wy ⟨rfl, hbc⟩
                      replace HR0 := zH (HR0.out.trans (hbc.mono HR0.out.size))
                      replace HLM := zH (HLM.out.to hbc)
                      replace HRR := zH (HRR.out.to hbc)
                      replace HES := zH (Nat.le_trans HES.out hbc.size)
                      replace KBN := zH (KBN.out.to hbc)
                      replace HRN2 := zH (HRN2.out.to hbc)
                      clear hbc HC1
                      by_cases hx : x1 < lj ∨ (x1 = lj ∧ (k : Int) < tj)
                      · have hob : Hid (obT 0 (tk, lv) (ro.take (k + 1)) = ((k : Int), x1)) := zH (by rw [HOT.out, if_pos hx])
                        have hsx : ((x1 - lj).sign < 0 ∧ True) ∨ ((x1 - lj).sign = 0 ∧ (k : Int) < tj) := by
                          rcases hx with h | ⟨h1, h2⟩
                          · left; rw [Int.sign_eq_neg_one_of_neg (by omega)]; exact ⟨by decide, trivial⟩
                          · right; rw [show x1 - lj = 0 by omega]; exact ⟨rfl, h2⟩
                        obtain ⟨sg0, hsg0⟩ : ∃ x, (x1 - lj).sign = x := ⟨_, rfl⟩
                        rw [hsg0] at hsx ⊢
                        clear hsg0 HOT hx HOB
                        rcases hsx with ⟨hs0, -⟩ | ⟨rfl, hs0⟩
                        all_goals
                          go_wp2_with fail
                          refine wp_region_quiet_tail 3 (fun w' => Below (World.heap wy).size (wy) w') (by kernel_rfl) (by kernel_rfl) (Below.refl _ _).drew ?_
                          simp only [List.take_succ_cons, List.take_zero, List.drop_succ_cons, List.drop_zero]
                          refine WQ.out ?_
                          repeat (first | (refine WQ_no (by rfl) ?_; (simp only [Act.put, zzT, zzO, zzS])) | (refine WQ_yes (by rfl) ?_; apply Exists.intro; refine ⟨fun w1 hb1 => ?_, ?_⟩; (focus (((obtain ⟨-, kN, -⟩ := KBN.out.to hb1); have hb1 := zH hb1; go_simp); (try (go_bits; try go_simp)); (try (rw [if_pos (by omega)]; try go_simp)); (first | done | (with_reducible rfl) | exact rfl))); (simp only [Act.put, zzT, zzO, zzS])))
                          refine WQ_nil ?_
                          intro w1 hb1
                          replace HR0 := zH (HR0.out.trans (hb1.mono HR0.out.size))
                          replace HLM := zH (HLM.out.to hb1)
                          replace HRR := zH (HRR.out.to hb1)
                          replace HES := zH (Nat.le_trans HES.out hb1.size)
                          replace HRN2 := zH (HRN2.out.to hb1)
                          clear hb1 KBN
                          obtain ⟨-, kx, fx⟩ := HLM.out.box
                          go_wp2_with fail
                          clear kx fx
                          have hst := zH (show st4 w1 BX (.int .i64 t3) (.slice b1 n3 c3) (.int .i64 t4) (.slice b2 n4 c4) = _ from rfl)
                          have HLN := zH (HLM.out.put HRN2.out LN.out LV.out)
                          have HRR2 := zH (HRR.out.st4 HFX.out (.int .i64 t3) (.slice b1 n3 c3) (.int .i64 t4) (.slice b2 n4 c4))
                          have HRX := zH (HR0.out.trans (below_st4 w1 HE0.out (.int .i64 t3) (.slice b1 n3 c3) (.int .i64 t4) (.slice b2 n4 c4)))
                          have HEX2 : Hid (EX ≤ (st4 w1 BX (.int .i64 t3) (.slice b1 n3 c3) (.int .i64 t4) (.slice b2 n4 c4)).heap.size) := zH (Nat.le_trans HES.out (grown_st4 ..).size)
                          go_roundw
                          case rel => exact ⟨k + 1, (k : Int), x1, b1, b2, t3, t4, n3, c3, n4, c4, rfl, by go_num, by omega, hob, HLN, HRR2, HEX2, HRX⟩
                          case measure => simp [intOf]; omega
                      · have hob : Hid (obT 0 (tk, lv) (ro.take (k + 1)) = (tj, lj)) := zH (by rw [HOT.out, if_neg hx])
                        have hsx : ((x1 - lj).sign = 0 ∧ ¬ (k : Int) < tj) ∨ ((x1 - lj).sign = 1 ∧ True) := by
                          by_cases h1 : x1 = lj
                          · left; rw [show x1 - lj = 0 by omega]; exact ⟨rfl, fun h2 => hx (.inr ⟨h1, h2⟩)⟩
                          · right; exact ⟨Int.sign_eq_one_of_pos (by omega), trivial⟩
                        obtain ⟨sg0, hsg0⟩ : ∃ x, (x1 - lj).sign = x := ⟨_, rfl⟩
                        rw [hsg0] at hsx ⊢
                        clear hsg0 HOT hx HOB KBN HRN2 LN LV
                        rcases hsx with ⟨rfl, hs0⟩ | ⟨rfl, -⟩
                        all_goals
                          go_wp2_with fail
                          go_roundw
                          case rel => exact ⟨k + 1, tj, lj, a1, a2, t1, t2, n1, c1, n2, c2, rfl, by go_num, by omega, hob, HLM, HRR, HES, HR0⟩
                          case measure => simp [intOf]; omega
                  · as_aux_lemma =>
                      obtain rfl : k = n + 1 := by omega
                      obtain ⟨g, go, rfl, hg, hgc⟩ := HRR.out.at (k := n * 2) (by omega)
                      obtain ⟨⟨x1, d1⟩, hz⟩ : ∃ q, sg ro n = q := ⟨_, rfl⟩
                      have e0 : wt.cell? ⟨g, go + n * 2, none⟩ = some (.int .i64 x1) := by rw [hgc _ (by omega), osts0, hz]
                      have e1 : wt.cell? ⟨g, go + n * 2 + 1, none⟩ = some (.bool d1) := by rw [Nat.add_assoc, hgc _ (by omega), osts1, hz]
                      have hkk : ((n + 1 : Nat) : Int) - 1 = (n : Int) := by omega
                      have hz3 := HZ2.out
                      rw [HOB.out, hz] at hz3
                      have HZ3 := zH hz3
                      have hen : en.length ≤ 64 := by
                        have h1 := HZN.out i
                        rw [HZI.out] at h1
                        dsimp only at h1
                        omega
                      obtain ⟨ne, hne⟩ : ∃ t, en.length = t := ⟨_, rfl⟩
                      have HNE := zH hne
                      have HAP := zH (fun (w2 : World) (v' : Value) (o : Obj) => LowM.app (w2 := w2) (v' := v') (x := (x1, d1)) (o := o) HLM.out)
                      have HOE := zH (owns_to HLM.out.own (bAlloc (bSelf wt) (.cells #[.int .i64 x1, .bool d1] 53)))
                      have HNW := zH (Blk.new wt #[.int .i64 x1, .bool d1] 53).news
                      rw [hne] at HAP HOE hen ⊢
                      clear hgc hz hz3 hne HZ2 HOB HZI HRR
                      go_wp2_with (at_builtin; go_loud (refine wpList_app EX rtSt rfl (.tmp 204) (.tmp 211) rfl _ ne _ rfl HOE.out ⟨wt.heap.size, 0, none⟩ 1 1 [.int .i64 x1, .bool d1] rfl rfl (by simpa using HNW.out) (by intro u hu; simp only [List.mem_cons, List.not_mem_nil, or_false] at hu; rcases hu with rfl | rfl <;> rfl) (by unfold maxLen; omega) (by omega) (by have := HES.out; simp only [World.size_alloc]; omega) ?_; intro v' w9 hown' hgrow _ hwhere; have hap := HAP.out w9 v' (.cells #[.int .i64 x1, .bool d1] 53) hown' hgrow hwhere; obtain ⟨va3, vc3, rfl⟩ := ownsRow_sl hown'; have HLN := zH hap; have HEN : Hid (EX ≤ w9.heap.size) := zH (by have h1 := hgrow.size; have h2 := HES.out; simp only [World.size_alloc] at h1; omega); have HRN9 : Hid (Below yL.heap.size yL w9) := zH ((HR0.out.alloc HR0.out.size _).grown hgrow (by have := HR0.out.size; simp only [World.size_alloc]; omega) (fun q e => by have h1 := (HOE.out.lt q e).1; have h2 := HEX.out; have h3 := HE0.out; omega)); clear hown' hgrow hwhere hap))
                      go_roundw
                      case rel => exact ⟨i + 1, kq, em, tj, lj, en ++ [(x1, d1)], va3, vc3, a1, a2, t1, t2, n1, c1, n2, c2, rfl, rfl, rfl, by rw [List.length_append, HNE.out]; rfl, by go_num, by omega, HZ3, zH (by have := HLN.out; rw [List.length_append, HNE.out]; exact this), HEN, HRN9⟩
                      case measure => simp [intOf]; omega
        · as_aux_lemma =>
            obtain rfl : nL = i := by omega
            have hlv := HLOW.out nL (Nat.le_refl _)
            rw [HZI.out] at hlv
            dsimp only at hlv
            have HLV := zH hlv
            have hze := HZN.out nL
            rw [HZI.out] at hze
            dsimp only at hze
            have HZE : Hid (en.length ≤ 64) := zH (by omega)
            clear hze
            have hend := HEN2.out _ HZI.out
            dsimp only at hend
            obtain ⟨hprm, hemp, hnon⟩ := hend
            subst hprm
            have HEMP := zH hemp
            have HNON := zH hnon
            replace K3 := zH (K3.out.to HR0.out)
            replace K4 := zH (K4.out.to HR0.out)
            replace K5 := zH (K5.out.to HR0.out)
            replace HB := zH (bThen HB.out HR0.out)
            clear hlv hemp hnon HEN2 HLOW HZ1 HZI HZN HONE HPR HSE HRN HAB HLR HNL HLD HES HR0 HEX HE0
            obtain ⟨y12, hy12⟩ : ∃ y, y = wo := ⟨_, rfl⟩
            subst hy12
            go_wp2_with fail
            refine wp_region_tree (by kernel_rfl) (fun wd hwd => ?_)
            have T := zH hwd
            clear hwd
            refine WTq 0 ?_; apply Exists.intro; refine ⟨fun w1 hb1 => ?_, ?_⟩; (focus (((obtain ⟨-, k3, -⟩ := K3.out.to (T.out.trans hb1)); have hb1 := zH hb1; go_simp); (try (go_bits; try go_simp)); (try (rw [if_pos (by omega)]; try go_simp)); (first | done | (with_reducible rfl) | exact rfl)))
            simp only [Act.put, zzT, zzO, zzS]
            refine WTq 2 ?_; apply Exists.intro; refine ⟨fun w1 hb1 => ?_, ?_⟩; (focus (((obtain ⟨-, k4, -⟩ := K4.out.to (T.out.trans hb1)); have hb1 := zH hb1; go_simp); (try (go_bits; try go_simp)); (try (rw [if_pos (by omega)]; try go_simp)); (first | done | (with_reducible rfl) | exact rfl)))
            simp only [Act.put, zzT, zzO, zzS]
            refine WTq 3 ?_; apply Exists.intro; refine ⟨fun w1 hb1 => ?_, ?_⟩; (focus (((obtain ⟨-, k5, -⟩ := K5.out.to (T.out.trans hb1)); have hb1 := zH hb1; go_simp); (try (go_bits; try go_simp)); (try (rw [if_pos (by omega)]; try go_simp)); (first | done | (with_reducible rfl) | exact rfl)))
            simp only [Act.put, zzT, zzO, zzS]
            refine WTq 4 ?_; apply Exists.intro; refine ⟨fun w1 hb1 => ?_, ?_⟩; (focus (((obtain ⟨-, k5, -⟩ := K5.out.to (T.out.trans hb1)); have hb1 := zH hb1; go_simp); (try (go_bits; try go_simp)); (try (rw [if_pos (by omega)]; try go_simp)); (first | done | (with_reducible rfl) | exact rfl)))
            simp only [Act.put, zzT, zzO, zzS]
            refine WTq 6 ?_; apply Exists.intro; refine ⟨fun w1 hb1 => ?_, ?_⟩; (focus (((obtain ⟨-, k5, -⟩ := K5.out.to (T.out.trans hb1)); have hb1 := zH hb1; go_simp); (try (go_bits; try go_simp)); (try (rw [if_pos (by omega)]; try go_simp)); (first | done | (with_reducible rfl) | exact rfl)))
            simp only [Act.put, zzT, zzO, zzS]
            refine WTq 7 ?_; apply Exists.intro; refine ⟨fun w1 hb1 => ?_, ?_⟩; (focus (((obtain ⟨-, k5, -⟩ := K5.out.to (T.out.trans hb1)); have hb1 := zH hb1; go_simp); (try (go_bits; try go_simp)); (try (rw [if_pos (by omega)]; try go_simp)); (first | done | (with_reducible rfl) | exact rfl)))
            simp only [Act.put, zzT, zzO, zzS]
            refine WT_one 1 rfl (by kernel_rfl) ?_
            unfold stepT
            go_wp2_with fail
            refine (HCPY.out _ (bThen HB.out T.out)).mono ?_
            rintro e g4 ⟨a9, c9, rfl, -, hr1, hb, -⟩
            have HR1 := zH hr1
            clear hr1
            unfold plC
            rw [HM.out] at HR1 ⊢
            have hbd := zH (hb.mono T.out.size)
            replace T := zH (bThen T.out hb)
            clear hb
            go_wp2_with fail
            refine ⟨hbd.out, ?_⟩
            clear hbd
            refine WT_one 5 rfl (by kernel_rfl) ?_
            unfold stepT
            go_wp2_with fail
            refine (HCR.out _ (bThen HB.out T.out)).mono ?_
            rintro e g5 ⟨a8, c8, rfl, -, hr2, hb, -⟩
            have HR2 := zH hr2
            clear hr2
            replace HR1 := zH (HR1.out.to hb)
            have hbd := zH (hb.mono T.out.size)
            replace T := zH (bThen T.out hb)
            clear hb
            go_wp2_with fail
            refine ⟨hbd.out, ?_⟩
            clear hbd
            refine WT_one 8 rfl (by kernel_rfl) ?_
            unfold stepT
            go_wp2_with fail
            refine (HPC.out _ _ _ _ _ HR1.out HR2.out).mono ?_
            rintro e g6 ⟨rfl, hb⟩
            clear HR1 HR2
            have hbd := zH (hb.mono T.out.size)
            replace T := zH (bThen T.out hb)
            clear hb
            go_wp2_with fail
            refine ⟨hbd.out, ?_⟩
            clear hbd
            refine WTq 9 ?_; apply Exists.intro; refine ⟨fun w1 hb1 => ?_, ?_⟩; (focus ((have hb1 := zH hb1; go_simp); (try (go_bits; try go_simp)); (try (rw [if_pos (by omega)]; try go_simp)); (first | done | (with_reducible rfl) | exact rfl)))
            simp only [Act.put, zzT, zzO, zzS]
            refine WTq 10 ?_; apply Exists.intro; refine ⟨fun w1 hb1 => ?_, ?_⟩; (focus ((have hb1 := zH hb1; go_simp); (try (go_bits; try go_simp)); (try (rw [if_pos (by omega)]; try go_simp)); (first | done | (with_reducible rfl) | exact rfl)))
            simp only [Act.put, zzT, zzO, zzS]
            refine WTq 11 ?_; apply Exists.intro; refine ⟨fun w1 hb1 => ?_, ?_⟩; (focus ((have hb1 := zH hb1; go_simp); (try (go_bits; try go_simp)); (try (rw [if_pos (by omega)]; try go_simp)); (first | done | (with_reducible rfl) | exact rfl)))
            simp only [Act.put, zzT, zzO, zzS]
            refine WTq 12 ?_; apply Exists.intro; refine ⟨fun w1 hb1 => ?_, ?_⟩; (focus ((have hb1 := zH hb1; go_simp); (try (go_bits; try go_simp)); (try (rw [if_pos (by omega)]; try go_simp)); (first | done | (with_reducible rfl) | exact rfl)))
            simp only [Act.put, zzT, zzO, zzS]
            refine WTq 13 ?_; apply Exists.intro; refine ⟨fun w1 hb1 => ?_, ?_⟩; (focus ((have hb1 := zH hb1; go_simp); (try (go_bits; try go_simp)); (try (rw [if_pos (by omega)]; try go_simp)); (first | done | (with_reducible rfl) | exact rfl)))
            simp only [Act.put, zzT, zzO, zzS]
            refine WT_done (by kernel_rfl) ?_
            replace HB := zH (bThen HB.out T.out)
            replace K3 := zH (K3.out.to T.out)
            replace K4 := zH (K4.out.to T.out)
            replace K5 := zH (K5.out.to T.out)
            replace HLM := zH (HLM.out.to T.out)
            clear T
            clear HPC
            go_wp2_with fail
            refine wp_region_tree (by kernel_rfl) (fun wd hwd => ?_)
            have T := zH hwd
            clear hwd
            refine WTq 0 ?_; apply Exists.intro; refine ⟨fun w1 hb1 => ?_, ?_⟩; (focus (((obtain ⟨-, k3, -⟩ := K3.out.to (T.out.trans hb1)); have hb1 := zH hb1; go_simp); (try (go_bits; try go_simp)); (try (rw [if_pos (by omega)]; try go_simp)); (first | done | (with_reducible rfl) | exact rfl)))
            simp only [Act.put, zzT, zzO, zzS]
            refine WTq 2 ?_; apply Exists.intro; refine ⟨fun w1 hb1 => ?_, ?_⟩; (focus (((obtain ⟨-, k4, -⟩ := K4.out.to (T.out.trans hb1)); have hb1 := zH hb1; go_simp); (try (go_bits; try go_simp)); (try (rw [if_pos (by omega)]; try go_simp)); (first | done | (with_reducible rfl) | exact rfl)))
            simp only [Act.put, zzT, zzO, zzS]
            refine WTq 3 ?_; apply Exists.intro; refine ⟨fun w1 hb1 => ?_, ?_⟩; (focus (((obtain ⟨-, k5, -⟩ := K5.out.to (T.out.trans hb1)); have hb1 := zH hb1; go_simp); (try (go_bits; try go_simp)); (try (rw [if_pos (by omega)]; try go_simp)); (first | done | (with_reducible rfl) | exact rfl)))
            simp only [Act.put, zzT, zzO, zzS]
            refine WTq 4 ?_; apply Exists.intro; refine ⟨fun w1 hb1 => ?_, ?_⟩; (focus (((obtain ⟨-, k5, -⟩ := K5.out.to (T.out.trans hb1)); have hb1 := zH hb1; go_simp); (try (go_bits; try go_simp)); (try (rw [if_pos (by omega)]; try go_simp)); (first | done | (with_reducible rfl) | exact rfl)))
            simp only [Act.put, zzT, zzO, zzS]
            refine WT_one 1 rfl (by kernel_rfl) ?_
            unfold stepT
            go_wp2_with fail
            refine (HCPY.out _ (bThen HB.out T.out)).mono ?_
            rintro e g7 ⟨a9, c9, rfl, -, hr1, hb, -⟩
            have HR1 := zH hr1
            clear hr1
            unfold plC
            rw [HM.out] at HR1 ⊢
            have hbd := zH (hb.mono T.out.size)
            replace T := zH (bThen T.out hb)
            clear hb
            go_wp2_with fail
            refine ⟨hbd.out, ?_⟩
            clear hbd
            refine WT_one 5 rfl (by kernel_rfl) ?_
            unfold stepT
            go_wp2_with fail
            refine (HCR.out _ (bThen HB.out T.out)).mono ?_
            rintro e g8 ⟨a8, c8, rfl, -, hr2, hb, -⟩
            have HR2 := zH hr2
            clear hr2
            replace HR1 := zH (HR1.out.to hb)
            have hbd := zH (hb.mono T.out.size)
            replace T := zH (bThen T.out hb)
            clear hb
            go_wp2_with fail
            refine ⟨hbd.out, ?_⟩
            clear hbd
            refine WT_one 6 rfl (by kernel_rfl) ?_
            unfold stepT
            go_wp2_with fail
            refine (HRB.out _ _ _ _ _ HR1.out HR2.out).mono ?_
            rintro e g9 ⟨aL, cL, rfl, hcL, hrL, hb, -⟩
            have HRL := zH hrL
            clear hrL hcL HR1 HR2
            have hbd := zH (hb.mono T.out.size)
            replace T := zH (bThen T.out hb)
            clear hb
            go_wp2_with fail
            refine ⟨hbd.out, ?_⟩
            clear hbd
            refine WTq 7 ?_; apply Exists.intro; refine ⟨fun w1 hb1 => ?_, ?_⟩; (focus ((have hb1 := zH hb1; go_simp); (try (go_bits; try go_simp)); (try (rw [if_pos (by omega)]; try go_simp)); (first | done | (with_reducible rfl) | exact rfl)))
            simp only [Act.put, zzT, zzO, zzS]
            refine WTq 8 ?_; apply Exists.intro; refine ⟨fun w1 hb1 => ?_, ?_⟩; (focus ((have hb1 := zH hb1; go_simp); (try (go_bits; try go_simp)); (try (rw [if_pos (by omega)]; try go_simp)); (first | done | (with_reducible rfl) | exact rfl)))
            simp only [Act.put, zzT, zzO, zzS]
            refine WTq 9 ?_; apply Exists.intro; refine ⟨fun w1 hb1 => ?_, ?_⟩; (focus ((have hb1 := zH hb1; go_simp); (try (go_bits; try go_simp)); (try (rw [if_pos (by omega)]; try go_simp)); (first | done | (with_reducible rfl) | exact rfl)))
            simp only [Act.put, zzT, zzO, zzS]
            refine WTq 10 ?_; apply Exists.intro; refine ⟨fun w1 hb1 => ?_, ?_⟩; (focus ((have hb1 := zH hb1; go_simp); (try (go_bits; try go_simp)); (try (rw [if_pos (by omega)]; try go_simp)); (first | done | (with_reducible rfl) | exact rfl)))
            simp only [Act.put, zzT, zzO, zzS]
            refine WTq 11 ?_; apply Exists.intro; refine ⟨fun w1 hb1 => ?_, ?_⟩; (focus ((have hb1 := zH hb1; go_simp); (try (go_bits; try go_simp)); (try (rw [if_pos (by omega)]; try go_simp)); (first | done | (with_reducible rfl) | exact rfl)))
            simp only [Act.put, zzT, zzO, zzS]
            refine WT_done (by kernel_rfl) ?_
            replace HB := zH (bThen HB.out T.out)
            replace K3 := zH (K3.out.to T.out)
            replace K4 := zH (K4.out.to T.out)
            replace K5 := zH (K5.out.to T.out)
            replace HLM := zH (HLM.out.to T.out)
            clear T
            clear HRB
            obtain ⟨z1, hz1⟩ : ∃ z, z = g9 := ⟨_, rfl⟩
            subst hz1
            go_upto_region 44 with (fail)
            go_cut [27, 28, 29] from 235 to 245 (fun s27 s28 s29 wc => ∃ BQ, s27 = .int .i64 lt ∧ s28 = .pointer (some ⟨BQ, 0, none⟩) ∧ s29 = .int .i64 el ∧ Hid (Blk wc BQ #[.int .i64 lq1, .int .i64 lq2]) ∧ Hid (Below z1.heap.size z1 wc))
            case first =>
              refine wp_region_tree (by kernel_rfl) (fun wd hwd => ?_)
              have T := zH hwd
              clear hwd
              refine WTq 0 ?_; apply Exists.intro; refine ⟨fun w1 hb1 => ?_, ?_⟩; (focus (((obtain ⟨-, k3, -⟩ := K3.out.to (T.out.trans hb1)); have hb1 := zH hb1; go_simp); (try (go_bits; try go_simp)); (try (rw [if_pos (by omega)]; try go_simp)); (first | done | (with_reducible rfl) | exact rfl)))
              simp only [Act.put, zzT, zzO, zzS]
              refine WTq 2 ?_; apply Exists.intro; refine ⟨fun w1 hb1 => ?_, ?_⟩; (focus (((obtain ⟨-, k4, -⟩ := K4.out.to (T.out.trans hb1)); have hb1 := zH hb1; go_simp); (try (go_bits; try go_simp)); (try (rw [if_pos (by omega)]; try go_simp)); (first | done | (with_reducible rfl) | exact rfl)))
              simp only [Act.put, zzT, zzO, zzS]
              refine WTq 3 ?_; apply Exists.intro; refine ⟨fun w1 hb1 => ?_, ?_⟩; (focus (((obtain ⟨-, k5, -⟩ := K5.out.to (T.out.trans hb1)); have hb1 := zH hb1; go_simp); (try (go_bits; try go_simp)); (try (rw [if_pos (by omega)]; try go_simp)); (first | done | (with_reducible rfl) | exact rfl)))
              simp only [Act.put, zzT, zzO, zzS]
              refine WTq 4 ?_; apply Exists.intro; refine ⟨fun w1 hb1 => ?_, ?_⟩; (focus (((obtain ⟨-, k5, -⟩ := K5.out.to (T.out.trans hb1)); have hb1 := zH hb1; go_simp); (try (go_bits; try go_simp)); (try (rw [if_pos (by omega)]; try go_simp)); (first | done | (with_reducible rfl) | exact rfl)))
              simp only [Act.put, zzT, zzO, zzS]
              refine WT_two 1 11 rfl rfl (by kernel_rfl) ?_ ?_
              · unfold stepT
                go_wp2_with fail
                refine (HCPY.out _ (bThen HB.out T.out)).mono ?_
                rintro e u1 ⟨a9, c9, rfl, -, hr1, hb, -⟩
                have HR1 := zH hr1
                clear hr1
                unfold plC
                rw [HM.out] at HR1 ⊢
                have hbd := zH (hb.mono T.out.size)
                replace T := zH (bThen T.out hb)
                clear hb
                go_wp2_with fail
                refine ⟨hbd.out, ?_⟩
                clear hbd
                refine WT_two 5 11 rfl rfl (by kernel_rfl) ?_ ?_
                · unfold stepT
                  go_wp2_with fail
                  refine (HCR.out _ (bThen HB.out T.out)).mono ?_
                  rintro e u2 ⟨a8, c8, rfl, -, hr2, hb, -⟩
                  replace HR1 := zH (HR1.out.to hb)
                  have HR2 := zH hr2
                  clear hr2
                  have hbd := zH (hb.mono T.out.size)
                  replace T := zH (bThen T.out hb)
                  clear hb
                  go_wp2_with fail
                  refine ⟨hbd.out, ?_⟩
                  clear hbd
                  refine WT_two 6 11 rfl rfl (by kernel_rfl) ?_ ?_
                  · unfold stepT
                    go_wp2_with fail
                    refine (HLW.out _ _ _ _ _ HR1.out HR2.out).mono ?_
                    rintro e u3 ⟨rfl, hb⟩
                    replace HR1 := zH (HR1.out.to hb)
                    replace HR2 := zH (HR2.out.to hb)
                    have hbd := zH (hb.mono T.out.size)
                    replace T := zH (bThen T.out hb)
                    clear hb
                    go_wp2_with fail
                    refine ⟨hbd.out, ?_⟩
                    clear hbd
                    refine WTq 7 ?_; apply Exists.intro; refine ⟨fun w1 hb1 => ?_, ?_⟩; (focus ((have hb1 := zH hb1; go_simp); (try (go_bits; try go_simp)); (try (rw [if_pos (by omega)]; try go_simp)); (first | done | (with_reducible rfl) | exact rfl)))
                    simp only [Act.put, zzT, zzO, zzS]
                    refine WTq 8 ?_; apply Exists.intro; refine ⟨fun w1 hb1 => ?_, ?_⟩; (focus ((have hb1 := zH hb1; go_simp); (try (go_bits; try go_simp)); (try (rw [if_pos (by omega)]; try go_simp)); (first | done | (with_reducible rfl) | exact rfl)))
                    simp only [Act.put, zzT, zzO, zzS]
                    refine WTq 9 ?_; apply Exists.intro; refine ⟨fun w1 hb1 => ?_, ?_⟩; (focus ((have hb1 := zH hb1; go_simp); (try (go_bits; try go_simp)); (try (rw [if_pos (by omega)]; try go_simp)); (first | done | (with_reducible rfl) | exact rfl)))
                    simp only [Act.put, zzT, zzO, zzS]
                    refine WTq 10 ?_; apply Exists.intro; refine ⟨fun w1 hb1 => ?_, ?_⟩; (focus ((have hb1 := zH hb1; go_simp); (try (go_bits; try go_simp)); (try (rw [if_pos (by omega)]; try go_simp)); (first | done | (with_reducible rfl) | exact rfl)))
                    simp only [Act.put, zzT, zzO, zzS]
                    refine WT_one 11 rfl (by kernel_rfl) ?_
                    unfold stepT
                    go_wp2_with fail
                    obtain ⟨u4, hwA⟩ : ∃ wA, u3.alloc (.cells #[.int .i64 0, .int .i64 0] 77) = wA := ⟨_, rfl⟩
                    rw [hwA]
                    have hb : Below u3.heap.size u3 u4 := by subst hwA; exact bAlloc (bSelf _) _
                    replace HR1 := zH (HR1.out.to hb)
                    replace HR2 := zH (HR2.out.to hb)
                    have KBN : Hid (Blk u4 u3.heap.size #[.int .i64 0, .int .i64 0]) := by subst hwA; exact Blk.new _ _ _
                    clear hwA
                    have BNN : Hid (z1.heap.size ≤ u3.heap.size) := zH T.out.size
                    obtain ⟨BN, hBN⟩ : ∃ N, u3.heap.size = N := ⟨_, rfl⟩
                    have hbd := zH (hb.mono T.out.size)
                    replace T := zH (bThen T.out hb)
                    clear hb
                    rw [hBN] at KBN BNN  ⊢
                    clear hBN
                    refine ⟨hbd.out, ?_⟩
                    clear hbd
                    refine WTq 12 ?_; apply Exists.intro; refine ⟨fun w1 hb1 => ?_, ?_⟩; (focus ((have hb1 := zH hb1; go_simp); (try (go_bits; try go_simp)); (try (rw [if_pos (by omega)]; try go_simp)); (first | done | (with_reducible rfl) | exact rfl)))
                    simp only [Act.put, zzT, zzO, zzS]
                    refine WT_one 13 rfl (by kernel_rfl) ?_
                    unfold stepT
                    obtain ⟨-, kx, fx⟩ := KBN.out
                    go_wp2_with fail
                    clear kx fx
                    obtain ⟨u5, hu⟩ : ∃ u, (u4.setCell ⟨BN, 0, none⟩ (.int .i64 lq1)).setCell ⟨BN, 1, none⟩ (.int .i64 lq2) = u := ⟨_, rfl⟩
                    have hb : Below z1.heap.size u4 u5 := by rw [← hu]; exact ((Below.refl _ _).setCell (p := ⟨BN, 0, none⟩) BNN.out _).setCell (p := ⟨BN, 1, none⟩) BNN.out _
                    replace KBN := zH ((KBN.out.set 0 (.int .i64 lq1)).set 1 (.int .i64 lq2))
                    rw [hu] at KBN ⊢
                    clear hu
                    replace T := zH (T.out.trans hb)
                    refine ⟨hb, ?_⟩
                    clear hb
                    refine WTq 14 ?_; apply Exists.intro; refine ⟨fun w1 hb1 => ?_, ?_⟩; (focus ((have hb1 := zH hb1; go_simp); (try (go_bits; try go_simp)); (try (rw [if_pos (by omega)]; try go_simp)); (first | done | (with_reducible rfl) | exact rfl)))
                    simp only [Act.put, zzT, zzO, zzS]
                    refine WT_done (by kernel_rfl) ?_
                    go_wp2_with fail
                    go_meet
                    case rel => exact ⟨BN, rfl, rfl, rfl, KBN, T⟩
                  · unfold stepT
                    go_wp2_with fail
                    obtain ⟨u3, hwA⟩ : ∃ wA, u2.alloc (.cells #[.int .i64 0, .int .i64 0] 77) = wA := ⟨_, rfl⟩
                    rw [hwA]
                    have hb : Below u2.heap.size u2 u3 := by subst hwA; exact bAlloc (bSelf _) _
                    replace HR1 := zH (HR1.out.to hb)
                    replace HR2 := zH (HR2.out.to hb)
                    have KBN : Hid (Blk u3 u2.heap.size #[.int .i64 0, .int .i64 0]) := by subst hwA; exact Blk.new _ _ _
                    clear hwA
                    have BNN : Hid (z1.heap.size ≤ u2.heap.size) := zH T.out.size
                    obtain ⟨BN, hBN⟩ : ∃ N, u2.heap.size = N := ⟨_, rfl⟩
                    have hbd := zH (hb.mono T.out.size)
                    replace T := zH (bThen T.out hb)
                    clear hb
                    rw [hBN] at KBN BNN  ⊢
                    clear hBN
                    refine ⟨hbd.out, ?_⟩
                    clear hbd
                    refine WT_one 6 rfl (by kernel_rfl) ?_
                    unfold stepT
                    go_wp2_with fail
                    refine (HLW.out _ _ _ _ _ HR1.out HR2.out).mono ?_
                    rintro e u4 ⟨rfl, hb⟩
                    replace KBN := zH (KBN.out.to hb)
                    replace HR1 := zH (HR1.out.to hb)
                    replace HR2 := zH (HR2.out.to hb)
                    have hbd := zH (hb.mono T.out.size)
                    replace T := zH (bThen T.out hb)
                    clear hb
                    go_wp2_with fail
                    refine ⟨hbd.out, ?_⟩
                    clear hbd
                    refine WTq 7 ?_; apply Exists.intro; refine ⟨fun w1 hb1 => ?_, ?_⟩; (focus ((have hb1 := zH hb1; go_simp); (try (go_bits; try go_simp)); (try (rw [if_pos (by omega)]; try go_simp)); (first | done | (with_reducible rfl) | exact rfl)))
                    simp only [Act.put, zzT, zzO, zzS]
                    refine WTq 8 ?_; apply Exists.intro; refine ⟨fun w1 hb1 => ?_, ?_⟩; (focus ((have hb1 := zH hb1; go_simp); (try (go_bits; try go_simp)); (try (rw [if_pos (by omega)]; try go_simp)); (first | done | (with_reducible rfl) | exact rfl)))
                    simp only [Act.put, zzT, zzO, zzS]
                    refine WTq 9 ?_; apply Exists.intro; refine ⟨fun w1 hb1 => ?_, ?_⟩; (focus ((have hb1 := zH hb1; go_simp); (try (go_bits; try go_simp)); (try (rw [if_pos (by omega)]; try go_simp)); (first | done | (with_reducible rfl) | exact rfl)))
                    simp only [Act.put, zzT, zzO, zzS]
                    refine WTq 10 ?_; apply Exists.intro; refine ⟨fun w1 hb1 => ?_, ?_⟩; (focus ((have hb1 := zH hb1; go_simp); (try (go_bits; try go_simp)); (try (rw [if_pos (by omega)]; try go_simp)); (first | done | (with_reducible rfl) | exact rfl)))
                    simp only [Act.put, zzT, zzO, zzS]
                    refine WTq 12 ?_; apply Exists.intro; refine ⟨fun w1 hb1 => ?_, ?_⟩; (focus ((have hb1 := zH hb1; go_simp); (try (go_bits; try go_simp)); (try (rw [if_pos (by omega)]; try go_simp)); (first | done | (with_reducible rfl) | exact rfl)))
                    simp only [Act.put, zzT, zzO, zzS]
                    refine WT_one 13 rfl (by kernel_rfl) ?_
                    unfold stepT
                    obtain ⟨-, kx, fx⟩ := KBN.out
                    go_wp2_with fail
                    clear kx fx
                    obtain ⟨u5, hu⟩ : ∃ u, (u4.setCell ⟨BN, 0, none⟩ (.int .i64 lq1)).setCell ⟨BN, 1, none⟩ (.int .i64 lq2) = u := ⟨_, rfl⟩
                    have hb : Below z1.heap.size u4 u5 := by rw [← hu]; exact ((Below.refl _ _).setCell (p := ⟨BN, 0, none⟩) BNN.out _).setCell (p := ⟨BN, 1, none⟩) BNN.out _
                    replace KBN := zH ((KBN.out.set 0 (.int .i64 lq1)).set 1 (.int .i64 lq2))
                    rw [hu] at KBN ⊢
                    clear hu
                    replace T := zH (T.out.trans hb)
                    refine ⟨hb, ?_⟩
                    clear hb
                    refine WTq 14 ?_; apply Exists.intro; refine ⟨fun w1 hb1 => ?_, ?_⟩; (focus ((have hb1 := zH hb1; go_simp); (try (go_bits; try go_simp)); (try (rw [if_pos (by omega)]; try go_simp)); (first | done | (with_reducible rfl) | exact rfl)))
                    simp only [Act.put, zzT, zzO, zzS]
                    refine WT_done (by kernel_rfl) ?_
                    go_wp2_with fail
                    go_meet
                    case rel => exact ⟨BN, rfl, rfl, rfl, KBN, T⟩
                · unfold stepT
                  go_wp2_with fail
                  obtain ⟨u2, hwA⟩ : ∃ wA, u1.alloc (.cells #[.int .i64 0, .int .i64 0] 77) = wA := ⟨_, rfl⟩
                  rw [hwA]
                  have hb : Below u1.heap.size u1 u2 := by subst hwA; exact bAlloc (bSelf _) _
                  replace HR1 := zH (HR1.out.to hb)
                  have KBN : Hid (Blk u2 u1.heap.size #[.int .i64 0, .int .i64 0]) := by subst hwA; exact Blk.new _ _ _
                  clear hwA
                  have BNN : Hid (z1.heap.size ≤ u1.heap.size) := zH T.out.size
                  obtain ⟨BN, hBN⟩ : ∃ N, u1.heap.size = N := ⟨_, rfl⟩
                  have hbd := zH (hb.mono T.out.size)
                  replace T := zH (bThen T.out hb)
                  clear hb
                  rw [hBN] at KBN BNN  ⊢
                  clear hBN
                  refine ⟨hbd.out, ?_⟩
                  clear hbd
                  refine WT_one 5 rfl (by kernel_rfl) ?_
                  unfold stepT
                  go_wp2_with fail
                  refine (HCR.out _ (bThen HB.out T.out)).mono ?_
                  rintro e u3 ⟨a8, c8, rfl, -, hr2, hb, -⟩
                  replace KBN := zH (KBN.out.to hb)
                  replace HR1 := zH (HR1.out.to hb)
                  have HR2 := zH hr2
                  clear hr2
                  have hbd := zH (hb.mono T.out.size)
                  replace T := zH (bThen T.out hb)
                  clear hb
                  go_wp2_with fail
                  refine ⟨hbd.out, ?_⟩
                  clear hbd
                  refine WT_one 6 rfl (by kernel_rfl) ?_
                  unfold stepT
                  go_wp2_with fail
                  refine (HLW.out _ _ _ _ _ HR1.out HR2.out).mono ?_
                  rintro e u4 ⟨rfl, hb⟩
                  replace KBN := zH (KBN.out.to hb)
                  replace HR1 := zH (HR1.out.to hb)
                  replace HR2 := zH (HR2.out.to hb)
                  have hbd := zH (hb.mono T.out.size)
                  replace T := zH (bThen T.out hb)
                  clear hb
                  go_wp2_with fail
                  refine ⟨hbd.out, ?_⟩
                  clear hbd
                  refine WTq 7 ?_; apply Exists.intro; refine ⟨fun w1 hb1 => ?_, ?_⟩; (focus ((have hb1 := zH hb1; go_simp); (try (go_bits; try go_simp)); (try (rw [if_pos (by omega)]; try go_simp)); (first | done | (with_reducible rfl) | exact rfl)))
                  simp only [Act.put, zzT, zzO, zzS]
                  refine WTq 8 ?_; apply Exists.intro; refine ⟨fun w1 hb1 => ?_, ?_⟩; (focus ((have hb1 := zH hb1; go_simp); (try (go_bits; try go_simp)); (try (rw [if_pos (by omega)]; try go_simp)); (first | done | (with_reducible rfl) | exact rfl)))
                  simp only [Act.put, zzT, zzO, zzS]
                  refine WTq 9 ?_; apply Exists.intro; refine ⟨fun w1 hb1 => ?_, ?_⟩; (focus ((have hb1 := zH hb1; go_simp); (try (go_bits; try go_simp)); (try (rw [if_pos (by omega)]; try go_simp)); (first | done | (with_reducible rfl) | exact rfl)))
                  simp only [Act.put, zzT, zzO, zzS]
                  refine WTq 10 ?_; apply Exists.intro; refine ⟨fun w1 hb1 => ?_, ?_⟩; (focus ((have hb1 := zH hb1; go_simp); (try (go_bits; try go_simp)); (try (rw [if_pos (by omega)]; try go_simp)); (first | done | (with_reducible rfl) | exact rfl)))
                  simp only [Act.put, zzT, zzO, zzS]
                  refine WTq 12 ?_; apply Exists.intro; refine ⟨fun w1 hb1 => ?_, ?_⟩; (focus ((have hb1 := zH hb1; go_simp); (try (go_bits; try go_simp)); (try (rw [if_pos (by omega)]; try go_simp)); (first | done | (with_reducible rfl) | exact rfl)))
                  simp only [Act.put, zzT, zzO, zzS]
                  refine WT_one 13 rfl (by kernel_rfl) ?_
                  unfold stepT
                  obtain ⟨-, kx, fx⟩ := KBN.out
                  go_wp2_with fail
                  clear kx fx
                  obtain ⟨u5, hu⟩ : ∃ u, (u4.setCell ⟨BN, 0, none⟩ (.int .i64 lq1)).setCell ⟨BN, 1, none⟩ (.int .i64 lq2) = u := ⟨_, rfl⟩
                  have hb : Below z1.heap.size u4 u5 := by rw [← hu]; exact ((Below.refl _ _).setCell (p := ⟨BN, 0, none⟩) BNN.out _).setCell (p := ⟨BN, 1, none⟩) BNN.out _
                  replace KBN := zH ((KBN.out.set 0 (.int .i64 lq1)).set 1 (.int .i64 lq2))
                  rw [hu] at KBN ⊢
                  clear hu
                  replace T := zH (T.out.trans hb)
                  refine ⟨hb, ?_⟩
                  clear hb
                  refine WTq 14 ?_; apply Exists.intro; refine ⟨fun w1 hb1 => ?_, ?_⟩; (focus ((have hb1 := zH hb1; go_simp); (try (go_bits; try go_simp)); (try (rw [if_pos (by omega)]; try go_simp)); (first | done | (with_reducible rfl) | exact rfl)))
                  simp only [Act.put, zzT, zzO, zzS]
                  refine WT_done (by kernel_rfl) ?_
                  go_wp2_with fail
                  go_meet
                  case rel => exact ⟨BN, rfl, rfl, rfl, KBN, T⟩
              · unfold stepT
                go_wp2_with fail
                obtain ⟨u1, hwA⟩ : ∃ wA, wd.alloc (.cells #[.int .i64 0, .int .i64 0] 77) = wA := ⟨_, rfl⟩
                rw [hwA]
                have hb : Below wd.heap.size wd u1 := by subst hwA; exact bAlloc (bSelf _) _
                have KBN : Hid (Blk u1 wd.heap.size #[.int .i64 0, .int .i64 0]) := by subst hwA; exact Blk.new _ _ _
                clear hwA
                have BNN : Hid (z1.heap.size ≤ wd.heap.size) := zH T.out.size
                obtain ⟨BN, hBN⟩ : ∃ N, wd.heap.size = N := ⟨_, rfl⟩
                have hbd := zH (hb.mono T.out.size)
                replace T := zH (bThen T.out hb)
                clear hb
                rw [hBN] at KBN BNN  ⊢
                clear hBN
                refine ⟨hbd.out, ?_⟩
                clear hbd
                refine WT_one 1 rfl (by kernel_rfl) ?_
                unfold stepT
                go_wp2_with fail
                refine (HCPY.out _ (bThen HB.out T.out)).mono ?_
                rintro e u2 ⟨a9, c9, rfl, -, hr1, hb, -⟩
                replace KBN := zH (KBN.out.to hb)
                have HR1 := zH hr1
                clear hr1
                unfold plC
                rw [HM.out] at HR1 ⊢
                have hbd := zH (hb.mono T.out.size)
                replace T := zH (bThen T.out hb)
                clear hb
                go_wp2_with fail
                refine ⟨hbd.out, ?_⟩
                clear hbd
                refine WT_one 5 rfl (by kernel_rfl) ?_
                unfold stepT
                go_wp2_with fail
                refine (HCR.out _ (bThen HB.out T.out)).mono ?_
                rintro e u3 ⟨a8, c8, rfl, -, hr2, hb, -⟩
                replace KBN := zH (KBN.out.to hb)
                replace HR1 := zH (HR1.out.to hb)
                have HR2 := zH hr2
                clear hr2
                have hbd := zH (hb.mono T.out.size)
                replace T := zH (bThen T.out hb)
                clear hb
                go_wp2_with fail
                refine ⟨hbd.out, ?_⟩
                clear hbd
                refine WT_one 6 rfl (by kernel_rfl) ?_
                unfold stepT
                go_wp2_with fail
                refine (HLW.out _ _ _ _ _ HR1.out HR2.out).mono ?_
                rintro e u4 ⟨rfl, hb⟩
                replace KBN := zH (KBN.out.to hb)
                replace HR1 := zH (HR1.out.to hb)
                replace HR2 := zH (HR2.out.to hb)
                have hbd := zH (hb.mono T.out.size)
                replace T := zH (bThen T.out hb)
                clear hb
                go_wp2_with fail
                refine ⟨hbd.out, ?_⟩
                clear hbd
                refine WTq 7 ?_; apply Exists.intro; refine ⟨fun w1 hb1 => ?_, ?_⟩; (focus ((have hb1 := zH hb1; go_simp); (try (go_bits; try go_simp)); (try (rw [if_pos (by omega)]; try go_simp)); (first | done | (with_reducible rfl) | exact rfl)))
                simp only [Act.put, zzT, zzO, zzS]
                refine WTq 8 ?_; apply Exists.intro; refine ⟨fun w1 hb1 => ?_, ?_⟩; (focus ((have hb1 := zH hb1; go_simp); (try (go_bits; try go_simp)); (try (rw [if_pos (by omega)]; try go_simp)); (first | done | (with_reducible rfl) | exact rfl)))
                simp only [Act.put, zzT, zzO, zzS]
                refine WTq 9 ?_; apply Exists.intro; refine ⟨fun w1 hb1 => ?_, ?_⟩; (focus ((have hb1 := zH hb1; go_simp); (try (go_bits; try go_simp)); (try (rw [if_pos (by omega)]; try go_simp)); (first | done | (with_reducible rfl) | exact rfl)))
                simp only [Act.put, zzT, zzO, zzS]
                refine WTq 10 ?_; apply Exists.intro; refine ⟨fun w1 hb1 => ?_, ?_⟩; (focus ((have hb1 := zH hb1; go_simp); (try (go_bits; try go_simp)); (try (rw [if_pos (by omega)]; try go_simp)); (first | done | (with_reducible rfl) | exact rfl)))
                simp only [Act.put, zzT, zzO, zzS]
                refine WTq 12 ?_; apply Exists.intro; refine ⟨fun w1 hb1 => ?_, ?_⟩; (focus ((have hb1 := zH hb1; go_simp); (try (go_bits; try go_simp)); (try (rw [if_pos (by omega)]; try go_simp)); (first | done | (with_reducible rfl) | exact rfl)))
                simp only [Act.put, zzT, zzO, zzS]
                refine WT_one 13 rfl (by kernel_rfl) ?_
                unfold stepT
                obtain ⟨-, kx, fx⟩ := KBN.out
                go_wp2_with fail
                clear kx fx
                obtain ⟨u5, hu⟩ : ∃ u, (u4.setCell ⟨BN, 0, none⟩ (.int .i64 lq1)).setCell ⟨BN, 1, none⟩ (.int .i64 lq2) = u := ⟨_, rfl⟩
                have hb : Below z1.heap.size u4 u5 := by rw [← hu]; exact ((Below.refl _ _).setCell (p := ⟨BN, 0, none⟩) BNN.out _).setCell (p := ⟨BN, 1, none⟩) BNN.out _
                replace KBN := zH ((KBN.out.set 0 (.int .i64 lq1)).set 1 (.int .i64 lq2))
                rw [hu] at KBN ⊢
                clear hu
                replace T := zH (T.out.trans hb)
                refine ⟨hb, ?_⟩
                clear hb
                refine WTq 14 ?_; apply Exists.intro; refine ⟨fun w1 hb1 => ?_, ?_⟩; (focus ((have hb1 := zH hb1; go_simp); (try (go_bits; try go_simp)); (try (rw [if_pos (by omega)]; try go_simp)); (first | done | (with_reducible rfl) | exact rfl)))
                simp only [Act.put, zzT, zzO, zzS]
                refine WT_done (by kernel_rfl) ?_
                go_wp2_with fail
                go_meet
                case rel => exact ⟨BN, rfl, rfl, rfl, KBN, T⟩
            obtain ⟨z2, hwo⟩ : ∃ wo, wo = wc := ⟨_, rfl⟩
            subst hwo
            obtain ⟨BQ, rfl, rfl, rfl, KQ, hb⟩ := hcut
            replace hb := hb.out
            replace HB := zH (bThen HB.out hb)
            replace HLM := zH (HLM.out.to hb)
            replace HRL := zH (HRL.out.to hb)
            clear hb HLW HCPY HCR K3 K4 K5
            cases em
            case true =>
              obtain ⟨rfl, rfl⟩ := HEMP.out rfl
              have hrr0 : (rb != rb) = false := by simp
              go_wp2_with fail
              go_ret
              exact ⟨rfl, HB.out⟩
            obtain ⟨rfl, rfl, rfl, hd0, hd1, hq0, hq1, hfr, hol, hsrt, hin1, hin2⟩ := HNON.out rfl
            have hrr0 : (rb != rb) = false := by simp
            have HRF := zH (fun W => from_b lq1 lq2 _ W hq0 hq1 hd0 hd1 hfr)
            have HC0 := zH (fun W => HCZ.out W lv HLV.out)
            obtain ⟨no, hno⟩ : ∃ t, oc.length = t := ⟨_, rfl⟩
            obtain ⟨ne, hne⟩ : ∃ t, en.length = t := ⟨_, rfl⟩
            have HNO := zH hno
            have HNE := zH hne
            have HSRT := zH hsrt
            have HIN1 := zH hin1
            have HIN2 := zH hin2
            have HQ0 : Hid ((lq2 ≤ 0) = False) := zH (by simp; omega)
            have HQ1 : Hid (((ne : Int) < (no : Int)) = False) := zH (by simp; omega)
            have HQ2 : Hid ((ne < no) = False) := zH (by simp; omega)
            have hl5 : en.length ≤ 100000 := by
              have h1 := HZE.out
              omega
            have hl6 : no ≤ 100000 := by omega
            rw [hno] at HRL hol HSRT HIN1 ⊢
            rw [hne] at hol hl5 HIN2 ⊢
            clear hno hne hsrt hin1 hin2 hfr hd0 hd1 hq0 hq1 HCM HCZ HEMP HNON
            go_wp2_with fail
            refine wp_region_tree (by kernel_rfl) (fun wd hwd => ?_)
            have T := zH hwd
            clear hwd
            refine WTq 0 ?_; apply Exists.intro; refine ⟨fun w1 hb1 => ?_, ?_⟩; (focus ((have hb1 := zH hb1; go_simp); (try (go_bits; try go_simp)); (try (rw [if_pos (by omega)]; try go_simp)); (first | done | (with_reducible rfl) | exact rfl)))
            simp only [Act.put, zzT, zzO, zzS]
            refine WTq 1 ?_; apply Exists.intro; refine ⟨fun w1 hb1 => ?_, ?_⟩; (focus ((have hb1 := zH hb1; go_simp); (try (go_bits; try go_simp)); (try (rw [if_pos (by omega)]; try go_simp)); (first | done | (with_reducible rfl) | exact rfl)))
            simp only [Act.put, zzT, zzO, zzS]
            refine WTq 2 ?_; apply Exists.intro; refine ⟨fun w1 hb1 => ?_, ?_⟩; (focus ((have hb1 := zH hb1; go_simp); (try (go_bits; try go_simp)); (try (rw [if_pos (by omega)]; try go_simp)); (first | done | (with_reducible rfl) | exact rfl)))
            simp only [Act.put, zzT, zzO, zzS]
            refine WTq 3 ?_; apply Exists.intro; refine ⟨fun w1 hb1 => ?_, ?_⟩; (focus ((have hb1 := zH hb1; go_simp); (try (go_bits; try go_simp)); (try (rw [if_pos (by omega)]; try go_simp)); (first | done | (with_reducible rfl) | exact rfl)))
            simp only [Act.put, zzT, zzO, zzS]
            refine WTq 4 ?_; apply Exists.intro; refine ⟨fun w1 hb1 => ?_, ?_⟩; (focus ((have hb1 := zH hb1; go_simp); (try (go_bits; try go_simp)); (try (rw [if_pos (by omega)]; try go_simp)); (first | done | (with_reducible rfl) | exact rfl)))
            simp only [Act.put, zzT, zzO, zzS]
            refine WTq 5 ?_; apply Exists.intro; refine ⟨fun w1 hb1 => ?_, ?_⟩; (focus ((have hb1 := zH hb1; go_simp); (try (go_bits; try go_simp)); (try (rw [if_pos (by omega)]; try go_simp)); (first | done | (with_reducible rfl) | exact rfl)))
            simp only [Act.put, zzT, zzO, zzS]
            refine WTq 6 ?_; apply Exists.intro; refine ⟨fun w1 hb1 => ?_, ?_⟩; (focus ((have hb1 := zH hb1; go_simp); (try (go_bits; try go_simp)); (try (rw [if_pos (by omega)]; try go_simp)); (first | done | (with_reducible rfl) | exact rfl)))
            simp only [Act.put, zzT, zzO, zzS]
            refine WTq 7 ?_; apply Exists.intro; refine ⟨fun w1 hb1 => ?_, ?_⟩; (focus ((have hb1 := zH hb1; go_simp); (try (go_bits; try go_simp)); (try (rw [if_pos (by omega)]; try go_simp)); (first | done | (with_reducible rfl) | exact rfl)))
            simp only [Act.put, zzT, zzO, zzS]
            refine WTq 8 ?_; apply Exists.intro; refine ⟨fun w1 hb1 => ?_, ?_⟩; (focus ((have hb1 := zH hb1; go_simp); (try (go_bits; try go_simp)); (try (rw [if_pos (by omega)]; try go_simp)); (first | done | (with_reducible rfl) | exact rfl)))
            simp only [Act.put, zzT, zzO, zzS]
            refine WTq 9 ?_; apply Exists.intro; refine ⟨fun w1 hb1 => ?_, ?_⟩; (focus (((obtain ⟨-, kq, -⟩ := KQ.out.to (T.out.trans hb1)); have hb1 := zH hb1; go_simp); (try (go_bits; try go_simp)); (try (rw [if_pos (by omega)]; try go_simp)); (first | done | (with_reducible rfl) | exact rfl)))
            simp only [Act.put, zzT, zzO, zzS]
            refine WTq 10 ?_; apply Exists.intro; refine ⟨fun w1 hb1 => ?_, ?_⟩; (focus (((have z0 := HQ0.out); have hb1 := zH hb1; go_simp); (try (go_bits; try go_simp)); (try (rw [if_pos (by omega)]; try go_simp)); (first | done | (with_reducible rfl) | exact rfl)))
            simp only [Act.put, zzT, zzO, zzS]
            refine WTq 11 ?_; apply Exists.intro; refine ⟨fun w1 hb1 => ?_, ?_⟩; (focus ((have hb1 := zH hb1; go_simp); (try (go_bits; try go_simp)); (try (rw [if_pos (by omega)]; try go_simp)); (first | done | (with_reducible rfl) | exact rfl)))
            simp only [Act.put, zzT, zzO, zzS]
            refine WTq 12 ?_; apply Exists.intro; refine ⟨fun w1 hb1 => ?_, ?_⟩; (focus ((have hb1 := zH hb1; go_simp); (try (go_bits; try go_simp)); (try (rw [if_pos (by omega)]; try go_simp)); (first | done | (with_reducible rfl) | exact rfl)))
            simp only [Act.put, zzT, zzO, zzS]
            refine WTq 13 ?_; apply Exists.intro; refine ⟨fun w1 hb1 => ?_, ?_⟩; (focus (((obtain ⟨-, kq, -⟩ := KQ.out.to (T.out.trans hb1)); have hb1 := zH hb1; go_simp); (try (go_bits; try go_simp)); (try (rw [if_pos (by omega)]; try go_simp)); (first | done | (with_reducible rfl) | exact rfl)))
            simp only [Act.put, zzT, zzO, zzS]
            refine WTq 15 ?_; apply Exists.intro; refine ⟨fun w1 hb1 => ?_, ?_⟩; (focus (((obtain ⟨-, kx, -⟩ := (HLM.out.to (T.out.trans hb1)).box); have hb1 := zH hb1; go_simp); (try (go_bits; try go_simp)); (try (rw [if_pos (by omega)]; try go_simp)); (first | done | (with_reducible rfl) | exact rfl)))
            simp only [Act.put, zzT, zzO, zzS]
            refine WT_one 14 rfl (by kernel_rfl) ?_
            unfold stepT
            go_wp2_with fail
            refine (HRF.out _).mono ?_
            rintro e u1 ⟨ap, bp, vp, rfl, hrr, hb, -⟩
            have HRp := zH hrr
            obtain ⟨sp, np, cp, tp, mp, dp, rfl, -, -⟩ := hrr.ex
            have hbd := zH (hb.mono T.out.size)
            replace T := zH (bThen T.out hb)
            clear hb hrr HRF
            go_wp2_with fail
            refine ⟨hbd.out, ?_⟩
            clear hbd
            refine WT_one 16 rfl (by kernel_rfl) ?_
            unfold stepT
            go_wp2_with fail
            refine (HC0.out _ _ _ _ _ _ _ HRp.out (HLM.out.to T.out).rr).mono ?_
            rintro e u2 ⟨rfl, hb⟩
            have hbd := zH (hb.mono T.out.size)
            replace T := zH (bThen T.out hb)
            clear hb HC0 HRp
            go_wp2_with fail
            refine ⟨hbd.out, ?_⟩
            clear hbd
            refine WTq 17 ?_; apply Exists.intro; refine ⟨fun w1 hb1 => ?_, ?_⟩; (focus ((have hb1 := zH hb1; go_simp); (try (go_bits; try go_simp)); (try (rw [if_pos (by omega)]; try go_simp)); (first | done | (with_reducible rfl) | exact rfl)))
            simp only [Act.put, zzT, zzO, zzS]
            refine WTq 18 ?_; apply Exists.intro; refine ⟨fun w1 hb1 => ?_, ?_⟩; (focus ((have hb1 := zH hb1; go_simp); (try (go_bits; try go_simp)); (try (rw [if_pos (by omega)]; try go_simp)); (first | done | (with_reducible rfl) | exact rfl)))
            simp only [Act.put, zzT, zzO, zzS]
            refine WTq 19 ?_; apply Exists.intro; refine ⟨fun w1 hb1 => ?_, ?_⟩; (focus ((have hb1 := zH hb1; go_simp); (try (go_bits; try go_simp)); (try (rw [if_pos (by omega)]; try go_simp)); (first | done | (with_reducible rfl) | exact rfl)))
            simp only [Act.put, zzT, zzO, zzS]
            refine WTq 20 ?_; apply Exists.intro; refine ⟨fun w1 hb1 => ?_, ?_⟩; (focus ((have hb1 := zH hb1; go_simp); (try (go_bits; try go_simp)); (try (rw [if_pos (by omega)]; try go_simp)); (first | done | (with_reducible rfl) | exact rfl)))
            simp only [Act.put, zzT, zzO, zzS]
            refine WTq 21 ?_; apply Exists.intro; refine ⟨fun w1 hb1 => ?_, ?_⟩; (focus ((have hb1 := zH hb1; go_simp); (try (go_bits; try go_simp)); (try (rw [if_pos (by omega)]; try go_simp)); (first | done | (with_reducible rfl) | exact rfl)))
            simp only [Act.put, zzT, zzO, zzS]
            refine WTq 22 ?_; apply Exists.intro; refine ⟨fun w1 hb1 => ?_, ?_⟩; (focus ((have hb1 := zH hb1; go_simp); (try (go_bits; try go_simp)); (try (rw [if_pos (by omega)]; try go_simp)); (first | done | (with_reducible rfl) | exact rfl)))
            simp only [Act.put, zzT, zzO, zzS]
            refine WTq 23 ?_; apply Exists.intro; refine ⟨fun w1 hb1 => ?_, ?_⟩; (focus ((have hb1 := zH hb1; go_simp); (try (go_bits; try go_simp)); (try (rw [if_pos (by omega)]; try go_simp)); (first | done | (with_reducible rfl) | exact rfl)))
            simp only [Act.put, zzT, zzO, zzS]
            refine WTq 24 ?_; apply Exists.intro; refine ⟨fun w1 hb1 => ?_, ?_⟩; (focus (((have z1 := HQ1.out; have z2 := HQ2.out); have hb1 := zH hb1; go_simp); (try (go_bits; try go_simp)); (try (rw [if_pos (by omega)]; try go_simp)); (first | done | (with_reducible rfl) | exact rfl)))
            simp only [Act.put, zzT, zzO, zzS]
            refine WTq 25 ?_; apply Exists.intro; refine ⟨fun w1 hb1 => ?_, ?_⟩; (focus ((have hb1 := zH hb1; go_simp); (try (go_bits; try go_simp)); (try (rw [if_pos (by omega)]; try go_simp)); (first | done | (with_reducible rfl) | exact rfl)))
            simp only [Act.put, zzT, zzO, zzS]
            refine WT_done (by kernel_rfl) ?_
            replace HB := zH (bThen HB.out T.out)
            replace HLM := zH (HLM.out.to T.out)
            replace HRL := zH (HRL.out.to T.out)
            clear T KQ
            obtain ⟨z3, hz3⟩ : ∃ z, z = u2 := ⟨_, rfl⟩
            subst hz3
            have hown := HLM.out.own
            rw [HNE.out] at hown
            obtain ⟨a', cap', e, -, hrd, -⟩ := Reads.of_row (f := osts en) hown (fun i hi => scells_get en i (by rw [HNE.out]; exact hi))
            cases e
            have HENR := zH hrd
            clear hrd hown HLM HQ0 HQ1 HQ2
            go_wp2_with fail
            go_loopw [30] (fun s30 wr => ∃ j : Nat, s30 = .int .i64 j ∧ j ≤ no ∧ Hid (Below z3.heap.size z3 wr)) (fun s30 _ => no - (intOf s30).toNat)
            case atStart => exact ⟨0, rfl, Nat.zero_le _, zH (bSelf _)⟩
            case round =>
              obtain ⟨j, rfl, hj, HR0⟩ := hrel
              obtain ⟨wo, hwo⟩ : ∃ wo, wo = wr := ⟨_, rfl⟩
              subst hwo
              by_cases hjn : j < no
              · obtain ⟨bl, ol, rfl, hbl, hcl⟩ := (HRL.out.to HR0.out).at (k := j * 2) (by omega)
                obtain ⟨⟨n2, d2⟩, hz2⟩ : ∃ q, sg oc j = q := ⟨_, rfl⟩
                have F0 : Hid (wo.cell? ⟨bl, ol + j * 2, none⟩ = some (.int .i64 n2)) := zH (by rw [hcl _ (by omega), osts0, hz2])
                have F1 : Hid (wo.cell? ⟨bl, ol + j * 2 + 1, none⟩ = some (.bool d2)) := zH (by rw [Nat.add_assoc, hcl _ (by omega), osts1, hz2])
                have hi1 := HIN1.out j hjn
                rw [hz2] at hi1
                have HIS := zH (fun W (hb : Below wo.heap.size wo W) => isEnd_b en n2 d2 true ne va vc W hi1 HNE.out hl5 ((HENR.out.to HR0.out).to hb))
                have HZ2 := zH hz2
                clear hi1 hz2
                by_cases hj0 : j = 0
                · have HU : Hid (((0 : Int) < (j : Int)) = False ∧ (0 < j) = False) := zH ⟨eq_false (by omega), eq_false (by omega)⟩
                  clear hj0 hcl
                  go_wp2_with fail
                  refine wp_region_quiet_all (fun w' => Below (World.heap wo).size (wo) w') (by kernel_rfl) (by kernel_rfl) (Below.refl _ _).drew ?_
                  refine WQ.out ?_
                  repeat (first | (refine WQ_no (by rfl) ?_; (simp only [Act.put, zzT, zzO, zzS])) | (refine WQ_yes (by rfl) ?_; apply Exists.intro; refine ⟨fun w1 hb1 => ?_, ?_⟩; (focus (((obtain ⟨u1, x1⟩ := HU.out; have f0 := (hb1.cell (p := ⟨bl, ol + j * 2, none⟩) hbl).trans F0.out; have f1 := (hb1.cell (p := ⟨bl, ol + j * 2 + 1, none⟩) hbl).trans F1.out); have hb1 := zH hb1; go_simp); (try (go_bits; try go_simp)); (try (rw [if_pos (by omega)]; try go_simp)); (first | done | ((go_at_call 36; refine (HIS.out _ hb1.out).mono ?_; rintro e w' ⟨rfl, hb⟩; exact ⟨rfl, bThen hb1.out hb⟩)) | (with_reducible rfl) | exact rfl))); (simp only [Act.put, zzT, zzO, zzS])))
                  refine WQ_nil ?_
                  intro w1 hb1
                  replace HR0 := zH (bThen HR0.out hb1)
                  clear hb1
                  go_wp2_with fail
                  go_roundw
                  case rel => exact ⟨j + 1, by go_num, by omega, HR0⟩
                  case measure => simp [intOf]; omega
                · obtain ⟨i, rfl⟩ : ∃ i, j = i + 1 := ⟨j - 1, by omega⟩
                  have HU : Hid (((0 : Int) < ((i + 1 : Nat) : Int)) = True ∧ (0 < i + 1) = True ∧ ((i + 1 : Nat) : Int) - 1 = (i : Int)) := zH ⟨eq_true (by omega), eq_true (by omega), by omega⟩
                  obtain ⟨⟨n3, d3⟩, hz3⟩ : ∃ q, sg oc i = q := ⟨_, rfl⟩
                  have G0 : Hid (wo.cell? ⟨bl, ol + i * 2, none⟩ = some (.int .i64 n3)) := zH (by rw [hcl _ (by omega), osts0, hz3])
                  have G1 : Hid (wo.cell? ⟨bl, ol + i * 2 + 1, none⟩ = some (.bool d3)) := zH (by rw [Nat.add_assoc, hcl _ (by omega), osts1, hz3])
                  have hs1 := HSRT.out i hjn
                  rw [hz3, HZ2.out] at hs1
                  have HLS := zH (fun W => rLess_b n3 n2 d3 d2 true W hs1)
                  clear hj0 hcl hz3 hs1
                  have hjj := HU.out.2.2
                  go_wp2_with fail
                  refine wp_region_quiet_all (fun w' => Below (World.heap wo).size (wo) w') (by kernel_rfl) (by kernel_rfl) (Below.refl _ _).drew ?_
                  refine WQ.out ?_
                  repeat (first | (refine WQ_no (by rfl) ?_; (simp only [Act.put, zzT, zzO, zzS])) | (refine WQ_yes (by rfl) ?_; apply Exists.intro; refine ⟨fun w1 hb1 => ?_, ?_⟩; (focus (((obtain ⟨u1, x1, u3⟩ := HU.out; have f0 := (hb1.cell (p := ⟨bl, ol + (i + 1) * 2, none⟩) hbl).trans F0.out; have f1 := (hb1.cell (p := ⟨bl, ol + (i + 1) * 2 + 1, none⟩) hbl).trans F1.out; have g0 := (hb1.cell (p := ⟨bl, ol + i * 2, none⟩) hbl).trans G0.out; have g1 := (hb1.cell (p := ⟨bl, ol + i * 2 + 1, none⟩) hbl).trans G1.out); have hb1 := zH hb1; go_simp); (try (go_bits; try go_simp)); (try (rw [if_pos (by omega)]; try go_simp)); (first | done | ((first | (go_at_call 35; refine (HLS.out _).mono ?_; rintro e w' ⟨rfl, hb⟩; exact ⟨rfl, bThen hb1.out hb⟩) | (go_at_call 36; refine (HIS.out _ hb1.out).mono ?_; rintro e w' ⟨rfl, hb⟩; exact ⟨rfl, bThen hb1.out hb⟩))) | (with_reducible rfl) | exact rfl))); (simp only [Act.put, zzT, zzO, zzS])))
                  refine WQ_nil ?_
                  intro w1 hb1
                  replace HR0 := zH (bThen HR0.out hb1)
                  clear hb1
                  go_wp2_with fail
                  go_roundw
                  case rel => exact ⟨i + 1 + 1, by go_num, by omega, HR0⟩
                  case measure => simp [intOf]; omega
              · obtain rfl : no = j := by omega
                replace HB := zH (bThen HB.out HR0.out)
                replace HRL := zH (HRL.out.to HR0.out)
                replace HENR := zH (HENR.out.to HR0.out)
                clear HR0 HSRT HIN1
                obtain ⟨z4, hz4⟩ : ∃ z, z = wo := ⟨_, rfl⟩
                subst hz4
                go_wp2_with fail
                go_loopw [31] (fun s31 wr => ∃ j : Nat, s31 = .int .i64 j ∧ j ≤ ne ∧ Hid (Below z4.heap.size z4 wr)) (fun s31 _ => ne - (intOf s31).toNat)
                case atStart => exact ⟨0, rfl, Nat.zero_le _, zH (bSelf _)⟩
                case round =>
                  obtain ⟨j, rfl, hj2, HR0⟩ := hrel
                  obtain ⟨wo, hwo⟩ : ∃ wo, wo = wr := ⟨_, rfl⟩
                  subst hwo
                  by_cases hjn2 : j < ne
                  · obtain ⟨bl, ol, rfl, hbl, hcl⟩ := (HENR.out.to HR0.out).at (k := j * 2) (by omega)
                    obtain ⟨⟨n2, d2⟩, hz2⟩ : ∃ q, sg en j = q := ⟨_, rfl⟩
                    have f0 : wo.cell? ⟨bl, ol + j * 2, none⟩ = some (.int .i64 n2) := by rw [hcl _ (by omega), osts0, hz2]
                    have f1 : wo.cell? ⟨bl, ol + j * 2 + 1, none⟩ = some (.bool d2) := by rw [Nat.add_assoc, hcl _ (by omega), osts1, hz2]
                    have hi1 := HIN2.out j hjn2
                    rw [hz2] at hi1
                    have HIS := zH (isEnd_b oc n2 d2 true no aL cL wo hi1 HNO.out hl6 (HRL.out.to HR0.out))
                    clear hi1 hz2 hcl
                    go_wp2_with fail
                    refine HIS.out.mono ?_
                    rintro e wp ⟨rfl, hb⟩
                    replace HR0 := zH (bThen HR0.out hb)
                    clear hb f0 f1
                    go_wp2_with fail
                    go_roundw
                    case rel => exact ⟨j + 1, by go_num, by omega, HR0⟩
                    case measure => simp [intOf]; omega
                  · obtain rfl : ne = j := by omega
                    go_wp2_with fail
                    go_ret
                    exact ⟨rfl, bThen HB.out HR0.out⟩
end
end Go.Proofs.YtbpcapcgbnbknaaGreat
