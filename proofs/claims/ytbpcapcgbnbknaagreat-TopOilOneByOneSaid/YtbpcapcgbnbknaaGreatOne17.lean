/-
  Texts of this claim, in their build order: Y2.
-/
import Derived.Test.YtbpcapcgbnbknaaGreatOne16
import Derived.Test.YtbpcapcgbnbknaaGreatOne5
import Derived.Test.YtbpcapcgbnbknaaGreatOne0

namespace Go.Proofs.YtbpcapcgbnbknaaGreat
section
open Go.RowKit

theorem RW.set1 {W : World} {a : Option Addr} {v : Value} {z : Int} (h : RW W a v z) {b i : Nat} (hb : Loc (fun c => c ≠ b) a z) (x : Value) : RW (W.setCell ⟨b, i, none⟩ x) a v z := by
  by_cases hn : dg z = []
  · exact h.keep (fun _ => .inl (by rw [hn]; rfl))
  · exact h.keep (fun hr => hr.other _ _ (fun c off e => by subst e; exact hb hn _ rfl))
/-- A fraction as the program holds it: two numbers. -/
def RR (W : World) (a1 a2 : Option Addr) (v : Value) (q : Int × Int) : Prop :=
  ∃ s1 n1 c1 s2 n2 c2, v = .agg #[.int .i64 s1, .slice a1 n1 c1, .int .i64 s2, .slice a2 n2 c2] ∧ RW W a1 (.agg #[.int .i64 s1, .slice a1 n1 c1]) q.1 ∧ RW W a2 (.agg #[.int .i64 s2, .slice a2 n2 c2]) q.2
theorem RR.to {W W' : World} {a1 a2 : Option Addr} {v : Value} {q : Int × Int} (h : RR W a1 a2 v q) (hb : Below W.heap.size W W') : RR W' a1 a2 v q := by
  obtain ⟨s1, n1, c1, s2, n2, c2, e, h1, h2⟩ := h
  exact ⟨s1, n1, c1, s2, n2, c2, e, h1.to hb, h2.to hb⟩
theorem RR.set1 {W : World} {a1 a2 : Option Addr} {v : Value} {q : Int × Int} (h : RR W a1 a2 v q) {b i : Nat} (hb1 : Loc (fun c => c ≠ b) a1 q.1) (hb2 : Loc (fun c => c ≠ b) a2 q.2) (x : Value) : RR (W.setCell ⟨b, i, none⟩ x) a1 a2 v q := by
  obtain ⟨s1, n1, c1, s2, n2, c2, e, h1, h2⟩ := h
  exact ⟨s1, n1, c1, s2, n2, c2, e, h1.set1 hb1 x, h2.set1 hb2 x⟩
/-- What comes of a call: a fraction, whose digits lie in new memory or where an argument's do. -/
def RPost (ins : List (Option Addr × Int)) (q : Int × Int) (w : World) (e : Ending) (w' : World) : Prop :=
  ∃ a1 a2 v, e = .returned v ∧ RR w' a1 a2 v q ∧ Below w.heap.size w w' ∧
    ∀ P : Nat → Prop, (∀ b, w.heap.size ≤ b → P b) → (∀ i ∈ ins, Loc P i.1 i.2) → Loc P a1 q.1 ∧ Loc P a2 q.2
theorem fr_ediv (n m : Int) : fr n m = (n / (Int.gcd n m : Nat), m / (Int.gcd n m : Nat)) := by
  unfold fr
  rw [Int.tdiv_eq_ediv_of_dvd (Int.gcd_dvd_left ..), Int.tdiv_eq_ediv_of_dvd (Int.gcd_dvd_right ..)]
theorem gcd_le_right {n m : Int} (hm : 0 < m) : 0 < ((Int.gcd n m : Nat) : Int) ∧ ((Int.gcd n m : Nat) : Int) ≤ m := by
  have h0 : 0 < Int.gcd n m := Nat.pos_of_ne_zero (fun h => by have := (Int.gcd_eq_zero_iff.1 h).2; omega)
  exact ⟨by omega, Int.le_of_dvd hm (Int.gcd_dvd_right ..)⟩

set_option maxHeartbeats 1600000 in
set_option maxRecDepth 100000 in
theorem RatioMake_any (z1 z2 : Int) (a1 a2 : Option Addr) (v1 v2 : Value) (w : World) (h1 : RW w a1 v1 z1) (h2 : RW w a2 v2 z2) (hl1 : (dg z1).length ≤ 100) (hl2 : (dg z2).length ≤ 100) (hz2 : 0 < z2) :
    Calls Tryz.prog 136 #[v1, v2] w fun e w1 => RPost [(a1, z1), (a2, z2)] (fr z1 z2) w e w1 := by
  obtain ⟨hg0, hg1⟩ := gcd_le_right (n := z1) hz2
  have HFR := zH (fr_ediv z1 z2)
  have HSG := zH (fun W (hb : Below w.heap.size w W) => WideSign_any z2 a2 v2 W (h2.to hb))
  have HGC := zH (fun W (hb : Below w.heap.size w W) => wideGcd_any z1 z2 a1 a2 v1 v2 W (h1.to hb) (h2.to hb) hl1 hl2)
  obtain ⟨g, hg⟩ : ∃ g : Int, ((Int.gcd z1 z2 : Nat) : Int) = g := ⟨_, rfl⟩
  rw [hg] at hg0 hg1 HFR HGC
  have hgl : (dg g).length ≤ 100 := dg_le (by omega) hl2
  have HF1 := zH (fun W aG vG (hb : Below w.heap.size w W) (hv : RW W aG vG g) => WideFloor_any z1 g a1 aG v1 vG W (h1.to hb) hv (by omega) (by omega) hg0)
  have HF2 := zH (fun W aG vG (hb : Below w.heap.size w W) (hv : RW W aG vG g) => WideFloor_any z2 g a2 aG v2 vG W (h2.to hb) hv (by omega) (by omega) hg0)
  have HWO := zH (fun W => WideOf_any 1 W (by omega) (by omega))
  have HCM := zH (fun W aG aO vG vO (hv : RW W aG vG g) (hv' : RW W aO vO 1) => WideCmp_any g 1 aG aO vG vO W hv hv' (by omega) (by have := digs_len 1 (1 : Int).natAbs (by decide); unfold dg; omega))
  have HL1 := zH h1.loc
  have HL2 := zH h2.loc
  have R1 := zH h1
  have R2 := zH h2
  rw [Int.sign_eq_one_of_pos hz2] at HSG
  obtain ⟨s1, n1, c1, rfl⟩ := h1.ex
  obtain ⟨s2, n2, c2, rfl⟩ := h2.ex
  clear h1 h2 hl1 hl2 hz2 hg hg1 hgl
  go_enter Tryz.func136, Tryz.ntmps136
  go_upto_region 1 with (fail)
  obtain ⟨w3, hw3⟩ : ∃ w3, ((w.alloc (.cells #[.int .i64 s1, .slice a1 n1 c1] 63)).alloc (.cells #[.int .i64 s2, .slice a2 n2 c2] 63)).alloc (.cells #[.int .i64 0, .slice none 0 0, .int .i64 0, .slice none 0 0] 65) = w3 := ⟨_, rfl⟩
  rw [hw3]
  have K0 : Hid (Blk w3 w.heap.size #[.int .i64 s1, .slice a1 n1 c1]) := by subst hw3; exact zH (((Blk.new _ _ _).alloc _).alloc _)
  have K1 : Hid (Blk w3 (w.heap.size + 1) #[.int .i64 s2, .slice a2 n2 c2]) := by subst hw3; exact zH ((Blk.newAt _ _ _ (by simp)).alloc _)
  have K2 : Hid (Blk w3 (w.heap.size + 2) #[.int .i64 0, .slice none 0 0, .int .i64 0, .slice none 0 0]) := by subst hw3; exact zH (Blk.newAt _ _ _ (by simp))
  have HB : Hid (Below w.heap.size w w3) := by subst hw3; exact zH (bAlloc (bAlloc (bAlloc (bSelf w) _) _) _)
  clear hw3
  obtain ⟨-, k0, -⟩ := K0.out
  obtain ⟨-, k1, -⟩ := K1.out
  go_wp2_with fail
  refine (HSG.out _ HB.out).mono ?_
  rintro e w4 ⟨rfl, hb⟩
  replace K0 := zH (K0.out.to hb)
  replace K1 := zH (K1.out.to hb)
  replace K2 := zH (K2.out.to hb)
  replace HB := zH (bThen HB.out hb)
  clear hb k0 k1
  obtain ⟨-, k0, -⟩ := K0.out
  obtain ⟨-, k1, -⟩ := K1.out
  go_wp2_with fail
  refine (HGC.out _ HB.out).mono ?_
  rintro e w5 ⟨aG, vG, rfl, hvG, hb, hlG⟩
  replace K0 := zH (K0.out.to hb)
  replace K1 := zH (K1.out.to hb)
  replace K2 := zH (K2.out.to hb)
  replace HB := zH (bThen HB.out hb)
  have HVG := zH hvG
  obtain ⟨sG, nG, cG, rfl⟩ := hvG.ex
  clear hb k0 k1 hvG hlG
  have hs5 : w.heap.size + 2 < w5.heap.size := K2.out.1
  go_upto_region 4 with (fail)
  obtain ⟨w6, hw6⟩ : ∃ w6, w5.alloc (.cells #[.int .i64 sG, .slice aG nG cG] 63) = w6 := ⟨_, rfl⟩
  rw [hw6]
  have hb : Below w5.heap.size w5 w6 := by subst hw6; exact bAlloc (bSelf _) _
  have KB : Hid (Blk w6 w5.heap.size #[.int .i64 sG, .slice aG nG cG]) := by subst hw6; exact zH (Blk.new _ _ _)
  replace K0 := zH (K0.out.to hb)
  replace K1 := zH (K1.out.to hb)
  replace K2 := zH (K2.out.to hb)
  replace HVG := zH (HVG.out.to hb)
  replace HB := zH (bThen HB.out hb)
  clear hb hw6
  obtain ⟨B, hBe⟩ : ∃ B, w5.heap.size = B := ⟨_, rfl⟩
  rw [hBe] at KB hs5 ⊢
  clear hBe
  refine wp_region_tree (by kernel_rfl) (fun wd hwd => ?_)
  have T := zH hwd
  clear hwd
  refine WTq 0 ?_; apply Exists.intro; refine ⟨fun w1 hb1 => ?_, ?_⟩; (focus (((obtain ⟨-, kb, -⟩ := KB.out.to (T.out.trans hb1)); have hb1 := zH hb1; go_simp); (try (go_bits; try go_simp)); (try (rw [if_pos (by omega)]; try go_simp)); (first | done | (with_reducible rfl) | exact rfl)))
  simp only [Act.put, zzT, zzO, zzS]
  refine WT_one 1 rfl (by kernel_rfl) ?_
  unfold stepT
  go_wp2_with fail
  refine (HWO.out _).mono ?_
  rintro e w7 ⟨aO, vO, rfl, hvO, hb, -⟩
  have HVO := zH hvO
  have hbd := zH (hb.mono T.out.size)
  replace T := zH (T.out.trans hbd.out)
  clear hb hvO
  go_wp2_with fail
  refine ⟨hbd.out, ?_⟩
  clear hbd
  refine WT_one 2 rfl (by kernel_rfl) ?_
  unfold stepT
  go_wp2_with fail
  refine (HCM.out _ _ _ _ _ (HVG.out.to T.out) HVO.out).mono ?_
  rintro e w8 ⟨rfl, hb⟩
  have hbd := zH (hb.mono T.out.size)
  replace T := zH (T.out.trans hbd.out)
  clear hb HVO
  replace K0 := zH (K0.out.to T.out)
  replace K1 := zH (K1.out.to T.out)
  replace K2 := zH (K2.out.to T.out)
  replace KB := zH (KB.out.to T.out)
  replace HVG := zH (HVG.out.to T.out)
  replace HB := zH (bThen HB.out T.out)
  clear T HWO HCM HSG HGC
  by_cases hg1 : g = 1
  · subst hg1
    go_wp2_with fail
    refine ⟨hbd.out, ?_⟩
    clear hbd
    refine WT_one 3 rfl (by kernel_rfl) ?_
    unfold stepT
    go_wp2_with fail
    refine ⟨Below.refl _ _, ?_⟩
    refine WT_done (by kernel_rfl) ?_
    obtain ⟨-, k0, -⟩ := K0.out
    obtain ⟨-, k1, -⟩ := K1.out
    obtain ⟨hk2, k2, f2⟩ := K2.out
    go_wp2_with fail
    clear k0 k1 k2 f2
    have FF := ((((K2.out.set 0 (.int .i64 s1)).set 1 (.slice a1 n1 c1)).set 2 (.int .i64 s2)).set 3 (.slice a2 n2 c2)).2.1
    have F0 := FF 0; have F1 := FF 1; have F2 := FF 2; have F3 := FF 3
    clear FF
    have HP : Hid (∀ (w' : World) (e : Ending), w' = (((w8.setCell ⟨w.heap.size + 2, 0, none⟩ (.int .i64 s1)).setCell ⟨w.heap.size + 2, 1, none⟩ (.slice a1 n1 c1)).setCell ⟨w.heap.size + 2, 2, none⟩ (.int .i64 s2)).setCell ⟨w.heap.size + 2, 3, none⟩ (.slice a2 n2 c2) → e = .returned (.agg #[.int .i64 s1, .slice a1 n1 c1, .int .i64 s2, .slice a2 n2 c2]) → RPost [(a1, z1), (a2, z2)] (fr z1 z2) w e w') := zH (fun w' e hw he => by
      subst hw
      rw [HFR.out, Int.ediv_one, Int.ediv_one]
      refine ⟨a1, a2, _, he, ⟨s1, n1, c1, s2, n2, c2, rfl, ?_, ?_⟩, ?_, fun P hf hi => ⟨hi (a1, z1) (by simp), hi (a2, z2) (by simp)⟩⟩
      · have h : Loc (fun c => c ≠ w.heap.size + 2) a1 z1 := HL1.out.imp (fun b hb => by omega)
        exact ((((R1.out.to HB.out).set1 h _).set1 h _).set1 h _).set1 h _
      · have h : Loc (fun c => c ≠ w.heap.size + 2) a2 z2 := HL2.out.imp (fun b hb => by omega)
        exact ((((R2.out.to HB.out).set1 h _).set1 h _).set1 h _).set1 h _
      · exact (((HB.out.setCell (p := ⟨w.heap.size + 2, 0, none⟩) (by dsimp only; omega) _).setCell (p := ⟨w.heap.size + 2, 1, none⟩) (by dsimp only; omega) _).setCell (p := ⟨w.heap.size + 2, 2, none⟩) (by dsimp only; omega) _).setCell (p := ⟨w.heap.size + 2, 3, none⟩) (by dsimp only; omega) _)
    refine bodyPost_ret (v := .agg #[.int .i64 s1, .slice a1 n1 c1, .int .i64 s2, .slice a2 n2 c2]) ?_ rfl (HP.out _ _ rfl rfl)
    simp [results, Tryz.results136, go_sem, F0, F1, F2, F3]
  · have hne : (g - 1).sign ≠ 0 := fun h => hg1 (by have := Int.sign_eq_zero_iff_zero.1 h; omega)
    obtain ⟨sd, hsd⟩ : ∃ s, (g - 1).sign = s := ⟨_, rfl⟩
    rw [hsd] at hne ⊢
    have hne' : (sd == 0) = false := by simpa using hne
    clear hsd hg1
    go_wp2_with fail
    refine ⟨hbd.out, ?_⟩
    clear hbd
    refine WT_one 3 rfl (by kernel_rfl) ?_
    unfold stepT
    go_wp2_with fail
    refine ⟨Below.refl _ _, ?_⟩
    refine WT_done (by kernel_rfl) ?_
    go_upto_region 6 with (fail)
    have hs8 : B < w8.heap.size := KB.out.1
    refine wp_region_treeT 7 (by kernel_rfl) (by kernel_rfl) (fun wd hwd => ?_)
    have T := zH hwd
    clear hwd
    refine WE_yes 0 rfl (by kernel_rfl) (fun _ _ _ _ _ h => h) (by rfl) ?_; apply Exists.intro; refine ⟨fun w1 hb1 => ?_, ?_⟩; (focus (((obtain ⟨-, k0, -⟩ := K0.out.to (T.out.trans hb1)); have hb1 := zH hb1; go_simp); (try (go_bits; try go_simp)); (try (rw [if_pos (by omega)]; try go_simp)); (first | done | (with_reducible rfl) | exact rfl)))
    simp only [Act.put, zzT, zzO, zzS]
    refine WE_yes 1 rfl (by kernel_rfl) (fun _ _ _ _ _ h => h) (by rfl) ?_; apply Exists.intro; refine ⟨fun w1 hb1 => ?_, ?_⟩; (focus (((obtain ⟨-, kb, -⟩ := KB.out.to (T.out.trans hb1)); have hb1 := zH hb1; go_simp); (try (go_bits; try go_simp)); (try (rw [if_pos (by omega)]; try go_simp)); (first | done | (with_reducible rfl) | exact rfl)))
    simp only [Act.put, zzT, zzO, zzS]
    refine WE_yes 3 rfl (by kernel_rfl) (fun _ _ _ _ _ h => h) (by rfl) ?_; apply Exists.intro; refine ⟨fun w1 hb1 => ?_, ?_⟩; (focus (((obtain ⟨-, k1, -⟩ := K1.out.to (T.out.trans hb1)); have hb1 := zH hb1; go_simp); (try (go_bits; try go_simp)); (try (rw [if_pos (by omega)]; try go_simp)); (first | done | (with_reducible rfl) | exact rfl)))
    simp only [Act.put, zzT, zzO, zzS]
    refine WE_yes 4 rfl (by kernel_rfl) (fun _ _ _ _ _ h => h) (by rfl) ?_; apply Exists.intro; refine ⟨fun w1 hb1 => ?_, ?_⟩; (focus (((obtain ⟨-, kb, -⟩ := KB.out.to (T.out.trans hb1)); have hb1 := zH hb1; go_simp); (try (go_bits; try go_simp)); (try (rw [if_pos (by omega)]; try go_simp)); (first | done | (with_reducible rfl) | exact rfl)))
    simp only [Act.put, zzT, zzO, zzS]
    refine WE_one 2 rfl (by decide) (by kernel_rfl) ?_
    unfold stepE
    go_wp2_with fail
    refine (HF1.out _ _ _ (bThen HB.out T.out) (HVG.out.to T.out)).mono ?_
    rintro e w9 ⟨aN, vN, rfl, hvN, hb, hlN⟩
    have HVN := zH hvN
    have HLN := zH (fun (P : Nat → Prop) (h : ∀ b, w8.heap.size ≤ b → P b) => hlN P (fun b hb => h b (Nat.le_trans T.out.size hb)) (fun i hi => by cases hi))
    have hbd := zH (hb.mono T.out.size)
    replace T := zH (T.out.trans hbd.out)
    clear hb hlN
    go_wp2_with fail
    refine ⟨hbd.out, ?_⟩
    clear hbd
    refine WE_one 5 rfl (by decide) (by kernel_rfl) ?_
    unfold stepE
    go_wp2_with fail
    refine (HF2.out _ _ _ (bThen HB.out T.out) (HVG.out.to T.out)).mono ?_
    rintro e wA ⟨aD, vD, rfl, hvD, hb, hlD⟩
    have HVD := zH hvD
    replace HVN := zH (HVN.out.to hb)
    have HLD := zH (fun (P : Nat → Prop) (h : ∀ b, w8.heap.size ≤ b → P b) => hlD P (fun b hb => h b (Nat.le_trans T.out.size hb)) (fun i hi => by cases hi))
    have hbd := zH (hb.mono T.out.size)
    replace T := zH (T.out.trans hbd.out)
    clear hb hlD
    obtain ⟨sN, nN, cN, rfl⟩ := hvN.ex
    obtain ⟨sD, nD, cD, rfl⟩ := hvD.ex
    clear hvN hvD
    go_wp2_with fail
    refine ⟨hbd.out, ?_⟩
    clear hbd
    refine WE_yes 6 rfl (by kernel_rfl) (fun _ _ _ _ _ h => h) (by rfl) ?_; apply Exists.intro; refine ⟨fun w1 hb1 => ?_, ?_⟩; (focus ((have hb1 := zH hb1; go_simp); (try (go_bits; try go_simp)); (try (rw [if_pos (by omega)]; try go_simp)); (first | done | (with_reducible rfl) | exact rfl)))
    simp only [Act.put, zzT, zzO, zzS]
    replace K2 := zH (K2.out.to T.out)
    replace HB := zH (bThen HB.out T.out)
    clear T
    refine WE_tail rfl (by kernel_rfl) ?_
    simp only [List.drop_succ_cons, List.drop_zero]
    obtain ⟨hk2, k2, f2⟩ := K2.out
    go_wp2_with fail
    clear k2 f2
    have FF := ((((K2.out.set 0 (.int .i64 sN)).set 1 (.slice aN nN cN)).set 2 (.int .i64 sD)).set 3 (.slice aD nD cD)).2.1
    have F0 := FF 0; have F1 := FF 1; have F2 := FF 2; have F3 := FF 3
    clear FF
    have HP : Hid (∀ (w' : World) (e : Ending), w' = (((wA.setCell ⟨w.heap.size + 2, 0, none⟩ (.int .i64 sN)).setCell ⟨w.heap.size + 2, 1, none⟩ (.slice aN nN cN)).setCell ⟨w.heap.size + 2, 2, none⟩ (.int .i64 sD)).setCell ⟨w.heap.size + 2, 3, none⟩ (.slice aD nD cD) → e = .returned (.agg #[.int .i64 sN, .slice aN nN cN, .int .i64 sD, .slice aD nD cD]) → RPost [(a1, z1), (a2, z2)] (fr z1 z2) w e w') := zH (fun w' e hw he => by
      subst hw
      rw [HFR.out]
      refine ⟨aN, aD, _, he, ⟨sN, nN, cN, sD, nD, cD, rfl, ?_, ?_⟩, ?_, fun P hf hi => ⟨HLN.out P (fun b hb => hf b (by omega)), HLD.out P (fun b hb => hf b (by omega))⟩⟩
      · have h : Loc (fun c => c ≠ w.heap.size + 2) aN (z1 / g) := HLN.out _ (fun b hb => by omega)
        exact (((HVN.out.set1 h _).set1 h _).set1 h _).set1 h _
      · have h : Loc (fun c => c ≠ w.heap.size + 2) aD (z2 / g) := HLD.out _ (fun b hb => by omega)
        exact (((HVD.out.set1 h _).set1 h _).set1 h _).set1 h _
      · exact (((HB.out.setCell (p := ⟨w.heap.size + 2, 0, none⟩) (by dsimp only; omega) _).setCell (p := ⟨w.heap.size + 2, 1, none⟩) (by dsimp only; omega) _).setCell (p := ⟨w.heap.size + 2, 2, none⟩) (by dsimp only; omega) _).setCell (p := ⟨w.heap.size + 2, 3, none⟩) (by dsimp only; omega) _)
    refine bodyPost_ret (v := .agg #[.int .i64 sN, .slice aN nN cN, .int .i64 sD, .slice aD nD cD]) ?_ rfl (HP.out _ _ rfl rfl)
    simp [results, Tryz.results136, go_sem, F0, F1, F2, F3]
end
end Go.Proofs.YtbpcapcgbnbknaaGreat
