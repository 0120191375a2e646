/-
  Texts of this claim, in their build order: W13.
-/
import Derived.Test.YtbpcapcgbnbknaaGreatOne13
import Derived.Test.YtbpcapcgbnbknaaGreatOne0

namespace Go.Proofs.YtbpcapcgbnbknaaGreat
section
open Go.RowKit

set_option maxHeartbeats 4000000 in
set_option maxRecDepth 100000 in
theorem WideFloor_some (z1 z2 : Int) (a1 a2 : Option Addr) (v1 v2 : Value) (w : World) (h1 : RW w a1 v1 z1) (h2 : RW w a2 v2 z2) (hl1 : (dg z1).length ≤ 150) (hl2 : (dg z2).length ≤ 150) (hz1 : z1 ≠ 0) (hz2 : 0 < z2) :
    Calls Tryz.prog 170 #[v1, v2] w fun e w1 => WPost [] (z1 / z2) w e w1 := by
  have hmb : ∀ m : Int, 0 ≤ m → m ≤ 999999999 → (dg (z2 * m)).length ≤ 151 := fun m h0 h1 => by
    have e1 : (z2 * m).natAbs = z2.natAbs * m.natAbs := Int.natAbs_mul ..
    have e2 := val_lt (dg_dig z2)
    rw [val_dg] at e2
    have e3 : z2.natAbs < 1000000000 ^ (dg z2).length := by
      have e : ((1000000000 ^ (dg z2).length : Nat) : Int) = 1000000000 ^ (dg z2).length := by simp
      rw [← e] at e2
      omega
    have e4 : z2.natAbs * m.natAbs < 1000000000 ^ ((dg z2).length + 1) := by
      rw [Nat.pow_succ]
      exact Nat.mul_lt_mul'' e3 (by omega)
    have := digs_len ((dg z2).length + 1) (z2 * m).natAbs (by rw [e1]; exact e4)
    unfold dg at this hl2 ⊢
    omega
  have HW1 : Hid (∀ W c2, (dg z2).length ≤ c2 → Reads W a2 (dg z2).length (ints (dg z2)) → Calls Tryz.prog 127 #[.int .i64 1, .slice a2 (dg z2).length c2] W fun e w1 => WAt a2 z2 W e w1) := zH (fun W c2 hc hr => by
    have := wideOf_any 1 (dg z2) a2 c2 W (dg_dig z2) (.inl rfl) (by omega) hc hr
    rw [val_dg, show (1 : Int) * (z2.natAbs : Int) = z2 by omega] at this
    exact this)
  have HWI : Hid (∀ (m : Int) W, 0 ≤ m → m ≤ 999999999 → Calls Tryz.prog 121 #[.int .i64 m] W fun e w1 => WPost [] m W e w1) := zH (fun m W h0 h1 => WideOf_any m W (by omega) (by omega))
  have HWM : Hid (∀ (W : World) (vA vB : Value) (b : Option Addr) (m : Int), 0 ≤ m → m ≤ 999999999 → RW W a2 vA z2 → RW W b vB m → Calls Tryz.prog 86 #[vA, vB] W fun e w1 => WPost [] (z2 * m) W e w1) := zH (fun W vA vB b m h0 h1 hA hB =>
    WideMul_any z2 m a2 b vA vB W hA hB (by omega) (by have := digs_len 1 m.natAbs (by omega); unfold dg; omega))
  have HCP : Hid (∀ (W : World) (b al : Option Addr) (cb cl : Nat) (m : Int) (L : Nat), 0 ≤ m → m ≤ 999999999 → Reads W b (dg (z2 * m)).length (ints (dg (z2 * m))) → Reads W al (digs L).length (ints (digs L)) →
      Calls Tryz.prog 184 #[.slice b (dg (z2 * m)).length cb, .slice al (digs L).length cl] W fun e w' => e = .returned (.int .i64 (cmpI (z2 * m).natAbs L)) ∧ Below W.heap.size W w') := zH (fun W b al cb cl m L h0 h1 hb hl =>
    cmpDigits_any (z2 * m).natAbs L b al cb cl W (show (dg (z2 * m)).length ≤ 1000 by have := hmb m h0 h1; omega) hb hl)
  have HSU : Hid (∀ (W : World) (b al : Option Addr) (cb cl : Nat) (m : Int) (L : Nat), 0 ≤ m → m ≤ 999999999 → z2 * m ≤ L → (digs L).length ≤ 400 → Reads W b (dg (z2 * m)).length (ints (dg (z2 * m))) → Reads W al (digs L).length (ints (digs L)) →
      Calls Tryz.prog 185 #[.slice al (digs L).length cl, .slice b (dg (z2 * m)).length cb] W fun e w1 => DPost (fun out => out = digs ((L : Int) - z2 * m).toNat) W e w1) := zH (fun W b al cb cl m L h0 h1 hle hlL hb hl => by
    have hnn : 0 ≤ z2 * m := Int.mul_nonneg (by omega) h0
    have := subDigits_any (digs L) (dg (z2 * m)) al b cl cb W (digs_dig L) (dg_dig _) hlL (digs_mono (by omega)) (by rw [val_dg, val_digs]; omega) hl hb
    rw [val_dg, val_digs, show ((z2 * m).natAbs : Int) = z2 * m by omega] at this
    exact this)
  obtain ⟨c1, rfl, hc1, hr1⟩ := h1
  obtain ⟨c2, rfl, hc2, hr2⟩ := h2
  have HR1 := zH hr1
  have HR2 := zH hr2
  have HD1 := zH (dg_dig z1)
  have hs0 : z1.sign ≠ 0 := fun h => hz1 (Int.sign_eq_zero_iff_zero.1 h)
  have HVA := zH (val_dg z1)
  obtain ⟨A, hA⟩ : ∃ A, dg z1 = A := ⟨_, rfl⟩
  obtain ⟨s1, hs1⟩ : ∃ s, z1.sign = s := ⟨_, rfl⟩
  obtain ⟨s2, hs2⟩ : ∃ s, z2.sign = s := ⟨_, rfl⟩
  rw [hA] at hl1 HR1 HD1 HVA
  obtain ⟨n1, hn1⟩ : ∃ n, A.length = n := ⟨_, rfl⟩
  obtain ⟨n2, hn2⟩ : ∃ n, (dg z2).length = n := ⟨_, rfl⟩
  have HN1 := zH hn1
  have HN2 := zH hn2
  rw [hn1] at hl1 HR1
  rw [hn2] at HW1 HR2 hc2 hl2
  rw [hs1] at hs0
  rw [hs1, hs2, hA, hn1, hn2]
  have hq0 : (s1 == 0) = false := by simpa using hs0
  have HS1 := zH hs1
  clear hr1 hr2 hA hs1 hs2 hn1 hn2 hmb hs0 hc1
  go_enter Tryz.func170, Tryz.ntmps170
  go_upto_region 1 with (fail)
  obtain ⟨w3, hw3⟩ : ∃ w3, ((w.alloc (.cells #[.int .i64 s1, .slice a1 n1 c1] 63)).alloc (.cells #[.int .i64 s2, .slice a2 n2 c2] 63)).alloc (.cells #[.int .i64 0, .slice none 0 0] 63) = w3 := ⟨_, rfl⟩
  rw [hw3]
  have K0 : Hid (Blk w3 w.heap.size #[.int .i64 s1, .slice a1 n1 c1]) := by subst hw3; exact zH (((Blk.new _ _ _).alloc _).alloc _)
  have K1 : Hid (Blk w3 (w.heap.size + 1) #[.int .i64 s2, .slice a2 n2 c2]) := by subst hw3; exact zH ((Blk.newAt _ _ _ (by simp)).alloc _)
  have K2 : Hid (Blk w3 (w.heap.size + 2) #[.int .i64 0, .slice none 0 0]) := by subst hw3; exact zH (Blk.newAt _ _ _ (by simp))
  have HB : Hid (Below w.heap.size w w3) := by subst hw3; exact zH (bAlloc (bAlloc (bAlloc (bSelf w) _) _) _)
  clear hw3
  obtain ⟨-, k0, -⟩ := K0.out
  have hmk := make_ints n1 (by omega)
  go_upto_region 4 with (fail)
  obtain ⟨w4, hw4⟩ : ∃ w4, (w3.alloc (.cells (madeCells #[.int .i64 0] n1) 3)).alloc (.cells #[] 3) = w4 := ⟨_, rfl⟩
  rw [hw4]
  have HMI : Hid (MulI w w4 #[.int .i64 s1, .slice a1 n1 c1] #[.int .i64 s2, .slice a2 n2 c2] w3.heap.size (List.replicate n1 0)) := by
    subst hw4
    exact zH ⟨(K0.out.alloc _).alloc _, (K1.out.alloc _).alloc _, (K2.out.alloc _).alloc _, (OutB.new w3 n1).to ((Below.refl _ _).alloc (Nat.le_refl _) _), bAlloc (bAlloc HB.out _) _⟩
  have hBO : w.heap.size + 3 ≤ w3.heap.size := K2.out.1
  have hw43 : w3.heap.size + 1 < w4.heap.size := by subst hw4; simp
  obtain ⟨BO, hBOe⟩ : ∃ b, w3.heap.size = b := ⟨_, rfl⟩
  rw [hBOe] at HMI hBO hw43 ⊢
  clear hw4 hBOe K0 K1 K2 HB k0 hmk
  obtain ⟨-, k0, -⟩ := HMI.out.k0
  go_wp2_with fail
  clear k0
  go_loopw [6, 7] (fun lv iv wr => ∃ (j L : Nat) (al : Option Addr) (nl cl : Nat) (qs : List Int), iv = .int .i64 ((j : Int) - 1) ∧ j ≤ n1 ∧ lv = .slice al nl cl ∧ Hid (nl = (digs L).length) ∧ nl ≤ cl ∧ Hid (qs.length = n1) ∧ Hid (Dig qs) ∧ Hid ((L : Int) < z2) ∧ Hid (val (A.drop j) = val (qs.drop j) * z2 + L) ∧
      Hid (Reads wr al nl (ints (digs L))) ∧ Hid (nl ≠ 0 → ∀ p, al = some p → BO < p.block) ∧ Hid (MulI w wr #[.int .i64 s1, .slice a1 n1 c1] #[.int .i64 s2, .slice a2 n2 c2] BO qs)) (fun _ iv _ => (intOf iv + 1).toNat)
  case atStart => exact ⟨n1, 0, _, 0, 0, List.replicate n1 0, rfl, Nat.le_refl _, rfl, zH (by rw [digs_zero]; rfl), Nat.le_refl _, zH (by simp), zH (Dig.rep n1), zH (by omega), zH (by rw [List.drop_of_length_le (by rw [HN1.out]; omega), List.drop_of_length_le (by simp)]; simp [val]), zH (.inl rfl), zH (fun h => absurd rfl h), HMI⟩
  case round =>
    obtain ⟨j, L, al, nl, cl, qs, rfl, hj, rfl, hnl, hcl, hql, hqd, hLz, hinv, hrl, hloc, hmi⟩ := hrel
    by_cases hj0 : j = 0
    · have hv : (j : Int) - 1 = -1 := by omega
      subst hj0
      have hinv0 := hinv.out
      rw [List.drop_zero, List.drop_zero, HVA.out] at hinv0
      have hqn := val_nonneg hqd.out
      have HWQ : Hid (∀ W, OutB W BO qs → Calls Tryz.prog 127 #[.int .i64 s1, .slice (some ⟨BO, 0, none⟩) n1 n1] W fun e w1 => WAt (some ⟨BO, 0, none⟩) (s1 * val qs) W e w1) := zH (fun W h => by
        have := wideOf_any s1 qs (some ⟨BO, 0, none⟩) qs.length W hqd.out (by
          rw [← HS1.out]
          rcases Int.lt_or_lt_of_ne hz1 with h | h
          · rw [Int.sign_eq_neg_one_of_neg h]; exact .inr (.inl rfl)
          · rw [Int.sign_eq_one_of_pos h]; exact .inl rfl) (by rw [hql.out]; omega) (Nat.le_refl _) h.reads
        rw [hql.out] at this
        exact this)
      have HZ := zH hinv0
      have HQN := zH hqn
      clear hinv0 hqn
      rw [hv]
      obtain ⟨-, k0, -⟩ := hmi.out.k0
      go_wp2_with fail
      refine (HWQ.out _ hmi.out.out).mono ?_
      rintro e w5 ⟨v5, rfl, hv5, hb⟩
      have HM5 := zH (hmi.out.to hb)
      have HV5 := zH hv5
      obtain ⟨c5, rfl, -, -⟩ := hv5
      clear hb k0
      obtain ⟨zq, hzq⟩ : ∃ q, s1 * val qs = q := ⟨_, rfl⟩
      rw [hzq] at HV5 ⊢
      have HZQ := zH hzq
      clear hzq
      have HCASE : Hid (((decide (s1 < 0) && decide (0 < (nl : Int))) = false ∧ zq = z1 / z2) ∨ (decide (s1 < 0) = true ∧ decide (0 < (nl : Int)) = true ∧ zq - 1 = z1 / z2)) := zH (by
        have hL0 : nl = 0 ↔ L = 0 := by
          rw [hnl.out]
          constructor
          · intro h; exact digs_nil (List.length_eq_zero_iff.1 h)
          · intro h; rw [h, digs_zero]; rfl
        rcases Int.lt_or_lt_of_ne hz1 with h | h
        · have e1 : s1 = -1 := by rw [← HS1.out]; exact Int.sign_eq_neg_one_of_neg h
          have e2 : z1 = -(val qs * z2 + (L : Int)) := by have := HZ.out; omega
          by_cases hl : nl = 0
          · have : L = 0 := hL0.1 hl
            refine .inl ⟨by rw [hl]; simp, ?_⟩
            rw [← HZQ.out, e1, e2, this]
            have := floor_neg0 (q := val qs) hz2
            simp only [Int.ofNat_zero, Int.add_zero, Int.neg_mul, Int.one_mul] at this ⊢
            exact this.symm
          · have : L ≠ 0 := fun h => hl (hL0.2 h)
            refine .inr ⟨decide_eq_true (by omega), decide_eq_true (by omega), ?_⟩
            rw [← HZQ.out, e1, e2, floor_neg (by omega) hLz.out]
            omega
        · have e1 : s1 = 1 := by rw [← HS1.out]; exact Int.sign_eq_one_of_pos h
          have e2 : z1 = val qs * z2 + (L : Int) := by have := HZ.out; omega
          refine .inl ⟨by rw [e1]; rfl, ?_⟩
          rw [← HZQ.out, e1, e2, floor_pos (by omega) hLz.out]
          omega)
      obtain ⟨sq, hsq⟩ : ∃ s, zq.sign = s := ⟨_, rfl⟩
      obtain ⟨Dq, hDq⟩ : ∃ n, (dg zq).length = n := ⟨_, rfl⟩
      have HSQ := zH hsq
      have HDQ := zH hDq
      rw [hsq, hDq]
      clear hsq hDq
      have hBO5 : w.heap.size + 3 ≤ w5.heap.size := by have := HM5.out.out.1; omega
      have hBO7 : BO < w5.heap.size := HM5.out.out.1
      go_upto_region 17 with (fail)
      obtain ⟨w6, hw6⟩ : ∃ w6, w5.alloc (.cells #[.int .i64 sq, .slice (some ⟨BO, 0, none⟩) Dq c5] 63) = w6 := ⟨_, rfl⟩
      rw [hw6]
      have K11 : Hid (Blk w6 w5.heap.size #[.int .i64 sq, .slice (some ⟨BO, 0, none⟩) Dq c5]) := by subst hw6; exact zH (Blk.new _ _ _)
      have hb6 : Below w5.heap.size w5 w6 := by subst hw6; exact bAlloc (bSelf _) _
      replace HM5 := zH (HM5.out.to hb6)
      replace HV5 := zH (HV5.out.to hb6)
      clear hw6 hb6
      obtain ⟨B11, hB11⟩ : ∃ b, w5.heap.size = b := ⟨_, rfl⟩
      rw [hB11] at K11 hBO5 hBO7 ⊢
      clear hB11
      obtain ⟨-, k0, -⟩ := HM5.out.k0
      rcases HCASE.out with ⟨hcs, hqz⟩ | ⟨hc1', hc2', hqz⟩
      · have HP : Hid (∀ (w' : World) (e : Ending), w' = (w6.setCell ⟨w.heap.size + 1 + 1, 0, none⟩ (.int .i64 sq)).setCell ⟨w.heap.size + 1 + 1, 1, none⟩ (.slice (some ⟨BO, 0, none⟩) Dq c5) → e = .returned (.agg #[.int .i64 sq, .slice (some ⟨BO, 0, none⟩) Dq c5]) → WPost [] (z1 / z2) w e w') := zH (fun w' e hw he => by
          subst hw
          rw [← hqz]
          refine ⟨some ⟨BO, 0, none⟩, _, he, ?_, ?_, fun P hf _ _ p hp => hf _ (by cases hp; dsimp only; omega)⟩
          · have h := HV5.out.set2 (b := w.heap.size + 1 + 1) (fun p hp => by cases hp; dsimp only; omega) (.int .i64 sq) (.slice (some ⟨BO, 0, none⟩) Dq c5)
            rw [HSQ.out, HDQ.out] at h
            exact h
          · exact (HM5.out.below.setCell (p := ⟨w.heap.size + 1 + 1, 0, none⟩) (by dsimp only; omega) _).setCell (p := ⟨w.heap.size + 1 + 1, 1, none⟩) (by dsimp only; omega) _)
        have K2 : Hid (Blk w6 (w.heap.size + 1 + 1) #[.int .i64 0, .slice none 0 0]) := zH HM5.out.k2
        obtain ⟨-, k11, -⟩ := K11.out
        obtain ⟨h2, k2, f2⟩ := K2.out
        by_cases hsn : s1 < 0
        · have hd1 : decide (s1 < 0) = true := decide_eq_true hsn
          have hd2 : decide ((0 : Int) < (nl : Int)) = false := by rw [hd1, Bool.true_and] at hcs; exact hcs
          have hd3 : ¬ (0 : Int) < (nl : Int) := of_decide_eq_false hd2
          go_wp2_with fail
          clear k11 k2 f2
          have F := ((K2.out.set 0 (.int .i64 sq)).set 1 (.slice (some ⟨BO, 0, none⟩) Dq c5)).2.1
          have F0 := F 0; have F1 := F 1
          clear F
          refine bodyPost_ret (v := .agg #[.int .i64 sq, .slice (some ⟨BO, 0, none⟩) Dq c5]) ?_ rfl (HP.out _ _ rfl rfl)
          simp [results, Tryz.results170, go_sem, F0, F1]
        · have hd1 : decide (s1 < 0) = false := decide_eq_false hsn
          go_wp2_with fail
          clear k11 k2 f2
          have F := ((K2.out.set 0 (.int .i64 sq)).set 1 (.slice (some ⟨BO, 0, none⟩) Dq c5)).2.1
          have F0 := F 0; have F1 := F 1
          clear F
          refine bodyPost_ret (v := .agg #[.int .i64 sq, .slice (some ⟨BO, 0, none⟩) Dq c5]) ?_ rfl (HP.out _ _ rfl rfl)
          simp [results, Tryz.results170, go_sem, F0, F1]
      · have hs1n : s1 < 0 := of_decide_eq_true hc1'
        have hnlp : (0 : Int) < (nl : Int) := of_decide_eq_true hc2'
        have hDq4 : (dg zq).length ≤ 150 := by
          have e1 : zq.natAbs = (val qs).natAbs := by
            rw [← HZQ.out, Int.natAbs_mul, ← HS1.out, Int.natAbs_sign_of_ne_zero hz1, Nat.one_mul]
          unfold dg
          rw [e1]
          have h1 := val_lt hqd.out
          rw [hql.out] at h1
          have h2 : (val qs).natAbs < 1000000000 ^ n1 := by
            have e : ((1000000000 ^ n1 : Nat) : Int) = 1000000000 ^ n1 := by simp
            rw [← e] at h1
            have := HQN.out
            omega
          have := digs_len n1 _ h2
          omega
        have HV6 := HV5
        rw [HSQ.out, HDQ.out] at HV6
        have HSB : Hid (∀ W bA vA, RW W (some ⟨BO, 0, none⟩) (.agg #[.int .i64 sq, .slice (some ⟨BO, 0, none⟩) Dq c5]) zq → RW W bA vA 1 → Calls Tryz.prog 126 #[.agg #[.int .i64 sq, .slice (some ⟨BO, 0, none⟩) Dq c5], vA] W fun e w1 => WPost [(some ⟨BO, 0, none⟩, zq), (bA, 1)] (zq - 1) W e w1) := zH (fun W bA vA h1 h2 =>
          WideSub_any zq 1 _ bA _ vA W h1 h2 (by omega) (by have := digs_len 1 (1 : Int).natAbs (by decide); unfold dg; omega))
        have hB116 : B11 < w6.heap.size := K11.out.1
        have hBO6 : BO < w6.heap.size := HM5.out.out.1
        clear hDq4
        go_upto_region 18 with (fail)
        clear k0
        refine wp_region_treeN w.heap.size (by kernel_rfl) (fun wd hwd => ?_)
        have T := zH hwd
        clear hwd
        refine WT_two 0 1 rfl rfl (by kernel_rfl) ?_ ?_
        · skip
          unfold stepT
          obtain ⟨-, k11, -⟩ := K11.out.to T.out
          go_wp2_with fail
          refine ⟨Below.refl _ _, ?_⟩
          clear k11
          refine WT_one 1 rfl (by kernel_rfl) ?_
          unfold stepT
          go_wp2_with fail
          refine (WideOf_any 1 _ (by omega) (by omega)).mono ?_
          rintro e wA ⟨bA, vA, rfl, hvA, hb, hlA⟩
          have HVA1 := zH hvA
          have hszA : w6.heap.size ≤ wd.heap.size := T.out.size
          have HLA := zH (hlA (fun b => B11 < b) (fun b hb => show B11 < b by omega) (fun i hi => by cases hi))
          have hbd := zH (hb.mono (show w.heap.size ≤ wd.heap.size by omega))
          replace T := zH (bThen T.out hb)
          clear hb hvA hlA
          go_wp2_with fail
          refine ⟨hbd.out, ?_⟩
          clear hbd
          refine WT_one 2 rfl (by kernel_rfl) ?_
          unfold stepT
          go_wp2_with fail
          refine (HSB.out wA bA vA (HV6.out.to T.out) HVA1.out).mono ?_
          rintro e wB ⟨bB, vB, rfl, hvB, hb, hlB⟩
          have hsz6 : w6.heap.size ≤ wA.heap.size := T.out.size
          have HLB := zH (hlB (fun b => B11 < b ∨ b = BO) (fun b hb => show B11 < b ∨ b = BO by omega) (fun i hi => by
            simp only [List.mem_cons, List.not_mem_nil, or_false] at hi
            rcases hi with rfl | rfl
            · exact fun _ p hp => by cases hp; exact .inr rfl
            · exact fun hn p hp => .inl (HLA.out hn p hp)))
          have hbd := zH (hb.mono (show w.heap.size ≤ wA.heap.size by omega))
          replace T := zH (bThen T.out hb)
          have HVB := zH hvB
          obtain ⟨cB, rfl, -, -⟩ := hvB
          clear hb hlB
          have HMB := zH (HM5.out.to T.out)
          replace K11 := zH (K11.out.to T.out)
          have HP : Hid (∀ (w' : World) (e : Ending), w' = (((wB.setCell ⟨B11, 0, none⟩ (.int .i64 (zq - 1).sign)).setCell ⟨B11, 1, none⟩ (.slice bB (dg (zq - 1)).length cB)).setCell ⟨w.heap.size + 1 + 1, 0, none⟩ (.int .i64 (zq - 1).sign)).setCell ⟨w.heap.size + 1 + 1, 1, none⟩ (.slice bB (dg (zq - 1)).length cB) → e = .returned (.agg #[.int .i64 (zq - 1).sign, .slice bB (dg (zq - 1)).length cB]) → WPost [] (z1 / z2) w e w') := zH (fun w' e hw he => by
            subst hw
            rw [← hqz]
            refine ⟨bB, _, he, (HVB.out.set2' (fun hn p hp => show p.block ≠ B11 by have h : B11 < p.block ∨ p.block = BO := HLB.out hn p hp; omega) _ _).set2' (fun hn p hp => show p.block ≠ w.heap.size + 1 + 1 by have h : B11 < p.block ∨ p.block = BO := HLB.out hn p hp; omega) _ _, ?_, fun P hf _ hn p hp => hf _ (by have h : B11 < p.block ∨ p.block = BO := HLB.out hn p hp; omega)⟩
            exact (((HMB.out.below.setCell (p := ⟨B11, 0, none⟩) (by dsimp only; omega) _).setCell (p := ⟨B11, 1, none⟩) (by dsimp only; omega) _).setCell (p := ⟨w.heap.size + 1 + 1, 0, none⟩) (by dsimp only; omega) _).setCell (p := ⟨w.heap.size + 1 + 1, 1, none⟩) (by dsimp only; omega) _)
          clear HVB HLB
          obtain ⟨sg, hsg⟩ : ∃ s, (zq - 1).sign = s := ⟨_, rfl⟩
          obtain ⟨D, hD⟩ : ∃ n, (dg (zq - 1)).length = n := ⟨_, rfl⟩
          rw [hsg, hD] at HP ⊢
          clear hsg hD
          go_wp2_with fail
          refine ⟨hbd.out, ?_⟩
          clear hbd
          refine WT_one 3 rfl (by kernel_rfl) ?_
          unfold stepT
          obtain ⟨hk11, k11, f11⟩ := K11.out
          go_wp2_with fail
          clear k11 f11
          obtain ⟨wE, hwE⟩ : ∃ wE, (wB.setCell ⟨B11, 0, none⟩ (.int .i64 sg)).setCell ⟨B11, 1, none⟩ (.slice bB D cB) = wE := ⟨_, rfl⟩
          rw [hwE]
          have hbE : Below w.heap.size wB wE := by subst hwE; exact ((Below.refl _ _).setCell (p := ⟨B11, 0, none⟩) (by dsimp only; omega) _).setCell (p := ⟨B11, 1, none⟩) (by dsimp only; omega) _
          have K11E : Hid (Blk wE B11 #[.int .i64 sg, .slice bB D cB]) := by subst hwE; exact zH ((K11.out.set 0 _).set 1 _)
          have K2E : Hid (Blk wE (w.heap.size + 1 + 1) #[.int .i64 0, .slice none 0 0]) := by subst hwE; exact zH ((HMB.out.k2.other (p := ⟨B11, 0, none⟩) (by dsimp only; omega) _).other (p := ⟨B11, 1, none⟩) (by dsimp only; omega) _)
          rw [hwE] at HP
          clear hwE
          refine ⟨hbE, ?_⟩
          refine WT_done (by kernel_rfl) ?_
          obtain ⟨-, k11, -⟩ := K11E.out
          obtain ⟨h2, k2, f2⟩ := K2E.out
          go_wp2_with fail
          clear k11 k2 f2
          have FF := ((K2E.out.set 0 (.int .i64 sg)).set 1 (.slice bB D cB)).2.1
          have F0 := FF 0; have F1 := FF 1
          clear FF
          refine bodyPost_ret (v := .agg #[.int .i64 sg, .slice bB D cB]) ?_ rfl (HP.out _ _ rfl rfl)
          simp [results, Tryz.results170, go_sem, F0, F1]
        · skip
          unfold stepT
          go_wp2_with fail
          refine (WideOf_any 1 _ (by omega) (by omega)).mono ?_
          rintro e wA ⟨bA, vA, rfl, hvA, hb, hlA⟩
          have HVA1 := zH hvA
          have hszA : w6.heap.size ≤ wd.heap.size := T.out.size
          have HLA := zH (hlA (fun b => B11 < b) (fun b hb => show B11 < b by omega) (fun i hi => by cases hi))
          have hbd := zH (hb.mono (show w.heap.size ≤ wd.heap.size by omega))
          replace T := zH (bThen T.out hb)
          clear hb hvA hlA
          go_wp2_with fail
          refine ⟨hbd.out, ?_⟩
          clear hbd
          refine WT_one 0 rfl (by kernel_rfl) ?_
          unfold stepT
          obtain ⟨-, k11, -⟩ := K11.out.to T.out
          go_wp2_with fail
          refine ⟨Below.refl _ _, ?_⟩
          clear k11
          refine WT_one 2 rfl (by kernel_rfl) ?_
          unfold stepT
          go_wp2_with fail
          refine (HSB.out wA bA vA (HV6.out.to T.out) HVA1.out).mono ?_
          rintro e wB ⟨bB, vB, rfl, hvB, hb, hlB⟩
          have hsz6 : w6.heap.size ≤ wA.heap.size := T.out.size
          have HLB := zH (hlB (fun b => B11 < b ∨ b = BO) (fun b hb => show B11 < b ∨ b = BO by omega) (fun i hi => by
            simp only [List.mem_cons, List.not_mem_nil, or_false] at hi
            rcases hi with rfl | rfl
            · exact fun _ p hp => by cases hp; exact .inr rfl
            · exact fun hn p hp => .inl (HLA.out hn p hp)))
          have hbd := zH (hb.mono (show w.heap.size ≤ wA.heap.size by omega))
          replace T := zH (bThen T.out hb)
          have HVB := zH hvB
          obtain ⟨cB, rfl, -, -⟩ := hvB
          clear hb hlB
          have HMB := zH (HM5.out.to T.out)
          replace K11 := zH (K11.out.to T.out)
          have HP : Hid (∀ (w' : World) (e : Ending), w' = (((wB.setCell ⟨B11, 0, none⟩ (.int .i64 (zq - 1).sign)).setCell ⟨B11, 1, none⟩ (.slice bB (dg (zq - 1)).length cB)).setCell ⟨w.heap.size + 1 + 1, 0, none⟩ (.int .i64 (zq - 1).sign)).setCell ⟨w.heap.size + 1 + 1, 1, none⟩ (.slice bB (dg (zq - 1)).length cB) → e = .returned (.agg #[.int .i64 (zq - 1).sign, .slice bB (dg (zq - 1)).length cB]) → WPost [] (z1 / z2) w e w') := zH (fun w' e hw he => by
            subst hw
            rw [← hqz]
            refine ⟨bB, _, he, (HVB.out.set2' (fun hn p hp => show p.block ≠ B11 by have h : B11 < p.block ∨ p.block = BO := HLB.out hn p hp; omega) _ _).set2' (fun hn p hp => show p.block ≠ w.heap.size + 1 + 1 by have h : B11 < p.block ∨ p.block = BO := HLB.out hn p hp; omega) _ _, ?_, fun P hf _ hn p hp => hf _ (by have h : B11 < p.block ∨ p.block = BO := HLB.out hn p hp; omega)⟩
            exact (((HMB.out.below.setCell (p := ⟨B11, 0, none⟩) (by dsimp only; omega) _).setCell (p := ⟨B11, 1, none⟩) (by dsimp only; omega) _).setCell (p := ⟨w.heap.size + 1 + 1, 0, none⟩) (by dsimp only; omega) _).setCell (p := ⟨w.heap.size + 1 + 1, 1, none⟩) (by dsimp only; omega) _)
          clear HVB HLB
          obtain ⟨sg, hsg⟩ : ∃ s, (zq - 1).sign = s := ⟨_, rfl⟩
          obtain ⟨D, hD⟩ : ∃ n, (dg (zq - 1)).length = n := ⟨_, rfl⟩
          rw [hsg, hD] at HP ⊢
          clear hsg hD
          go_wp2_with fail
          refine ⟨hbd.out, ?_⟩
          clear hbd
          refine WT_one 3 rfl (by kernel_rfl) ?_
          unfold stepT
          obtain ⟨hk11, k11, f11⟩ := K11.out
          go_wp2_with fail
          clear k11 f11
          obtain ⟨wE, hwE⟩ : ∃ wE, (wB.setCell ⟨B11, 0, none⟩ (.int .i64 sg)).setCell ⟨B11, 1, none⟩ (.slice bB D cB) = wE := ⟨_, rfl⟩
          rw [hwE]
          have hbE : Below w.heap.size wB wE := by subst hwE; exact ((Below.refl _ _).setCell (p := ⟨B11, 0, none⟩) (by dsimp only; omega) _).setCell (p := ⟨B11, 1, none⟩) (by dsimp only; omega) _
          have K11E : Hid (Blk wE B11 #[.int .i64 sg, .slice bB D cB]) := by subst hwE; exact zH ((K11.out.set 0 _).set 1 _)
          have K2E : Hid (Blk wE (w.heap.size + 1 + 1) #[.int .i64 0, .slice none 0 0]) := by subst hwE; exact zH ((HMB.out.k2.other (p := ⟨B11, 0, none⟩) (by dsimp only; omega) _).other (p := ⟨B11, 1, none⟩) (by dsimp only; omega) _)
          rw [hwE] at HP
          clear hwE
          refine ⟨hbE, ?_⟩
          refine WT_done (by kernel_rfl) ?_
          obtain ⟨-, k11, -⟩ := K11E.out
          obtain ⟨h2, k2, f2⟩ := K2E.out
          go_wp2_with fail
          clear k11 k2 f2
          have FF := ((K2E.out.set 0 (.int .i64 sg)).set 1 (.slice bB D cB)).2.1
          have F0 := FF 0; have F1 := FF 1
          clear FF
          refine bodyPost_ret (v := .agg #[.int .i64 sg, .slice bB D cB]) ?_ rfl (HP.out _ _ rfl rfl)
          simp [results, Tryz.results170, go_sem, F0, F1]
    · obtain ⟨k, hk⟩ : ∃ k, j = k + 1 := ⟨j - 1, by omega⟩
      have hv : (j : Int) - 1 = (k : Int) := by omega
      obtain ⟨b1, o1, rfl, hb1', hc1'⟩ := HR1.out.at (k := k) (by omega)
      have ca : Hid (w.cell? ⟨b1, o1 + k, none⟩ = some (.int .i64 (gi A k))) := zH (hc1' k (by omega))
      have hx := HD1.out.at k
      have hkn : k < n1 := by omega
      have HST := zH (fun d => floor_step (A := A) (qs := qs) (k := k) (N := z2) (L := L) (d := d) (by rw [HN1.out]; exact hkn) (by rw [hql.out]; exact hkn) (by rw [← hk]; exact hinv.out))
      obtain ⟨x, hxe⟩ : ∃ x, gi A k = x := ⟨_, rfl⟩
      rw [hxe] at ca hx HST
      obtain ⟨x0, x1⟩ := hx
      have HK := zH hk
      clear hc1' hxe hk hj0 hinv
      obtain ⟨-, k0, -⟩ := hmi.out.k0
      have kx := (hmi.out.below.cell (p := ⟨b1, o1 + k, none⟩) hb1').trans ca.out
      have hnl2 : nl ≤ 160 := by
        have h1 := hnl.out
        have h2 := digs_mono (m := L) (n := z2.natAbs) (by have := hLz.out; omega)
        have h3 : (digs z2.natAbs).length ≤ 150 := by
          have := HN2.out
          unfold dg at this
          omega
        omega
      obtain ⟨M, hM⟩ : ∃ M : Nat, x.toNat + 1000000000 * L = M := ⟨_, rfl⟩
      have HM := zH (show (M : Int) = x + 1000000000 * L by omega)
      have hXl : (x :: digs L).length = 1 + nl := by rw [List.length_cons, hnl.out]; omega
      have HTR : Hid (∀ W a' cap', 1 + nl ≤ cap' → Reads W a' (1 + nl) (ints (x :: digs L)) → Calls Tryz.prog 154 #[.slice a' (1 + nl) cap'] W fun e w' => e = .returned (.slice a' (digs M).length cap') ∧ Below W.heap.size W w') := zH (fun W a' cap' hc hr => by
        have := trimmed_any (x :: digs L) a' cap' W (Dig.cons x0 x1 (digs_dig L)) (by rw [hXl]; omega) (by rw [hXl]; exact hc) (by rw [hXl]; exact hr)
        rw [digs_cons x L x0 x1, hM, hXl] at this
        exact this)
      have HTK : Hid (∀ W a', Reads W a' (1 + nl) (ints (x :: digs L)) → Reads W a' (digs M).length (ints (digs M))) := zH (fun W a' h => by
        obtain ⟨m, hm⟩ := trim_ex (l := x :: digs L) (Dig.cons x0 x1 (digs_dig L)) (n := M) (by show x + 1000000000 * val (digs L) = _; rw [val_digs]; omega)
        rw [hm]
        exact Reads.takeW (by rw [hXl]; exact h) m)
      have hMl : (digs M).length ≤ 1 + nl := by
        obtain ⟨m, hm⟩ := trim_ex (l := x :: digs L) (Dig.cons x0 x1 (digs_dig L)) (n := M) (by show x + 1000000000 * val (digs L) = _; rw [val_digs]; omega)
        rw [hm, List.length_take, hXl]; omega
      have HXL := zH hXl
      have hBOr : BO < wr.heap.size := hmi.out.out.1
      obtain ⟨ml, hml⟩ : ∃ ml, (digs M).length = ml := ⟨_, rfl⟩
      rw [hml] at HTR HTK hMl
      have HML := zH hml
      clear hXl hM hml
      rw [hv]
      go_upto_region 7 with (fail)
      go_cut [6] (fun s6 wc => ∃ al' cl', s6 = .slice al' ml cl' ∧ ml ≤ cl' ∧ Hid (Reads wc al' ml (ints (digs M))) ∧ Hid (∀ p, al' = some p → BO < p.block) ∧ Hid (Below wr.heap.size wr wc))
      case first =>
        cases al with
        | none =>
          have hn0 : nl = 0 := by
            rcases hrl.out with h | ⟨b, off, e, -⟩
            · exact h
            · cases e
          subst hn0
          have hd0 : digs L = [] := List.length_eq_zero_iff.1 hnl.out.symm
          have HRX : Hid (∀ W, Reads (World.alloc W (.cells #[.int .i64 x] 3)) (some ⟨W.heap.size, 0, none⟩) (1 + 0) (ints (x :: digs L))) := zH (fun W => by
            rw [hd0]
            exact Reads.fresh W #[.int .i64 x] 3 _ W.heap.size 1 rfl (fun i hi => by
              obtain rfl : i = 0 := by omega
              rfl))
          clear hd0
          go_wp2_with fail
          refine (HTR.out _ _ 1 (by omega) (HRX.out _)).mono ?_
          rintro e w2 ⟨rfl, hb⟩
          have HRD := zH (HTK.out _ _ ((HRX.out wr).to hb))
          have HBB := zH (bThen (bAlloc (bSelf wr) (.cells #[.int .i64 x] 3)) hb)
          clear hb
          go_wp2_with fail
          go_meet
          case rel => exact ⟨_, _, rfl, by omega, HRD, zH (fun p hp => by cases hp; exact hBOr), HBB⟩
        | some ad =>
          have HNW := zH (Reads.news' (zs := digs L) (by rw [← hnl.out]; exact hrl.out.alloc (.cells #[.int .i64 x] 3)))
          have hll : ((digs L).map fun z => Value.int .i64 z).length = nl := by rw [List.length_map, hnl.out]
          go_wp2_with (at_builtin; refine wpList_app wr.heap.size rtInt rfl (.tmp 34) (.tmp 35) rfl (.slice (some ⟨wr.heap.size, 0, none⟩) 1 1) 1 [.int .i64 x] rfl (World.ownsRow_lit wr #[.int .i64 x] 1 (Nat.le_refl _) (by decide) rfl) ad nl cl ((digs L).map fun z => Value.int .i64 z) rfl (by rw [Nat.mul_one]; exact hll) HNW.out (ones _) (by unfold maxLen; omega) (by omega) (by first | omega | (simp; omega) | simp) ?_; intro v' w2 hown' hgrow _ _; have HBB : Hid (Below wr.heap.size wr w2) := zH ((bAlloc (bSelf wr) _).grown hgrow (by simp) (fun k e => by cases e; exact Nat.le_refl _)); obtain ⟨a', cap', rfl, hcp, hrd, hfr⟩ := Reads.of_owns' (zs := x :: digs L) (by rw [HXL.out]; exact hown'); rw [HXL.out] at hcp hrd ⊢; have HRD := zH hrd; have HFR := zH hfr; clear hown' hgrow hrd hfr)
          refine (HTR.out _ a' cap' hcp HRD.out).mono ?_
          rintro e w5 ⟨rfl, hb⟩
          have HRD2 := zH (HTK.out _ _ (HRD.out.to hb))
          have HBB2 := zH (bThen HBB.out hb)
          clear hb
          go_wp2_with fail
          go_meet
          case rel => exact ⟨_, _, rfl, by omega, HRD2, zH (fun p hp => Nat.lt_of_lt_of_le hBOr (HFR.out p hp)), HBB2⟩
      case rest =>
        obtain ⟨al', cl', rfl, hml', hrd', hloc', hbw⟩ := hcut
        replace hmi := zH (hmi.out.to hbw.out)
        have hLm : (M : Int) < z2 * 1000000000 := by have := HM.out; have := hLz.out; omega
        have HSR := zH (Srch.start (N := z2) (L := M) (x := x) (R := L) x0 x1 (by omega) hLz.out HM.out)
        have hm4 : ml ≤ 400 := by omega
        clear hbw hrl hloc kx k0 HTR HTK HXL hMl hBOr hnl2 hcl
        obtain ⟨wb, hwb⟩ : ∃ wb, wb = wc := ⟨_, rfl⟩
        subst hwb
        go_wp2_with fail
        go_loopw [8, 9] (fun lv hv wr => ∃ lo hi : Int, lv = .int .i64 lo ∧ hv = .int .i64 hi ∧ 0 ≤ lo ∧ lo ≤ hi ∧ hi ≤ 999999999 ∧ Hid (Srch z2 M lo hi) ∧ Hid (Below wb.heap.size wb wr)) (fun lv hv _ => (intOf hv - intOf lv).toNat)
        case atStart => exact ⟨0, 999999999, rfl, rfl, by omega, by omega, by omega, HSR, zH (bSelf _)⟩
        case round =>
          obtain ⟨lo, hi, rfl, rfl, l0, lh, hb9, hsr, hbel⟩ := hrel
          have hmi2 := zH (hmi.out.to hbel.out)
          have hrd2 := zH (hrd'.out.to hbel.out)
          by_cases hlh : lo < hi
          · have hlhI : decide (lo < hi) = true := decide_eq_true hlh
            obtain ⟨m, hm⟩ : ∃ m, (lo + hi + 1) / 2 = m := ⟨_, rfl⟩
            have hm' : (lo + hi + 1).tdiv 2 = m := by rw [Int.tdiv_eq_ediv_of_nonneg (by omega)]; exact hm
            have hmb : lo < m ∧ m ≤ hi := by omega
            obtain ⟨hm1, hm2⟩ := hmb
            obtain ⟨-, k1, -⟩ := hmi2.out.k1
            have HQ0 := zH hmi2.out.below
            have HRL := hrd2
            have HQB := hbel
            have HSUP := zH (fun h => hsr.out.up hm1 hm2 h)
            have HSDN := zH (fun h => hsr.out.down hm1 h hm2)
            have hz0 : 0 ≤ z2 * m := Int.mul_nonneg (by omega) (by omega)
            have HCI : Hid (decide (cmpI (z2 * m).natAbs M ≤ 0) = decide (z2 * m ≤ M)) := zH (by
              unfold cmpI
              by_cases h : z2 * m ≤ M
              · rw [decide_eq_true h]
                split
                · rfl
                · rw [if_neg (by omega)]; rfl
              · rw [decide_eq_false h, if_neg (by omega), if_pos (by omega)]; rfl)
            clear hz0 hsr hbel
            go_wp2_with fail
            refine (HW1.out _ c2 hc2 (HR2.out.to HQ0.out)).mono ?_
            rintro e wA ⟨vA, rfl, hvA, hb⟩
            replace HRL := zH (HRL.out.to hb)
            replace HQB := zH (bThen HQB.out hb)
            have HVM := zH hvA
            clear hb hvA
            go_wp2_with fail
            refine (HWI.out m _ (by omega) (by omega)).mono ?_
            rintro e wB ⟨bB, vB, rfl, hvB, hb, -⟩
            replace HRL := zH (HRL.out.to hb)
            replace HQB := zH (bThen HQB.out hb)
            replace HVM := zH (HVM.out.to hb)
            have HVB := zH hvB
            clear hb hvB
            go_wp2_with fail
            refine (HWM.out _ vA vB bB m (by omega) (by omega) HVM.out HVB.out).mono ?_
            rintro e wC ⟨bM, vM, rfl, hvM, hb, -⟩
            replace HRL := zH (HRL.out.to hb)
            replace HQB := zH (bThen HQB.out hb)
            obtain ⟨cM, rfl, hcM, hrM⟩ := hvM
            have HRM := zH hrM
            clear hb hrM HVM HVB
            have HC := zH (fun W h1 h2 => HCP.out W bM al' cM cl' m M (by omega) (by omega) h1 h2)
            rw [HML.out] at HC
            obtain ⟨sM, hsM⟩ : ∃ s, (z2 * m).sign = s := ⟨_, rfl⟩
            obtain ⟨nM, hnM⟩ : ∃ n, (dg (z2 * m)).length = n := ⟨_, rfl⟩
            obtain ⟨cI, hcI⟩ : ∃ c, cmpI (z2 * m).natAbs M = c := ⟨_, rfl⟩
            rw [hnM] at HC HRM hcM
            rw [hcI] at HC HCI
            rw [hsM, hnM]
            have hfd : ∀ W, (Instr.field 63 (.agg #[.int .i64 sM, .slice bM nM cM]) 1).run Tryz.prog W = .ok (.slice bM nM cM) W := fun _ => by kernel_rfl
            clear hsM hnM hcI
            go_wp2_with fail
            refine (HC.out _ HRM.out HRL.out).mono ?_
            rintro e wD ⟨rfl, hb⟩
            replace HQB := zH (bThen HQB.out hb)
            clear hb hfd k1
            by_cases hle : z2 * m ≤ M
            · have hcI1 : decide (cI ≤ 0) = true := by rw [HCI.out]; exact decide_eq_true hle
              have hcI2 : cI ≤ 0 := of_decide_eq_true hcI1
              have HS2 := zH (HSUP.out hle)
              clear hle
              go_wp2_with fail
              go_roundw
              case rel => exact ⟨m, hi, rfl, rfl, by omega, hm2, hb9, HS2, HQB⟩
              case measure => simp [intOf]; omega
            · have hcI1 : decide (cI ≤ 0) = false := by rw [HCI.out]; exact decide_eq_false hle
              have hcI2 : ¬ cI ≤ 0 := of_decide_eq_false hcI1
              have HS2 := zH (HSDN.out (by omega))
              clear hle
              go_wp2_with fail
              go_roundw
              case rel => exact ⟨lo, m - 1, rfl, by go_num, l0, by omega, by omega, HS2, HQB⟩
              case measure => simp [intOf]; omega
          · have hlhI : decide (lo < hi) = false := decide_eq_false hlh
            obtain ⟨hf0, hf1⟩ := hsr.out.fin (by omega)
            have hlow := hsr.out.low
            have HNEW := zH (HST.out lo)
            have hkq : k < qs.length := by rw [hql.out]; exact hkn
            have ko : wr.cell? ⟨BO, k, none⟩ = some (.int .i64 (gi qs k)) := hmi2.out.out.2.1 k hkq
            obtain ⟨-, -, fo⟩ := hmi2.out.out
            have HKQ := zH hkq
            clear hkq hsr hbel
            go_upto_region 15 with (fail)
            clear ko fo
            obtain ⟨w6, hw6⟩ : ∃ w6, wr.setCell ⟨BO, k, none⟩ (.int .i64 lo) = w6 := ⟨_, rfl⟩
            rw [hw6]
            have hmi3 : Hid (MulI w w6 #[.int .i64 s1, .slice (some ⟨b1, o1, none⟩) n1 c1] #[.int .i64 s2, .slice a2 n2 c2] BO (qs.set k lo)) := by subst hw6; exact zH (hmi2.out.set hBO HKQ.out lo)
            have HRL : Hid (Reads w6 al' ml (ints (digs M))) := by subst hw6; exact zH (hrd2.out.other ⟨BO, k, none⟩ _ (fun b off e => by have := hloc'.out _ e; dsimp only at this ⊢; omega))
            clear hw6 hmi2 hrd2
            have HQ0 := zH hmi3.out.below
            have HQB := zH (bSelf w6)
            obtain ⟨-, k1, -⟩ := hmi3.out.k1
            go_wp2_with fail
            refine (HW1.out _ c2 hc2 (HR2.out.to HQ0.out)).mono ?_
            rintro e wA ⟨vA, rfl, hvA, hb⟩
            replace HRL := zH (HRL.out.to hb)
            replace HQB := zH (bThen HQB.out hb)
            have HVM := zH hvA
            clear hb hvA
            go_wp2_with fail
            refine (HWI.out lo _ (by omega) (by omega)).mono ?_
            rintro e wB ⟨bB, vB, rfl, hvB, hb, -⟩
            replace HRL := zH (HRL.out.to hb)
            replace HQB := zH (bThen HQB.out hb)
            replace HVM := zH (HVM.out.to hb)
            have HVB := zH hvB
            clear hb hvB
            go_wp2_with fail
            refine (HWM.out _ vA vB bB lo (by omega) (by omega) HVM.out HVB.out).mono ?_
            rintro e wC ⟨bM, vM, rfl, hvM, hb, -⟩
            replace HRL := zH (HRL.out.to hb)
            replace HQB := zH (bThen HQB.out hb)
            obtain ⟨cM, rfl, hcM, hrM⟩ := hvM
            have HRM := zH hrM
            clear hb hrM HVM HVB
            have HC := zH (fun W h1 h2 => HSU.out W bM al' cM cl' lo M (by omega) (by omega) (by omega) (by rw [HML.out]; omega) h1 h2)
            rw [HML.out] at HC
            obtain ⟨sM, hsM⟩ : ∃ s, (z2 * lo).sign = s := ⟨_, rfl⟩
            obtain ⟨nM, hnM⟩ : ∃ n, (dg (z2 * lo)).length = n := ⟨_, rfl⟩
            rw [hnM] at HC HRM hcM
            rw [hsM, hnM]
            have hfd : ∀ W, (Instr.field 63 (.agg #[.int .i64 sM, .slice bM nM cM]) 1).run Tryz.prog W = .ok (.slice bM nM cM) W := fun _ => by kernel_rfl
            clear hsM hnM
            go_wp2_with fail
            refine (HC.out _ HRM.out HRL.out).mono ?_
            rintro e w9 ⟨out, a9, c9, rfl, hP, hc9, hr9, hb, hfr9⟩
            have HR9 := zH hr9
            have HFR9 := zH hfr9
            have HP9 := zH hP
            have hsz9 := zH HQB.out.size
            have hBO6 : BO < w6.heap.size := hmi3.out.out.1
            replace hmi3 := zH (hmi3.out.to (bThen HQB.out hb))
            clear hb hfd k1 hr9 hfr9 hP
            go_wp2_with fail
            go_roundw
            case rel =>
              refine ⟨k, ((M : Int) - z2 * lo).toNat, a9, out.length, c9, qs.set k lo, by go_num, by omega, rfl, zH (by rw [HP9.out]), hc9, zH (by rw [List.length_set]; exact hql.out), zH (hqd.out.set k l0 (by omega)), zH (by omega), zH ?_, zH (by rw [← HP9.out]; exact HR9.out), zH (fun _ p hp => ?_), hmi3⟩
              · have e1 := HM.out
                have e2 : (((M : Int) - z2 * lo).toNat : Int) = x + 1000000000 * L - z2 * lo := by omega
                rw [e2]; exact HNEW.out
              · have h1 := HFR9.out p hp
                have h2 := hsz9.out
                omega
            case measure => simp [intOf]
end
end Go.Proofs.YtbpcapcgbnbknaaGreat
