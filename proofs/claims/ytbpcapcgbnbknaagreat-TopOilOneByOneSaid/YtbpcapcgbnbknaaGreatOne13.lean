/-
  Texts of this claim, in their build order: W11 W12.
-/
import Derived.Test.YtbpcapcgbnbknaaGreatOne12
import Derived.Test.YtbpcapcgbnbknaaGreatOne0

namespace Go.Proofs.YtbpcapcgbnbknaaGreat
section
open Go.RowKit

set_option maxHeartbeats 4000000 in
set_option maxRecDepth 100000 in
theorem WideMul_any (z1 z2 : Int) (a1 a2 : Option Addr) (v1 v2 : Value) (w : World) (h1 : RW w a1 v1 z1) (h2 : RW w a2 v2 z2) (hl1 : (dg z1).length ≤ 200) (hl2 : (dg z2).length ≤ 200) :
    Calls Tryz.prog 86 #[v1, v2] w fun e w1 => WPost [] (z1 * z2) w e w1 := by
  obtain ⟨c1, rfl, -, hr1⟩ := h1
  obtain ⟨c2, rfl, -, hr2⟩ := h2
  have HR1 := zH hr1
  have HR2 := zH hr2
  have HD1 := zH (dg_dig z1)
  have HD2 := zH (dg_dig z2)
  obtain ⟨sa1, sa2⟩ := sign_bd z1
  obtain ⟨sb1, sb2⟩ := sign_bd z2
  have hzz : (z1.sign * z2.sign) * (val (dg z1) * val (dg z2)) = z1 * z2 := by
    rw [val_dg, val_dg]
    have e1 := Int.sign_mul_natAbs z1
    have e2 := Int.sign_mul_natAbs z2
    calc (z1.sign * z2.sign) * ((z1.natAbs : Int) * (z2.natAbs : Int)) = (z1.sign * z1.natAbs) * (z2.sign * z2.natAbs) := by
          simp only [Int.mul_assoc, Int.mul_left_comm]
      _ = z1 * z2 := by rw [e1, e2]
  have hsg : z1.sign * z2.sign = 1 ∨ z1.sign * z2.sign = -1 ∨ val (dg z1) * val (dg z2) = 0 := by
    rcases Int.lt_trichotomy z1 0 with h | h | h
    · rcases Int.lt_trichotomy z2 0 with h' | h' | h'
      · rw [Int.sign_eq_neg_one_of_neg h, Int.sign_eq_neg_one_of_neg h']; exact .inl rfl
      · right; right; rw [h', val_dg, val_dg]; simp
      · rw [Int.sign_eq_neg_one_of_neg h, Int.sign_eq_one_of_pos h']; exact .inr (.inl rfl)
    · right; right; rw [h, val_dg, val_dg]; simp
    · rcases Int.lt_trichotomy z2 0 with h' | h' | h'
      · rw [Int.sign_eq_one_of_pos h, Int.sign_eq_neg_one_of_neg h']; exact .inr (.inl rfl)
      · right; right; rw [h', val_dg, val_dg]; simp
      · rw [Int.sign_eq_one_of_pos h, Int.sign_eq_one_of_pos h']; exact .inl rfl
  have hsb : -1 ≤ z1.sign * z2.sign ∧ z1.sign * z2.sign ≤ 1 := mul_bd (A := 1) (B := 1) sa1 sa2 sb1 sb2
  have HWF : Hid (∀ (out : List Int) (b : Nat) (W : World), Dig out → val out = val (dg z1) * val (dg z2) → out.length ≤ 401 → Reads W (some ⟨b, 0, none⟩) out.length (ints out) → Calls Tryz.prog 127 #[.int .i64 (z1.sign * z2.sign), .slice (some ⟨b, 0, none⟩) out.length out.length] W fun e w1 => WAt (some ⟨b, 0, none⟩) (z1 * z2) W e w1) := zH (fun out b W hd hv hl hr => by
    have := wideOf_any (z1.sign * z2.sign) out (some ⟨b, 0, none⟩) out.length W hd (by rw [hv]; exact hsg) (by omega) (Nat.le_refl _) hr
    rw [hv, hzz] at this
    exact this)
  obtain ⟨s1, hs1⟩ : ∃ s, z1.sign = s := ⟨_, rfl⟩
  obtain ⟨s2, hs2⟩ : ∃ s, z2.sign = s := ⟨_, rfl⟩
  obtain ⟨A, hA⟩ : ∃ A, dg z1 = A := ⟨_, rfl⟩
  obtain ⟨B, hB⟩ : ∃ B, dg z2 = B := ⟨_, rfl⟩
  rw [hs1] at HWF hsb sa1 sa2
  rw [hs2] at HWF hsb sb1 sb2
  rw [hA] at HWF hl1 HR1 HD1
  rw [hB] at HWF hl2 HR2 HD2
  rw [hs1, hs2, hA, hB]
  obtain ⟨hsb1, hsb2⟩ := hsb
  clear hr1 hr2 hzz hsg hs1 hs2 hA hB
  obtain ⟨n1, hn1⟩ : ∃ n, A.length = n := ⟨_, rfl⟩
  obtain ⟨n2, hn2⟩ : ∃ n, B.length = n := ⟨_, rfl⟩
  have HN1 := zH hn1
  have HN2 := zH hn2
  rw [hn1] at hl1 HR1 ⊢
  rw [hn2] at hl2 HR2 ⊢
  clear hn1 hn2
  obtain ⟨L, hL⟩ : ∃ L : Nat, (n1 : Int) + (n2 : Int) + 1 = (L : Int) := ⟨n1 + n2 + 1, by omega⟩
  have HL := zH hL
  have hmk := make_ints L (by omega)
  go_enter Tryz.func86, Tryz.ntmps86
  go_upto_region 1 with (fail)
  obtain ⟨w3, hw3⟩ : ∃ w3, ((w.alloc (.cells #[.int .i64 s1, .slice a1 n1 c1] 63)).alloc (.cells #[.int .i64 s2, .slice a2 n2 c2] 63)).alloc (.cells #[.int .i64 0, .slice none 0 0] 63) = w3 := ⟨_, rfl⟩
  rw [hw3]
  have K0 : Hid (Blk w3 w.heap.size #[.int .i64 s1, .slice a1 n1 c1]) := by subst hw3; exact zH (((Blk.new _ _ _).alloc _).alloc _)
  have K1 : Hid (Blk w3 (w.heap.size + 1) #[.int .i64 s2, .slice a2 n2 c2]) := by subst hw3; exact zH ((Blk.newAt _ _ _ (by simp)).alloc _)
  have K2 : Hid (Blk w3 (w.heap.size + 2) #[.int .i64 0, .slice none 0 0]) := by subst hw3; exact zH (Blk.newAt _ _ _ (by simp))
  have HB : Hid (Below w.heap.size w w3) := by subst hw3; exact zH (bAlloc (bAlloc (bAlloc (bSelf w) _) _) _)
  clear hw3
  obtain ⟨-, k0, -⟩ := K0.out
  obtain ⟨-, k1, -⟩ := K1.out
  go_upto_region 2 with (fail)
  obtain ⟨w4, hw4⟩ : ∃ w4, w3.alloc (.cells (madeCells #[.int .i64 0] L) 3) = w4 := ⟨_, rfl⟩
  rw [hw4]
  have HMI : Hid (MulI w w4 #[.int .i64 s1, .slice a1 n1 c1] #[.int .i64 s2, .slice a2 n2 c2] w3.heap.size (List.replicate L 0)) := by
    subst hw4
    exact zH ⟨K0.out.alloc _, K1.out.alloc _, K2.out.alloc _, OutB.new w3 L, bAlloc HB.out _⟩
  have hBO : w.heap.size + 3 ≤ w3.heap.size := K2.out.1
  obtain ⟨BO, hBOe⟩ : ∃ b, w3.heap.size = b := ⟨_, rfl⟩
  rw [hBOe] at HMI hBO ⊢
  clear hw4 hBOe K0 K1 K2 HB k0 k1 hmk
  go_wp2_with fail
  go_loopw [6] (fun v wr => ∃ (i : Nat) (os : List Int), v = .int .i64 i ∧ i ≤ n1 ∧ Hid (os.length = L) ∧ Hid (Dig os) ∧ Hid (val os = val (A.take i) * val B) ∧ Hid (MulI w wr #[.int .i64 s1, .slice a1 n1 c1] #[.int .i64 s2, .slice a2 n2 c2] BO os)) (fun v _ => n1 - (intOf v).toNat)
  case atStart => exact ⟨0, List.replicate L 0, rfl, Nat.zero_le _, zH (by simp), zH (Dig.rep L), zH (by rw [val_rep]; simp [val]), HMI⟩
  case round =>
    obtain ⟨i, os, rfl, hi, hol, hod, hov, hmi⟩ := hrel
    by_cases hlt : i < n1
    · have hltI : decide ((i : Int) < (n1 : Int)) = true := decide_eq_true (by omega)
      obtain ⟨b1, o1, rfl, hb1', hc1'⟩ := HR1.out.at (k := i) hlt
      have ca : Hid (w.cell? ⟨b1, o1 + i, none⟩ = some (.int .i64 (gi A i))) := zH (hc1' i hlt)
      have hx := HD1.out.at i
      have HSA := zH (val_take_more A i)
      obtain ⟨x, hxe⟩ : ∃ x, gi A i = x := ⟨_, rfl⟩
      rw [hxe] at ca hx HSA
      obtain ⟨x0, x1⟩ := hx
      clear hc1' hxe
      obtain ⟨-, k0, -⟩ := hmi.out.k0
      go_wp2_with fail
      clear k0 hltI
      obtain ⟨wA, hwA⟩ : ∃ wA, wA = wr := ⟨_, rfl⟩
      subst hwA
      go_loopw [7, 8] (fun cv kv wr => ∃ (k : Nat) (c : Int) (ot : List Int), kv = .int .i64 k ∧ cv = .int .i64 c ∧ k ≤ n2 ∧ 0 ≤ c ∧ c < 1000000000 ∧ Hid (ot.length = L) ∧ Hid (Dig ot) ∧ Hid (val ot + 1000000000 ^ (i + k) * c = val os + 1000000000 ^ i * (x * val (B.take k))) ∧ Hid (MulI w wr #[.int .i64 s1, .slice (some ⟨b1, o1, none⟩) n1 c1] #[.int .i64 s2, .slice a2 n2 c2] BO ot)) (fun _ kv _ => n2 - (intOf kv).toNat)
      case atStart => exact ⟨0, 0, os, rfl, rfl, Nat.zero_le _, by omega, by omega, hol, hod, zH (by simp [val]), hmi⟩
      case round =>
        obtain ⟨k, c, ot, rfl, rfl, hk, c0, c9, htl, htd, htv, hmt⟩ := hrel
        by_cases hkt : k < n2
        · have hktI : decide ((k : Int) < (n2 : Int)) = true := decide_eq_true (by omega)
          obtain ⟨b2, o2, rfl, hb2', hc2'⟩ := HR2.out.at (k := k) hkt
          have cb : Hid (w.cell? ⟨b2, o2 + k, none⟩ = some (.int .i64 (gi B k))) := zH (hc2' k hkt)
          have hy := HD2.out.at k
          have HSB := zH (val_take_more B k)
          obtain ⟨y, hye⟩ : ∃ y, gi B k = y := ⟨_, rfl⟩
          rw [hye] at cb hy HSB
          obtain ⟨y0, y1⟩ := hy
          obtain ⟨n, hn⟩ : ∃ n : Nat, i + k = n := ⟨_, rfl⟩
          have hnI : (i : Int) + (k : Int) = (n : Int) := by omega
          have hnL : n < L := by omega
          have HNL := zH (show n < ot.length by rw [htl.out]; exact hnL)
          have co : Hid (wr.cell? ⟨BO, n, none⟩ = some (.int .i64 (gi ot n))) := zH (hmt.out.out.2.1 n HNL.out)
          have ho := htd.out.at n
          obtain ⟨o, hoe⟩ : ∃ o, gi ot n = o := ⟨_, rfl⟩
          rw [hoe] at co ho
          have HOE := zH hoe
          obtain ⟨oo0, oo1⟩ := ho
          rw [hn] at htv
          have HN := zH hn
          obtain ⟨m0, m1, m2, m3⟩ := mul_dig oo0 oo1 x0 x1 y0 y1 c0 c9
          have hBOr : BO < wr.heap.size := hmt.out.out.1
          clear hc2' hye hn hoe
          obtain ⟨-, k1, -⟩ := hmt.out.k1
          go_upto_region 9 with (fail)
          clear k1 hktI
          refine wp_region_quiet_all (fun w' => Below (World.heap wr).size (wr) w') (by kernel_rfl) (by kernel_rfl) (Below.refl _ _).drew ?_
          refine WQ.out ?_
          repeat (first | (refine WQ_no (by rfl) ?_; (simp only [Act.put, zzT, zzO, zzS])) | (refine WQ_yes (by rfl) ?_; apply Exists.intro; refine ⟨fun w1 hb1 => ?_, ?_⟩; (focus (((obtain ⟨-, k0, -⟩ := (hmt.out.to hb1).k0; obtain ⟨-, k1, -⟩ := (hmt.out.to hb1).k1; have ko := (hb1.cell (p := ⟨BO, n, none⟩) hBOr).trans co.out; have kx := ((hmt.out.to hb1).below.cell (p := ⟨b1, o1 + i, none⟩) hb1').trans ca.out; have ky := ((hmt.out.to hb1).below.cell (p := ⟨b2, o2 + k, none⟩) hb2').trans cb.out); have hb1 := zH hb1; go_simp); (try (go_bits; try go_simp)); (try (rw [if_pos (by omega)]; try go_simp)); (first | done | (with_reducible rfl) | exact rfl))); (simp only [Act.put, zzT, zzO, zzS])))
          refine WQ_nil ?_
          intro w1 hb1
          replace hmt := zH (hmt.out.to hb1)
          replace co := zH ((hb1.cell (p := ⟨BO, n, none⟩) hBOr).trans co.out)
          clear hb1 hBOr
          obtain ⟨s, hs⟩ : ∃ s, o + x * y + c = s := ⟨_, rfl⟩
          rw [hs] at m2 m3 ⊢
          have HS := zH hs
          obtain ⟨d, hd⟩ : ∃ d, s % 1000000000 = d := ⟨_, rfl⟩
          obtain ⟨q, hq⟩ : ∃ q, s / 1000000000 = q := ⟨_, rfl⟩
          have hd' : s.tmod 1000000000 = d := by rw [Int.tmod_eq_emod_of_nonneg (by omega)]; exact hd
          have hq' : s.tdiv 1000000000 = q := by rw [Int.tdiv_eq_ediv_of_nonneg (by omega)]; exact hq
          have hdq : s = d + 1000000000 * q ∧ 0 ≤ d ∧ d < 1000000000 ∧ 0 ≤ q ∧ q < 1000000000 := by omega
          obtain ⟨e, d0, d1, q0, q1⟩ := hdq
          have HE := zH e
          clear e hd hq hs m0 m1
          obtain ⟨-, -, fo⟩ := hmt.out.out
          have ko := co.out
          go_wp2_with fail
          go_roundw
          case rel =>
            refine ⟨k + 1, q, ot.set n d, by go_num, rfl, by omega, q0, q1, zH (by rw [List.length_set]; exact htl.out), zH (htd.out.set n d0 d1), zH ?_, zH (hmt.out.set hBO HNL.out d)⟩
            have e := mul_step (s := s) (a := x) (b := y) HNL.out htv.out (by rw [HOE.out]; exact HS.out.symm) HE.out
            have e2 : i + (k + 1) = n + 1 := by have := HN.out; omega
            have e3 : (1000000000 : Int) ^ n = 1000000000 ^ i * 1000000000 ^ k := by rw [← HN.out, Int.pow_add]
            rw [e2, e, HSB.out, Int.mul_add, Int.mul_add, ← Int.add_assoc]
            congr 1
            rw [e3]
            simp only [Int.mul_assoc, Int.mul_left_comm]
          case measure => simp [intOf]; omega
        · have hktI : decide ((k : Int) < (n2 : Int)) = false := decide_eq_false (by omega)
          have hktN : decide (k < n2) = false := decide_eq_false hkt
          obtain ⟨n, hn⟩ : ∃ n : Nat, i + k = n := ⟨_, rfl⟩
          have hke : k = n2 := by omega
          have hnI : (i : Int) + (n2 : Int) = (n : Int) := by omega
          have hnL : n < L := by omega
          have HNL := zH (show n < ot.length by rw [htl.out]; exact hnL)
          have hV : val os + 1000000000 ^ i * (x * val (B.take k)) = val (A.take (i + 1)) * val B := by
            rw [HSA.out, Int.add_mul, hov.out, val_take_all (l := B) (k := k) (by rw [HN2.out]; omega), Int.mul_assoc]
          have hVb : val (A.take (i + 1)) * val B < 1000000000 ^ (n + 1) := by
            have h1 := val_nonneg (HD1.out.take (i + 1))
            have h2 := val_lt (HD1.out.take (i + 1))
            have h3 := val_nonneg HD2.out
            have h4 := val_lt HD2.out
            rw [List.length_take, HN1.out, Nat.min_eq_left (by omega)] at h2
            rw [HN2.out] at h4
            have h5 := mul_bd' h1 h2 h3 h4
            rw [← Int.pow_add] at h5
            have e : i + 1 + n2 = n + 1 := by omega
            rw [e] at h5
            exact h5
          have htv2 := htv.out
          rw [hn, hV] at htv2
          obtain ⟨g1, g2⟩ := mul_end htd.out HNL.out htv2 hVb
          have co : Hid (wr.cell? ⟨BO, n, none⟩ = some (.int .i64 (gi ot n))) := zH (hmt.out.out.2.1 n HNL.out)
          have ho := htd.out.at n
          have HG2 := zH g2
          obtain ⟨o, hoe⟩ : ∃ o, gi ot n = o := ⟨_, rfl⟩
          rw [hoe] at co ho HG2 g1
          obtain ⟨oo0, oo1⟩ := ho
          have hBOr : BO < wr.heap.size := hmt.out.out.1
          have HKE := zH hke
          clear hn hoe hke hV hVb htv2 g2
          obtain ⟨-, k1, -⟩ := hmt.out.k1
          go_upto_region 11 with (fail)
          clear k1 hktI hktN hkt
          refine wp_region_quiet_tail 17 (fun w' => Below (World.heap wr).size (wr) w') (by kernel_rfl) (by kernel_rfl) (Below.refl _ _).drew ?_
          simp only [List.take_succ_cons, List.take_zero, List.drop_succ_cons, List.drop_zero]
          repeat (first | (refine wpQuiet_no (by rfl) ?_; (simp only [Act.put, zzT, zzO, zzS])) | (refine wpQuiet_yes (by rfl) ?_; apply Exists.intro; refine ⟨fun w1 hb1 => ?_, ?_⟩; (focus (((obtain ⟨-, k1, -⟩ := (hmt.out.to hb1).k1; have ko := (hb1.cell (p := ⟨BO, n, none⟩) hBOr).trans co.out); have hb1 := zH hb1; go_simp); (try (go_bits; try go_simp)); (try (rw [if_pos (by omega)]; try go_simp)); (first | done | (with_reducible rfl) | exact rfl))); (simp only [Act.put, zzT, zzO, zzS])))
          refine wpQuiet_nil ?_
          intro w1 hb1
          replace hmt := zH (hmt.out.to hb1)
          replace co := zH ((hb1.cell (p := ⟨BO, n, none⟩) hBOr).trans co.out)
          clear hb1 hBOr
          obtain ⟨-, -, fo⟩ := hmt.out.out
          have ko := co.out
          go_wp2_with fail
          go_roundw
          case rel =>
            exact ⟨i + 1, ot.set n (o + c), by go_num, by omega, zH (by rw [List.length_set]; exact htl.out), zH (htd.out.set n (by omega) g1), HG2, zH (hmt.out.set hBO HNL.out _)⟩
          case measure => simp [intOf]; omega
    · have hltI : decide ((i : Int) < (n1 : Int)) = false := decide_eq_false (by omega)
      have hltN : decide (i < n1) = false := decide_eq_false hlt
      have hval : val os = val A * val B := by rw [hov.out, val_take_all (by rw [HN1.out]; omega)]
      have HWL : Hid (∀ W, OutB W BO os → Calls Tryz.prog 127 #[.int .i64 (s1 * s2), .slice (some ⟨BO, 0, none⟩) L L] W fun e w1 => WAt (some ⟨BO, 0, none⟩) (z1 * z2) W e w1) := zH (fun W h => by
        have := HWF.out os BO W hod.out hval (by rw [hol.out]; omega) h.reads
        rw [hol.out] at this
        exact this)
      clear hval
      obtain ⟨-, k0, -⟩ := hmi.out.k0
      obtain ⟨-, k1, -⟩ := hmi.out.k1
      go_wp2_with fail
      refine (HWL.out _ hmi.out.out).mono ?_
      rintro e w5 ⟨v5, rfl, hv5, hb⟩
      have HM5 := zH (hmi.out.to hb)
      have HV5 := zH hv5
      obtain ⟨c5, rfl, -, -⟩ := hv5
      clear hb k0 k1
      have HP : Hid (∀ (w' : World) (e : Ending), w' = (w5.setCell ⟨w.heap.size + 1 + 1, 0, none⟩ (.int .i64 (z1 * z2).sign)).setCell ⟨w.heap.size + 1 + 1, 1, none⟩ (.slice (some ⟨BO, 0, none⟩) (dg (z1 * z2)).length c5) → e = .returned (.agg #[.int .i64 (z1 * z2).sign, .slice (some ⟨BO, 0, none⟩) (dg (z1 * z2)).length c5]) → WPost [] (z1 * z2) w e w') := zH (fun w' e hw he => by
        subst hw
        refine ⟨_, _, he, HV5.out.set2 (fun p hp => by cases hp; dsimp only; omega) _ _, ?_, fun P hf _ _ p hp => hf _ (by cases hp; dsimp only; omega)⟩
        exact (HM5.out.below.setCell (p := ⟨w.heap.size + 1 + 1, 0, none⟩) (by dsimp only; omega) _).setCell (p := ⟨w.heap.size + 1 + 1, 1, none⟩) (by dsimp only; omega) _)
      clear HV5
      obtain ⟨sg, hsg⟩ : ∃ s, (z1 * z2).sign = s := ⟨_, rfl⟩
      obtain ⟨D, hD⟩ : ∃ n, (dg (z1 * z2)).length = n := ⟨_, rfl⟩
      rw [hsg, hD] at HP ⊢
      clear hsg hD
      have K2 : Hid (Blk w5 (w.heap.size + 1 + 1) #[.int .i64 0, .slice none 0 0]) := zH HM5.out.k2
      obtain ⟨h2, k2, f2⟩ := K2.out
      go_wp2_with fail
      clear k2 f2
      have F := ((K2.out.set 0 (.int .i64 sg)).set 1 (.slice (some ⟨BO, 0, none⟩) D c5)).2.1
      have F0 := F 0; have F1 := F 1
      clear F
      refine bodyPost_ret (v := .agg #[.int .i64 sg, .slice (some ⟨BO, 0, none⟩) D c5]) ?_ rfl (HP.out _ _ rfl rfl)
      simp [results, Tryz.results86, go_sem, F0, F1]
end
section
open Go.RowKit

theorem val_drop {l : List Int} {k : Nat} (hk : k < l.length) : val (l.drop k) = gi l k + 1000000000 * val (l.drop (k + 1)) := by
  rw [List.drop_eq_getElem_cons hk, gi_lt hk]; rfl
theorem drop_set (l : List Int) (k : Nat) (v : Int) (hk : k < l.length) : val ((l.set k v).drop k) = v + 1000000000 * val (l.drop (k + 1)) := by
  have hk' : k < (l.set k v).length := by simpa using hk
  rw [val_drop hk', gi_set, if_pos ⟨rfl, hk⟩]
  have e : (l.set k v).drop (k + 1) = l.drop (k + 1) := by
    apply gi_ext
    · simp
    · intro i _
      rw [gi_drop_at, gi_drop_at, gi_set, if_neg (by omega)]
  rw [e]
/-- One digit of a quotient. -/
theorem floor_step {A qs : List Int} {k : Nat} {N L d : Int} (hA : k < A.length) (hq : k < qs.length) (h : val (A.drop (k + 1)) = val (qs.drop (k + 1)) * N + L) :
    val (A.drop k) = val ((qs.set k d).drop k) * N + (gi A k + 1000000000 * L - N * d) := by
  rw [val_drop hA, drop_set qs k d hq, h, Int.mul_add, Int.add_mul, Int.mul_assoc, Int.mul_comm N d]
  omega
theorem floor_pos {q N L : Int} (h0 : 0 ≤ L) (h1 : L < N) : (q * N + L) / N = q := by
  rw [Int.add_comm, Int.add_mul_ediv_right _ _ (by omega), Int.ediv_eq_zero_of_lt h0 h1]; omega
theorem floor_neg0 {q N : Int} (hN : 0 < N) : (-(q * N)) / N = -q := by
  rw [← Int.neg_mul, Int.mul_ediv_cancel _ (by omega)]
theorem floor_neg {q N L : Int} (h0 : 0 < L) (h1 : L < N) : (-(q * N + L)) / N = -q - 1 := by
  have e : -(q * N + L) = (-q - 1) * N + (N - L) := by rw [Int.sub_mul, Int.neg_mul]; omega
  rw [e]
  exact floor_pos (by omega) (by omega)
/-- What the search for a digit keeps. -/
structure Srch (N L lo hi : Int) : Prop where
  l0 : 0 ≤ lo
  lh : lo ≤ hi
  hb : hi ≤ 999999999
  low : N * lo ≤ L
  high : L < N * (hi + 1)
theorem Srch.start {N L x R : Int} (x0 : 0 ≤ x) (x1 : x < 1000000000) (r0 : 0 ≤ R) (r1 : R < N) (hL : L = x + 1000000000 * R) : Srch N L 0 999999999 := by
  refine ⟨by omega, by omega, by omega, by rw [Int.mul_zero]; omega, ?_⟩
  have : N * (999999999 + 1) = 1000000000 * N := Int.mul_comm _ _
  omega
theorem Srch.up {N L lo hi m : Int} (h : Srch N L lo hi) (h1 : lo < m) (h2 : m ≤ hi) (hm : N * m ≤ L) : Srch N L m hi :=
  ⟨by have := h.l0; omega, h2, h.hb, hm, h.high⟩
theorem Srch.down {N L lo hi m : Int} (h : Srch N L lo hi) (h1 : lo < m) (hm : L < N * m) (h2 : m ≤ hi) : Srch N L lo (m - 1) :=
  ⟨h.l0, by omega, by have := h.hb; omega, h.low, by rw [Int.sub_add_cancel]; exact hm⟩
theorem Srch.fin {N L lo hi : Int} (h : Srch N L lo hi) (he : hi ≤ lo) : 0 ≤ L - N * lo ∧ L - N * lo < N := by
  have e : hi = lo := by have := h.lh; omega
  have h1 := h.high
  have h2 := h.low
  rw [e, Int.mul_add, Int.mul_one] at h1
  omega

/-- What the loops of WideFloor keep. -/
theorem digs_cons (x : Int) (L : Nat) (h0 : 0 ≤ x) (h1 : x < 1000000000) : digs (val (x :: digs L)).toNat = digs (x.toNat + 1000000000 * L) := by
  congr 1
  have : val (x :: digs L) = x + 1000000000 * val (digs L) := rfl
  rw [this, val_digs]
  omega
end
end Go.Proofs.YtbpcapcgbnbknaaGreat
