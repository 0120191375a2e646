/-
  Texts of this claim, in their build order: Z3.
-/
import Derived.Test.YtjieojkfpoiabaaChains27

/-
  The reference's stiffness of a chain.
-/
namespace Go.Proofs.Ytjieojkfpoiabaa
open Go.RowKit

theorem tdivL_bd {L k : Int} (hL : 0 < L) (hk : 1 ≤ k) (hd : k ∣ L) : 1 ≤ L.tdiv k ∧ L.tdiv k ≤ L := by
  have h := tdiv_ex (by omega : 0 < k) hd
  have h0 : 0 < L.tdiv k := tdiv_pos hL hd (by omega)
  generalize L.tdiv k = t at *
  refine ⟨by omega, ?_⟩
  have : 1 * t ≤ k * t := Int.mul_le_mul_of_nonneg_right hk (by omega)
  omega
theorem lcm_bd {ks fs : List Int} (h : ChOk ks fs) {k : Nat} (hk : k ≤ ks.length) : 0 < lcmP ks k ∧ lcmP ks k ≤ 232792560 ∧ ∀ j, j < k → gi ks j ∣ lcmP ks k := by
  obtain ⟨h1, h2, h3⟩ := lcmP_spec h.k1 k hk
  exact ⟨h1, Int.le_of_dvd (by decide) h2, h3⟩
/-- What one round's step needs. -/
theorem lcm_round {ks fs : List Int} (h : ChOk ks fs) {k : Nat} (hk : k < ks.length) : ∃ g : Int, ((Int.gcd (lcmP ks k) (gi ks k) : Nat) : Int) = g ∧ 0 < g ∧ 0 ≤ (lcmP ks k).tdiv g ∧ (lcmP ks k).tdiv g ≤ 232792560 ∧ (lcmP ks k).tdiv g * gi ks k = lcmP ks (k + 1) ∧ 0 < lcmP ks (k + 1) ∧ lcmP ks (k + 1) ≤ 232792560 := by
  obtain ⟨a1, a2, -⟩ := lcm_bd h (k := k) (by omega)
  obtain ⟨b1, b2, -⟩ := lcm_bd h (k := k + 1) (by omega)
  have hk1 := (h.k1 k hk).1
  have hg : 0 < Int.gcd (lcmP ks k) (gi ks k) := Nat.pos_of_ne_zero (fun h => by have := (Int.gcd_eq_zero_iff.1 h).2; omega)
  refine ⟨_, rfl, by omega, Int.tdiv_nonneg (by omega) (by omega), ?_, rfl, b1, b2⟩
  have := @tdivB (lcmP ks k) ((Int.gcd (lcmP ks k) (gi ks k) : Nat) : Int) 232792560 (by omega)
  omega
theorem refS_bd {ks : List Int} {L : Int} (h : ∀ k, k < ks.length → 1 ≤ gi ks k) (hL : 0 < L) (hd : ∀ k, k < ks.length → gi ks k ∣ L) : ∀ k, k ≤ ks.length → (k : Int) ≤ refS ks L k ∧ refS ks L k ≤ k * L
  | 0, _ => by simp [refS]
  | k + 1, hk => by
    have ih := refS_bd h hL hd k (by omega)
    have h1 := tdivL_bd hL (h k (by omega)) (hd k (by omega))
    have e : refS ks L (k + 1) = refS ks L k + L.tdiv (gi ks k) := rfl
    have e2 : ((k + 1 : Nat) : Int) * L = k * L + L := by rw [Int.natCast_add, Int.add_mul]; simp
    rw [e, e2]
    omega

set_option maxHeartbeats 1600000 in
set_option maxRecDepth 100000 in
theorem Stiffness_any (ks fs : List Int) (a1 a2 : Option Addr) (c1 n2 c2 : Nat) (w : World) (hok : ChOk ks fs) (hn : 0 < ks.length) (hr1 : Reads w a1 ks.length (ints ks)) :
    Calls Try.prog 55 #[.agg (chV a1 ks.length c1 a2 n2 c2)] w fun e w' => e = .returned (.agg #[.int .i64 (flexP ks ks.length).2, .int .i64 (flexP ks ks.length).1]) ∧ Below w.heap.size w w' := by
  have HOK := Lib.hid hok
  have HR1 := Lib.hid hr1
  have hfew := hok.few
  obtain ⟨hL0, hL1, hLd⟩ := lcm_bd hok (Nat.le_refl ks.length)
  have HFX : Hid (fr (lcmP ks ks.length) (refS ks (lcmP ks ks.length) ks.length) = ((flexP ks ks.length).2, (flexP ks ks.length).1)) := Lib.hid (by
    rw [flex_eq hok.k1 hL0 hLd ks.length (Nat.le_refl _), fr_swap])
  have HSB := Lib.hid (refS_bd (fun k hk => (hok.k1 k hk).1) hL0 hLd)
  have HLD := Lib.hid hLd
  clear hr1 hok hLd hL0 hL1
  go_enter Try.func55, Try.ntmps55
  go_wp2_with fail
  obtain ⟨w3, hw3⟩ : ∃ w3, (w.alloc (.cells (chV a1 ks.length c1 a2 n2 c2) 73)).alloc (.cells #[.int .i64 0, .int .i64 0] 86) = w3 := ⟨_, rfl⟩
  rw [hw3]
  have K0 : Hid (Blk w3 w.heap.size (chV a1 ks.length c1 a2 n2 c2)) := by subst hw3; exact Lib.hid ((Blk.new _ _ _).alloc _)
  have K1 : Hid (Blk w3 (w.heap.size + 1) #[.int .i64 0, .int .i64 0]) := by subst hw3; exact Lib.hid (Blk.newAt _ _ _ (by simp))
  have HB : Hid (Below w.heap.size w w3) := by subst hw3; exact Lib.hid (bAlloc (bAlloc (bSelf w) _) _)
  clear hw3
  have hs3 : w.heap.size + 1 < w3.heap.size := K1.out.1
  go_loopw [3, 4] (fun cv iv wr => ∃ (k : Nat) (L : Int), k ≤ ks.length ∧ iv = .int .i64 k ∧ cv = .int .i64 L ∧ Hid (L = lcmP ks k) ∧ Hid (Below w3.heap.size w3 wr)) (fun _ iv _ => ks.length - (intOf iv).toNat)
  case atStart => exact ⟨0, 1, Nat.zero_le _, rfl, rfl, Lib.hid rfl, Lib.hid (bSelf w3)⟩
  case round =>
    obtain ⟨k, L, hk, rfl, rfl, hL, hB⟩ := hrel
    obtain ⟨-, k0, -⟩ := K0.out.to hB.out
    by_cases hlt : k < ks.length
    · have hltI : decide ((k : Int) < (ks.length : Int)) = true := decide_eq_true (by omega)
      obtain ⟨b, off, rfl, hb', hc'⟩ := ((HR1.out.to HB.out).to hB.out).at (k := k) hlt
      have KC := Lib.hid (hc' k hlt)
      obtain ⟨g1, g2⟩ := HOK.out.k1 k hlt
      obtain ⟨g, hg, hg0, t0, t1, ht, l0, l1⟩ := lcm_round HOK.out hlt
      have HGC := Lib.hid (fun W => bGcd_any (lcmP ks k) (gi ks k) W (by have := (lcm_bd HOK.out hk).1; have := (lcm_bd HOK.out hk).2.1; omega) (by omega))
      rw [hg] at HGC
      rw [← hL.out] at HGC t0 t1 ht
      obtain ⟨x, hx⟩ : ∃ x, gi ks k = x := ⟨_, rfl⟩
      have KX : Hid (wr.cell? ⟨b, off + k, none⟩ = some (.int .i64 x)) := Lib.hid (by rw [KC.out, ← hx]; rfl)
      rw [hx] at HGC g1 g2 ht
      obtain ⟨t, htt⟩ : ∃ t, L.tdiv g = t := ⟨_, rfl⟩
      rw [htt] at t0 t1 ht
      obtain ⟨N, hN⟩ : ∃ N, lcmP ks (k + 1) = N := ⟨_, rfl⟩
      rw [hN] at ht l0 l1
      have hgz : (g == 0) = false := by rw [beq_eq_false_iff_ne]; omega
      have hgz' : ¬ g = 0 := by omega
      have HT := Lib.hid htt
      have HTN := Lib.hid ht
      have HNN := Lib.hid hN
      have hr1 : -9223372036854775808 ≤ t * x := by omega
      have hr2 : t * x ≤ 9223372036854775807 := by omega
      clear hc' KC hg hx htt ht hN
      go_wp2_with fail
      refine wp_region_quiet_all (fun w' => Below (World.heap wr).size (wr) w') (by kernel_rfl) (by kernel_rfl) (Below.refl _ _).drew ?_
      refine WQ.out ?_
      repeat (first | (refine WQ_no (by rfl) ?_; (simp only [Act.put, List.setIfInBounds_toArray, List.set_cons_zero, List.set_cons_succ])) | (refine WQ_yes (by rfl) ?_; apply Exists.intro; refine ⟨fun w1 hb1 => ?_, ?_⟩; (focus (((obtain ⟨-, k0, -⟩ := (K0.out.to hB.out).below hb1 (Nat.lt_of_lt_of_le (by omega) hB.out.size); have kx := (hb1.cell (p := ⟨b, off + k, none⟩) hb').trans KX.out; have htt := HT.out); have hb1 := Lib.hid hb1; go_simp); (try (go_bits; try go_simp)); (try (rw [if_pos (by omega)]; try go_simp)); (first | done | ((go_at_call 110; refine (HGC.out _).mono ?_; rintro e w' ⟨rfl, hb2⟩; exact ⟨rfl, bThen hb1.out hb2⟩)) | (with_reducible rfl) | exact rfl))); (simp only [Act.put, List.setIfInBounds_toArray, List.set_cons_zero, List.set_cons_succ])))
      refine WQ_nil ?_
      intro w1 hb1
      have hB2 := Lib.hid (hB.out.trans (hb1.mono hB.out.size))
      clear hb1
      go_wp2_with fail
      go_roundw
      case rel => exact ⟨k + 1, t * x, by omega, by go_num, rfl, Lib.hid (HTN.out.trans HNN.out.symm), hB2⟩
      case measure => simp [intOf]; omega
    · have hltI : decide ((k : Int) < (ks.length : Int)) = false := decide_eq_false (by omega)
      have hke : k = ks.length := by omega
      have HLK := Lib.hid (show L = lcmP ks ks.length by rw [← hke]; exact hL.out)
      have hB2 := Lib.hid (bThen HB.out hB.out)
      replace K0 := Lib.hid (K0.out.to hB.out)
      replace K1 := Lib.hid (K1.out.to hB.out)
      rw [← HLK.out] at HFX HSB HLD
      have hL0 : 0 < L := by rw [HLK.out]; exact (lcm_bd HOK.out (Nat.le_refl _)).1
      have hL1 : L ≤ 232792560 := by rw [HLK.out]; exact (lcm_bd HOK.out (Nat.le_refl _)).2.1
      clear hke HB hB hL HLK
      go_wp2_with fail
      clear k0
      obtain ⟨wo, hwo⟩ : ∃ wo, wo = wr := ⟨_, rfl⟩
      subst hwo
      go_loopw [5, 6] (fun sv iv wr => ∃ (k : Nat) (s : Int), k ≤ ks.length ∧ iv = .int .i64 k ∧ sv = .int .i64 s ∧ Hid (s = refS ks L k) ∧ wo = wr) (fun _ iv _ => ks.length - (intOf iv).toNat)
      case atStart => exact ⟨0, 0, Nat.zero_le _, rfl, rfl, Lib.hid rfl, rfl⟩
      case round =>
        obtain ⟨k, s, hk, rfl, rfl, hs, rfl⟩ := hrel
        obtain ⟨-, k0, -⟩ := K0.out
        obtain ⟨s0, s1⟩ := HSB.out k hk
        rw [← hs.out] at s0 s1
        have hkL : (k : Int) * L ≤ 6 * 232792560 := Int.mul_le_mul (by omega) hL1 (by omega) (by omega)
        by_cases hlt : k < ks.length
        · have hltI : decide ((k : Int) < (ks.length : Int)) = true := decide_eq_true (by omega)
          obtain ⟨b, off, rfl, hb', hc'⟩ := (HR1.out.to hB2.out).at (k := k) hlt
          have KC := Lib.hid (hc' k hlt)
          obtain ⟨g1, g2⟩ := HOK.out.k1 k hlt
          obtain ⟨t0, t1⟩ := tdivL_bd hL0 g1 (HLD.out k hlt)
          have HSS : Hid (refS ks L (k + 1) = refS ks L k + L.tdiv (gi ks k)) := Lib.hid rfl
          obtain ⟨x, hx⟩ : ∃ x, gi ks k = x := ⟨_, rfl⟩
          have kx : wo.cell? ⟨b, off + k, none⟩ = some (.int .i64 x) := by rw [KC.out, ← hx]; rfl
          rw [hx] at g1 g2 t0 t1 HSS
          obtain ⟨t, htt⟩ : ∃ t, L.tdiv x = t := ⟨_, rfl⟩
          rw [htt] at t0 t1 HSS
          have hgz : (x == 0) = false := by rw [beq_eq_false_iff_ne]; omega
          have hgz' : ¬ x = 0 := by omega
          clear hc' KC hx hkL
          have hs6 : s + t ≤ 9223372036854775807 := by
            have : (k : Int) * L ≤ 6 * 232792560 := Int.mul_le_mul (by omega) hL1 (by omega) (by omega)
            omega
          have hs7 : -9223372036854775808 ≤ s + t := by omega
          go_wp2_with fail
          go_roundw
          case rel => exact ⟨k + 1, s + t, by omega, by go_num, rfl, Lib.hid (by rw [HSS.out, ← hs.out]), by trivial⟩
          case measure => simp [intOf]; omega
        · have hltI : decide ((k : Int) < (ks.length : Int)) = false := decide_eq_false (by omega)
          have hke : k = ks.length := by omega
          have HSK := Lib.hid (show s = refS ks L ks.length by rw [← hke]; exact hs.out)
          rw [← HSK.out] at HFX
          have HLO := Lib.hid (fun W => Lowest_any L s W (by omega) (by omega) (by omega))
          rw [HFX.out] at HLO
          obtain ⟨x, hx⟩ : ∃ x, (flexP ks ks.length).2 = x := ⟨_, rfl⟩
          obtain ⟨y, hy⟩ : ∃ x, (flexP ks ks.length).1 = x := ⟨_, rfl⟩
          dsimp only at HLO
          rw [hx, hy] at HLO
          have HXY := Lib.hid (And.intro hx hy)
          clear hx hy hke hs hkL s0 s1 HFX HSB HLD
          go_wp2_with fail
          refine (HLO.out _).mono ?_
          rintro e w7 ⟨rfl, hb⟩
          replace K1 := Lib.hid (K1.out.to hb)
          replace hB2 := Lib.hid (bThen hB2.out hb)
          clear hb k0
          obtain ⟨hk1, k1, f1⟩ := K1.out
          go_wp2_with fail
          clear k1 f1
          have F := ((K1.out.set 0 (.int .i64 x)).set 1 (.int .i64 y)).2.1
          have F0 := F 0; have F1 := F 1
          clear F
          refine bodyPost_ret (v := .agg #[.int .i64 x, .int .i64 y]) ?_ rfl ⟨by rw [HXY.out.1, HXY.out.2], (hB2.out.setCell (p := ⟨w.heap.size + 1, 0, none⟩) (by dsimp only; omega) _).setCell (p := ⟨w.heap.size + 1, 1, none⟩) (by dsimp only; omega) _⟩
          simp [results, Try.results55, go_sem, F0, F1]

end Go.Proofs.Ytjieojkfpoiabaa

