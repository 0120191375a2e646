/-
  divisor, fraction and sum of package hybrid.
-/
import Derived.Test.YtjieojkfpoiabaaD5
namespace Go.Proofs.Ytjieojkfpoiabaa
open Go.RowKit

theorem gcd_step {x y : Int} : Int.gcd y (x.tmod y) = Int.gcd x y := by
  unfold Int.gcd
  rw [Int.natAbs_tmod, Nat.gcd_comm x.natAbs, Nat.gcd_rec y.natAbs x.natAbs, Nat.gcd_comm]

def big : Int := 1000000000000000
set_option maxHeartbeats 800000 in
set_option maxRecDepth 100000 in
theorem divisor_any (x y : Int) (w : World) (hx : x.natAbs ≤ 1000000000000000) (hy : y.natAbs ≤ 1000000000000000) :
    Calls Try.prog 106 #[.int .i64 x, .int .i64 y] w fun e w' => e = .returned (.int .i64 (Int.gcd x y : Nat)) ∧ Below w.heap.size w w' := by
  go_enter Try.func106, Try.ntmps106
  go_wp2_with fail
  go_loopw [0, 1] (fun p q wr => ∃ x' y' : Int, p = .int .i64 x' ∧ q = .int .i64 y' ∧ Hid (Int.gcd x' y' = Int.gcd x y) ∧ x'.natAbs ≤ 1000000000000000 ∧ y'.natAbs ≤ 1000000000000000 ∧ Hid (Below w.heap.size w wr)) (fun _ q _ => (intOf q).natAbs)
  case atStart => exact ⟨x, y, rfl, rfl, Lib.hid rfl, hx, hy, Lib.hid (bSelf w)⟩
  case round =>
    obtain ⟨x', y', rfl, rfl, hg, hx', hy', hb⟩ := hrel
    by_cases h0 : y' = 0
    · subst h0
      go_wp2_with fail
      all_goals
        go_ret
        refine ⟨ret_int ?_, hb.out⟩
        rw [← hg.out]
        simp only [Int.gcd_zero_right]
        omega
    · have h0' : (y' == 0) = false := by simpa using h0
      go_wp2_with fail
      refine wp_region_quiet_all (fun w' => Below (World.heap wr).size (wr) w') (by kernel_rfl) (by kernel_rfl) (Below.refl _ _).drew ?_
      refine WQ.out ?_
      repeat (first | (refine WQ_no (by rfl) ?_; (simp only [Act.put, List.setIfInBounds_toArray, List.set_cons_zero, List.set_cons_succ])) | (refine WQ_yes (by rfl) ?_; apply Exists.intro; refine ⟨fun w1 hb1 => ?_, ?_⟩; (focus ((skip; have hb1 := Lib.hid hb1; go_simp); (try (go_bits; try go_simp)); (try (rw [if_pos (by omega)]; try go_simp)); (first | done | (fail) | (with_reducible rfl) | exact rfl))); (simp only [Act.put, List.setIfInBounds_toArray, List.set_cons_zero, List.set_cons_succ])))
      refine WQ_nil ?_
      intro w1 hb1
      have hb2 := Lib.hid (bThen hb.out hb1)
      clear hb1
      have hm : (x'.tmod y').natAbs < y'.natAbs := by rw [Int.natAbs_tmod]; exact Nat.mod_lt _ (by omega)
      go_wp2_with fail
      go_roundw
      case rel => exact ⟨y', x'.tmod y', rfl, rfl, Lib.hid (gcd_step.trans hg.out), hy', by omega, hb2⟩
      case measure => exact hm

/-- A fraction in lowest terms. -/
def fr (n m : Int) : Int × Int := (n.tdiv (Int.gcd n m : Nat), m.tdiv (Int.gcd n m : Nat))
theorem tdivB {n g : Int} {B : Nat} (h : n.natAbs ≤ B) : (n.tdiv g).natAbs ≤ B := by
  rw [Int.natAbs_tdiv]; exact Nat.le_trans (Nat.div_le_self _ _) h
theorem fr_pos {n m : Int} (hm : 0 < m) : 0 < (fr n m).2 := by
  unfold fr
  have h1 : 0 < Int.gcd n m := Nat.pos_of_ne_zero (fun h => by have := (Int.gcd_eq_zero_iff.1 h).2; omega)
  have h2 : ((Int.gcd n m : Nat) : Int) ∣ m := Int.gcd_dvd_right ..
  obtain ⟨c, hc⟩ := h2
  have h3 : m.tdiv ((Int.gcd n m : Nat) : Int) = c := by
    conv => lhs; arg 1; rw [hc]
    exact Int.mul_tdiv_cancel_left _ (by omega)
  show 0 < m.tdiv ((Int.gcd n m : Nat) : Int)
  rw [h3]
  rcases Int.lt_or_le 0 c with h | h
  · exact h
  · have : ((Int.gcd n m : Nat) : Int) * c ≤ 0 := Int.mul_nonpos_of_nonneg_of_nonpos (by omega) h
    omega
theorem fr_bd1 {n m : Int} {B : Nat} (h : n.natAbs ≤ B) : (fr n m).1.natAbs ≤ B := tdivB h
theorem fr_bd2 {n m : Int} {B : Nat} (h : m.natAbs ≤ B) : (fr n m).2.natAbs ≤ B := tdivB h

set_option maxHeartbeats 800000 in
set_option maxRecDepth 100000 in
theorem fraction_any (n m : Int) (w : World) (hn : n.natAbs ≤ 1000000000000000) (hm : 0 < m) (hm2 : m ≤ 1000000000000000) :
    Calls Try.prog 109 #[.int .i64 n, .int .i64 m] w fun e w' => e = .returned (.agg #[.int .i64 (fr n m).1, .int .i64 (fr n m).2]) ∧ Below w.heap.size w w' := by
  have h0 : 0 < Int.gcd n m := Nat.pos_of_ne_zero (fun h => by have := (Int.gcd_eq_zero_iff.1 h).2; omega)
  have h1 := @fr_bd1 n m _ hn
  have h2 := @fr_bd2 n m 1000000000000000 (by omega)
  have hD := Lib.hid (fun W => divisor_any n m W hn (by omega))
  unfold fr at h1 h2 ⊢
  dsimp only at h1 h2 ⊢
  obtain ⟨g, hg⟩ : ∃ g : Int, ((Int.gcd n m : Nat) : Int) = g := ⟨_, rfl⟩
  rw [hg] at h1 h2 hD ⊢
  have hg0 : 0 < g := by omega
  have hg1 : (g == 0) = false := by rw [beq_eq_false_iff_ne]; omega
  have hg2 : ¬ g = 0 := by omega
  clear hg h0
  go_enter Try.func109, Try.ntmps109
  go_wp2_with fail
  refine (hD.out _).mono ?_
  rintro e w1 ⟨rfl, hb⟩
  have K0 : Hid (Blk w1 w.heap.size #[.int .i64 0, .int .i64 0]) := Lib.hid ((Blk.new _ _ _).to hb)
  have HB := Lib.hid (bThen (bAlloc (bSelf w) _) hb)
  clear hb
  go_wp2_with fail
  refine wp_region_quiet_tail 7 (fun w' => Below (World.heap w1).size (w1) w') (by kernel_rfl) (by kernel_rfl) (Below.refl _ _).drew ?_
  simp only [List.take_succ_cons, List.take_zero, List.drop_succ_cons, List.drop_zero]
  refine WQ.out ?_
  repeat (first | (refine WQ_no (by rfl) ?_; (simp only [Act.put, List.setIfInBounds_toArray, List.set_cons_zero, List.set_cons_succ])) | (refine WQ_yes (by rfl) ?_; apply Exists.intro; refine ⟨fun w1 hb1 => ?_, ?_⟩; (focus ((skip; have hb1 := Lib.hid hb1; go_simp); (try (go_bits; try go_simp)); (try (rw [if_pos (by omega)]; try go_simp)); (first | done | (fail) | (with_reducible rfl) | exact rfl))); (simp only [Act.put, List.setIfInBounds_toArray, List.set_cons_zero, List.set_cons_succ])))
  refine WQ_nil ?_
  intro w1 hb1
  replace K0 := Lib.hid (K0.out.to hb1)
  replace HB := Lib.hid (bThen HB.out hb1)
  clear hb1
  obtain ⟨-, k0, f0⟩ := K0.out
  go_wp2_with fail
  have F := (K0.out.set 0 (.int .i64 (n.tdiv g))).set 1 (.int .i64 (m.tdiv g))
  have F0 := F.2.1 0
  have F1 := F.2.1 1
  clear F k0 f0
  refine bodyPost_ret (v := .agg #[.int .i64 (n.tdiv g), .int .i64 (m.tdiv g)]) ?_ rfl ⟨rfl, ?_⟩
  · simp [results, Try.results109, go_sem, F0, F1]
  · exact (HB.out.setCell (p := ⟨w.heap.size, 0, none⟩) (Nat.le_refl _) _).setCell (p := ⟨w.heap.size, 1, none⟩) (Nat.le_refl _) _

theorem sum_any (zs : List Int) (a : Option Addr) (cap : Nat) (w : World) (hlen : zs.length ≤ 1000) (hz : ∀ k, k < zs.length → -1000 ≤ gi zs k ∧ gi zs k ≤ 1000) (hr : Reads w a zs.length (ints zs)) :
    Calls Try.prog 102 #[.slice a zs.length cap] w fun e w' => e = .returned (.int .i64 zs.sum) ∧ w = w' := by
  have HR := Lib.hid hr
  have HZ := Lib.hid hz
  clear hr hz
  go_enter Try.func102, Try.ntmps102
  go_wp2_with fail
  go_loopw [3, 8] (fun s i wr => ∃ k : Nat, ∃ t : Int, k ≤ zs.length ∧ i = .int .i64 k ∧ s = .int .i64 t ∧ Hid (t = (zs.take k).sum) ∧ -(1000 * (k : Int)) ≤ t ∧ t ≤ 1000 * (k : Int) ∧ Hid (w = wr)) (fun _ i _ => zs.length - (intOf i).toNat)
  case atStart => exact ⟨0, 0, Nat.zero_le _, rfl, rfl, Lib.hid rfl, by omega, by omega, Lib.hid rfl⟩
  case round =>
    obtain ⟨k, t, hk, rfl, rfl, ht, ht1, ht2, hw⟩ := hrel
    by_cases hlt : k < zs.length
    · obtain ⟨b, off, rfl, hb, hc⟩ := HR.out.at hlt
      have h1 : wr.cell? ⟨b, off + k, none⟩ = some (.int .i64 (gi zs k)) := by rw [← hw.out]; exact hc k hlt
      have h2 := HZ.out k hlt
      clear hc
      go_wp2_with fail
      go_roundw
      case rel =>
        refine ⟨k + 1, t + gi zs k, by omega, by go_num, rfl, Lib.hid ?_, by omega, by omega, hw⟩
        rw [gi_take zs k hlt, List.sum_append, ht.out]; simp
      case measure => simp [intOf]; omega
    · have : k = zs.length := by omega
      subst this
      go_wp2_with fail
      go_ret
      refine ⟨ret_int ?_, hw.out⟩
      rw [ht.out, List.take_length]

end Go.Proofs.Ytjieojkfpoiabaa
