/-
  Texts of this claim, in their build order: X1 X2 X3.
-/
import Derived.Test.YtjieojkfpoiabaaChains18
import Derived.Test.YtjieojkfpoiabaaChains20

/-
  Contracts of the base: Gcd, Lowest.
-/
namespace Go.Proofs.Ytjieojkfpoiabaa
open Go.RowKit

set_option maxHeartbeats 800000 in
set_option maxRecDepth 100000 in
theorem bGcd_any (x y : Int) (w : World) (hx : x.natAbs ≤ 1000000000000000) (hy : y.natAbs ≤ 1000000000000000) :
    Calls Try.prog 110 #[.int .i64 x, .int .i64 y] w fun e w' => e = .returned (.int .i64 (Int.gcd x y : Nat)) ∧ Below w.heap.size w w' := by
  go_enter Try.func110, Try.ntmps110
  go_wp2_with fail
  go_loopw [0, 1] (fun p q wr => ∃ x' y' : Int, p = .int .i64 x' ∧ q = .int .i64 y' ∧ Hid (Int.gcd x' y' = Int.gcd x y) ∧ x'.natAbs ≤ 1000000000000000 ∧ y'.natAbs ≤ 1000000000000000 ∧ Hid (Below w.heap.size w wr)) (fun _ q _ => (intOf q).natAbs)
  case atStart => exact ⟨x, y, rfl, rfl, Lib.hid rfl, hx, hy, Lib.hid (bSelf w)⟩
  case round =>
    obtain ⟨x', y', rfl, rfl, hg, hx', hy', hb⟩ := hrel
    by_cases h0 : y' = 0
    · subst h0
      go_wp2_with (go_at_call 21; refine (Size_any _ _ (by omega) (by omega)).mono ?_; rintro e w' ⟨rfl, rfl⟩)
      go_ret
      refine ⟨ret_int ?_, hb.out⟩
      rw [← hg.out]
      simp only [Int.gcd_zero_right]
      unfold sizeI
      omega
    · have h0' : (y' == 0) = false := by simpa using h0
      go_wp2_with fail
      refine wp_region_quiet_all (fun w' => Below (World.heap wr).size (wr) w') (by kernel_rfl) (by kernel_rfl) (Below.refl _ _).drew ?_
      refine WQ.out ?_
      repeat (first | (refine WQ_no (by rfl) ?_; (simp only [Act.put, List.setIfInBounds_toArray, List.set_cons_zero, List.set_cons_succ])) | (refine WQ_yes (by rfl) ?_; apply Exists.intro; refine ⟨fun w1 hb1 => ?_, ?_⟩; (focus ((skip; have hb1 := Lib.hid hb1; go_simp); (try (go_bits; try go_simp)); (try (rw [if_pos (by omega)]; try go_simp)); (first | done | (fail) | (with_reducible rfl) | exact rfl))); (simp only [Act.put, List.setIfInBounds_toArray, List.set_cons_zero, List.set_cons_succ])))
      refine WQ_nil ?_
      intro w1 hb1
      have hb2 := Lib.hid (bThen hb.out hb1)
      clear hb1
      have hm : (x'.tmod y').natAbs < y'.natAbs := by rw [Int.natAbs_tmod]; exact Nat.mod_lt _ (by omega)
      go_wp2_with fail
      go_roundw
      case rel => exact ⟨y', x'.tmod y', rfl, rfl, Lib.hid (gcd_step.trans hg.out), hy', by omega, hb2⟩
      case measure => exact hm

set_option maxHeartbeats 800000 in
set_option maxRecDepth 100000 in
theorem Lowest_any (n m : Int) (w : World) (hn : n.natAbs ≤ 1000000000000000) (hm : 0 < m) (hm2 : m ≤ 1000000000000000) :
    Calls Try.prog 66 #[.int .i64 n, .int .i64 m] w fun e w' => e = .returned (.agg #[.int .i64 (fr n m).1, .int .i64 (fr n m).2]) ∧ Below w.heap.size w w' := by
  have h0 : 0 < Int.gcd n m := Nat.pos_of_ne_zero (fun h => by have := (Int.gcd_eq_zero_iff.1 h).2; omega)
  have h1 := @fr_bd1 n m _ hn
  have h2 := @fr_bd2 n m 1000000000000000 (by omega)
  have hD := Lib.hid (fun W => bGcd_any n m W hn (by omega))
  unfold fr at h1 h2 ⊢
  dsimp only at h1 h2 ⊢
  obtain ⟨g, hg⟩ : ∃ g : Int, ((Int.gcd n m : Nat) : Int) = g := ⟨_, rfl⟩
  rw [hg] at h1 h2 hD ⊢
  have hg0 : 0 < g := by omega
  have hg1 : (g == 0) = false := by rw [beq_eq_false_iff_ne]; omega
  have hg2 : ¬ g = 0 := by omega
  have hmn : decide (m < 0) = false := decide_eq_false (by omega)
  clear hg h0
  go_enter Try.func66, Try.ntmps66
  go_wp2_with fail
  refine (hD.out _).mono ?_
  rintro e w1 ⟨rfl, hb⟩
  have K0 : Hid (Blk w1 w.heap.size #[.int .i64 0, .int .i64 0]) := Lib.hid ((Blk.new _ _ _).to hb)
  have HB := Lib.hid (bThen (bAlloc (bSelf w) _) hb)
  clear hb
  go_wp2_with fail
  refine wp_region_quiet_tail 7 (fun w' => Below (World.heap w1).size (w1) w') (by kernel_rfl) (by kernel_rfl) (Below.refl _ _).drew ?_
  simp only [List.take_succ_cons, List.take_zero, List.drop_succ_cons, List.drop_zero]
  refine WQ.out ?_
  repeat (first | (refine WQ_no (by rfl) ?_; (simp only [Act.put, List.setIfInBounds_toArray, List.set_cons_zero, List.set_cons_succ])) | (refine WQ_yes (by rfl) ?_; apply Exists.intro; refine ⟨fun w1 hb1 => ?_, ?_⟩; (focus ((skip; have hb1 := Lib.hid hb1; go_simp); (try (go_bits; try go_simp)); (try (rw [if_pos (by omega)]; try go_simp)); (first | done | (fail) | (with_reducible rfl) | exact rfl))); (simp only [Act.put, List.setIfInBounds_toArray, List.set_cons_zero, List.set_cons_succ])))
  refine WQ_nil ?_
  intro w1 hb1
  replace K0 := Lib.hid (K0.out.to hb1)
  replace HB := Lib.hid (bThen HB.out hb1)
  clear hb1
  obtain ⟨-, k0, f0⟩ := K0.out
  go_wp2_with fail
  have F := (K0.out.set 0 (.int .i64 (n.tdiv g))).set 1 (.int .i64 (m.tdiv g))
  have F0 := F.2.1 0
  have F1 := F.2.1 1
  clear F k0 f0
  refine bodyPost_ret (v := .agg #[.int .i64 (n.tdiv g), .int .i64 (m.tdiv g)]) ?_ rfl ⟨rfl, ?_⟩
  · simp [results, Try.results66, go_sem, F0, F1]
  · exact (HB.out.setCell (p := ⟨w.heap.size, 0, none⟩) (Nat.le_refl _) _).setCell (p := ⟨w.heap.size, 1, none⟩) (Nat.le_refl _) _

/-- Is a fraction in lowest terms, with Den above 0? -/
def lowB (n m : Int) : Bool := decide (0 < m) && ((Int.gcd n m : Nat) : Int) == 1

set_option maxHeartbeats 400000 in
theorem IsLowest_any (n m : Int) (w : World) (hn : n.natAbs ≤ 1000000000000000) (hm : m.natAbs ≤ 1000000000000000) :
    Calls Try.prog 61 #[.agg #[.int .i64 n, .int .i64 m]] w fun e w' => e = .returned (.bool (lowB n m)) ∧ Below w.heap.size w w' := by
  have hD := Lib.hid (fun W => bGcd_any n m W hn hm)
  unfold lowB
  obtain ⟨g, hg⟩ : ∃ g : Int, ((Int.gcd n m : Nat) : Int) = g := ⟨_, rfl⟩
  rw [hg] at hD ⊢
  clear hg
  by_cases h : 0 < m
  · have h1 : decide (0 < m) = true := decide_eq_true h
    rw [h1, Bool.true_and]
    go_enter Try.func61, Try.ntmps61
    go_wp2_with fail
    refine (hD.out _).mono ?_
    rintro e w1 ⟨rfl, hb⟩
    have HB := Lib.hid (bThen (bAlloc (bSelf w) _) hb)
    clear hb
    go_wp2_with fail
    go_ret
    exact ⟨rfl, HB.out⟩
  · have h1 : decide (0 < m) = false := decide_eq_false h
    rw [h1, Bool.false_and]
    go_enter Try.func61, Try.ntmps61
    go_wp2_with fail
    go_ret
    exact ⟨rfl, bAlloc (bSelf w) _⟩

end Go.Proofs.Ytjieojkfpoiabaa

/-
  Contracts: StiffnessOf of package hybrid.
-/
namespace Go.Proofs.Ytjieojkfpoiabaa
open Go.RowKit

/-- The chain's flexibility up to a node: a fraction. -/
def flexP (ks : List Int) : Nat → Int × Int
  | 0 => (0, 1)
  | k + 1 => fr ((flexP ks k).1 * gi ks k + (flexP ks k).2) ((flexP ks k).2 * gi ks k)
structure FlexOk (p q : Int) (k : Nat) : Prop where
  p0 : 0 ≤ p
  p1 : p ≤ k * 20 ^ k
  q0 : 1 ≤ q
  q1 : q ≤ 20 ^ k
theorem fr_le {n m : Int} (hn : 0 ≤ n) : 0 ≤ (fr n m).1 ∧ (fr n m).1 ≤ n := by
  have h1 := @fr_bd1 n m n.natAbs (Nat.le_refl _)
  have h2 : 0 ≤ (fr n m).1 := by unfold fr; exact Int.tdiv_nonneg hn (Int.natCast_nonneg _)
  omega
theorem flex_ok {ks fs : List Int} (h : ChOk ks fs) : ∀ k, k ≤ ks.length → FlexOk (flexP ks k).1 (flexP ks k).2 k
  | 0, _ => ⟨Int.le_refl 0, by simp [flexP], Int.le_refl 1, by simp [flexP]⟩
  | k + 1, hk => by
    obtain ⟨p0, p1, q0, q1⟩ := flex_ok h k (by omega)
    obtain ⟨k0, k1⟩ := h.k1 k (by omega)
    have e : flexP ks (k + 1) = fr ((flexP ks k).1 * gi ks k + (flexP ks k).2) ((flexP ks k).2 * gi ks k) := rfl
    rw [e]
    obtain ⟨p, hp⟩ : ∃ p, (flexP ks k).1 = p := ⟨_, rfl⟩
    obtain ⟨q, hq⟩ : ∃ p, (flexP ks k).2 = p := ⟨_, rfl⟩
    obtain ⟨K, hK⟩ : ∃ K, gi ks k = K := ⟨_, rfl⟩
    rw [hp] at p0 p1 ⊢
    rw [hq] at q0 q1 ⊢
    rw [hK] at k0 k1 ⊢
    have m1 : 0 ≤ p * K := Int.mul_nonneg p0 (by omega)
    have m2 : p * K ≤ p * 20 := Int.mul_le_mul_of_nonneg_left k1 p0
    have m3 : q * K ≤ q * 20 := Int.mul_le_mul_of_nonneg_left k1 (by omega)
    have m4 : 1 * 1 ≤ q * K := Int.mul_le_mul q0 k0 (by omega) (by omega)
    have n1 := fr_le (n := p * K + q) (m := q * K) (by omega)
    have n2 := fr_pos (n := p * K + q) (m := q * K) (by omega)
    have n3 := @fr_bd2 (p * K + q) (q * K) (q * K).natAbs (Nat.le_refl _)
    have e1 : (20 : Int) ^ (k + 1) = 20 ^ k * 20 := Int.pow_succ ..
    have e2 : ((k + 1 : Nat) : Int) * 20 ^ (k + 1) = (k : Int) * 20 ^ k * 20 + 20 ^ k * 20 := by
      rw [e1, Int.natCast_add, Int.add_mul]
      simp [Int.mul_assoc]
    have e3 : (0 : Int) < 20 ^ k := Int.pow_pos (by decide)
    refine ⟨n1.1, ?_, by omega, ?_⟩
    · rw [e2]; omega
    · rw [e1]; omega
theorem flex_bd {ks fs : List Int} (h : ChOk ks fs) {k : Nat} (hk : k ≤ ks.length) : 0 ≤ (flexP ks k).1 ∧ (flexP ks k).1 ≤ 384000000 ∧ 1 ≤ (flexP ks k).2 ∧ (flexP ks k).2 ≤ 64000000 := by
  obtain ⟨p0, p1, q0, q1⟩ := flex_ok h k hk
  have hk6 : k ≤ 6 := Nat.le_trans hk h.few
  rcases (by omega : k = 0 ∨ k = 1 ∨ k = 2 ∨ k = 3 ∨ k = 4 ∨ k = 5 ∨ k = 6) with rfl | rfl | rfl | rfl | rfl | rfl | rfl <;> simp at p1 q1 <;> omega

set_option maxHeartbeats 1600000 in
set_option maxRecDepth 100000 in
theorem StiffnessOf_ok (ks fs : List Int) (a1 a2 : Option Addr) (c1 c2 : Nat) (w : World) (h1 : ks.length ≤ 1000) (hr1 : Reads w a1 ks.length (ints ks)) (hr2 : Reads w a2 fs.length (ints fs)) (he : (chkC ks fs).2 = 0) :
    Calls Try.prog 52 #[.agg (chV a1 ks.length c1 a2 fs.length c2)] w fun e w' => e = .returned (.tuple #[.agg #[.int .i64 (flexP ks ks.length).2, .int .i64 (flexP ks ks.length).1], .int .i64 0]) ∧ Below w.heap.size w w' := by
  have HR1 := Lib.hid hr1
  have HR2 := Lib.hid hr2
  have HC := Lib.hid (fun W h3 h4 => chainErr_any ks fs a1 a2 c1 c2 W h1 h3 h4)
  rw [he] at HC
  have hok := chkC_zero he
  have HOK := Lib.hid hok
  have hn6 := hok.few
  clear hr1 hr2 he hok
  go_enter Try.func52, Try.ntmps52
  go_wp2_with fail
  refine (HC.out _ ((HR1.out.alloc _).alloc _) ((HR2.out.alloc _).alloc _)).mono ?_
  rintro e w1 ⟨rfl, hb⟩
  have K0 := Lib.hid (((Blk.new w (chV a1 ks.length c1 a2 fs.length c2) 73).alloc (.cells #[.int .i64 0, .int .i64 0] 86)).to hb)
  have K1 := Lib.hid ((Blk.newAt (B := w.heap.size + 1) (w.alloc (.cells (chV a1 ks.length c1 a2 fs.length c2) 73)) #[.int .i64 0, .int .i64 0] 86 (by simp)).to hb)
  have HB := Lib.hid (bThen (bAlloc (bAlloc (bSelf w) _) _) hb)
  clear hb
  go_upto_region 5 with (fail)
  obtain ⟨w2, hw2⟩ : ∃ w2, w1.alloc (.cells #[.int .i64 0, .int .i64 1] 86) = w2 := ⟨_, rfl⟩
  rw [hw2]
  have hb : Below w1.heap.size w1 w2 := by subst hw2; exact bAlloc (bSelf w1) _
  have K5 : Hid (Blk w2 w1.heap.size #[.int .i64 (flexP ks 0).1, .int .i64 (flexP ks 0).2]) := by subst hw2; exact Lib.hid (Blk.new w1 #[.int .i64 0, .int .i64 1] 86)
  have hsz : w.heap.size + 2 ≤ w1.heap.size := K1.out.1
  replace K0 := Lib.hid (K0.out.to hb)
  replace K1 := Lib.hid (K1.out.to hb)
  replace HB := Lib.hid (bThen HB.out hb)
  clear hb hw2
  obtain ⟨B5, hB5⟩ : ∃ b, w1.heap.size = b := ⟨_, rfl⟩
  rw [hB5] at K5 hsz ⊢
  clear hB5
  obtain ⟨-, k0, -⟩ := K0.out
  go_wp2_with fail
  clear k0
  go_loopw [18] (fun v wr => ∃ k : Nat, k ≤ ks.length ∧ v = .int .i64 k ∧ Hid (Blk wr B5 #[.int .i64 (flexP ks k).1, .int .i64 (flexP ks k).2]) ∧ Hid (Blk wr (w.heap.size + 1) #[.int .i64 0, .int .i64 0]) ∧ Hid (Below w.heap.size w wr)) (fun v _ => ks.length - (intOf v).toNat)
  case atStart => exact ⟨0, Nat.zero_le _, rfl, K5, K1, HB⟩
  case round =>
    obtain ⟨k, hk, rfl, k5, k1, hbel⟩ := hrel
    by_cases hlt : k < ks.length
    · have hltI : decide ((k : Int) < (ks.length : Int)) = true := decide_eq_true (by omega)
      obtain ⟨b, off, rfl, hb', hc'⟩ := HR1.out.at (k := k) hlt
      have kc : wr.cell? ⟨b, off + k, none⟩ = some (.int .i64 (gi ks k)) := (hbel.out.cell (p := ⟨b, off + k, none⟩) hb').trans (hc' k hlt)
      obtain ⟨g1, g2⟩ := HOK.out.k1 k hlt
      obtain ⟨p0, p1, q0, q1⟩ := flex_bd HOK.out (k := k) (by omega)
      have HE : Hid (flexP ks (k + 1) = fr ((flexP ks k).1 * gi ks k + (flexP ks k).2) ((flexP ks k).2 * gi ks k)) := Lib.hid rfl
      obtain ⟨p, hp⟩ : ∃ p, (flexP ks k).1 = p := ⟨_, rfl⟩
      obtain ⟨q, hq⟩ : ∃ p, (flexP ks k).2 = p := ⟨_, rfl⟩
      obtain ⟨K, hK⟩ : ∃ K, gi ks k = K := ⟨_, rfl⟩
      rw [hp] at p0 p1 HE k5
      rw [hq] at q0 q1 HE k5
      rw [hK] at g1 g2 HE kc
      have m1 := mul_bd (a := p) (b := K) (A := 384000000) (B := 20) (by omega) p1 (by omega) g2
      have m2 := mul_bd (a := q) (b := K) (A := 64000000) (B := 20) (by omega) q1 (by omega) g2
      obtain ⟨m11, m12⟩ := m1
      obtain ⟨m21, m22⟩ := m2
      have m3 : 1 * 1 ≤ q * K := Int.mul_le_mul q0 g1 (by omega) (by omega)
      have HF := Lib.hid (fun W => fraction_any (p * K + q) (q * K) W (by omega) (by omega) (by omega))
      obtain ⟨f1, hf1⟩ : ∃ f, (fr (p * K + q) (q * K)).1 = f := ⟨_, rfl⟩
      obtain ⟨f2, hf2⟩ : ∃ f, (fr (p * K + q) (q * K)).2 = f := ⟨_, rfl⟩
      rw [hf1, hf2] at HF
      have HF1 := Lib.hid hf1
      have HF2 := Lib.hid hf2
      clear hc' hp hq hK hf1 hf2 m3
      obtain ⟨-, k5c, -⟩ := k5.out
      go_wp2_with fail
      refine (HF.out _).mono ?_
      rintro e w3 ⟨rfl, hb⟩
      replace k5 := Lib.hid (k5.out.to hb)
      replace k1 := Lib.hid (k1.out.to hb)
      replace hbel := Lib.hid (bThen hbel.out hb)
      clear hb kc k5c
      obtain ⟨h5, k5c, f5⟩ := k5.out
      go_wp2_with fail
      go_roundw
      case rel =>
        refine ⟨k + 1, by omega, by go_num, Lib.hid ?_, Lib.hid ((k1.out.other (p := ⟨B5, 0, none⟩) (by dsimp only; omega) _).other (p := ⟨B5, 1, none⟩) (by dsimp only; omega) _), Lib.hid ((hbel.out.setCell (p := ⟨B5, 0, none⟩) (by dsimp only; omega) _).setCell (p := ⟨B5, 1, none⟩) (by dsimp only; omega) _)⟩
        rw [HE.out, HF1.out, HF2.out]
        exact (k5.out.set 0 _).set 1 _
      case measure => simp [intOf]; omega
    · have hke : k = ks.length := by omega
      have hltI : decide ((k : Int) < (ks.length : Int)) = false := decide_eq_false (by omega)
      have hltN : decide (k < ks.length) = false := decide_eq_false hlt
      have HKE := Lib.hid hke
      obtain ⟨p, hp⟩ : ∃ p, (flexP ks k).1 = p := ⟨_, rfl⟩
      obtain ⟨q, hq⟩ : ∃ p, (flexP ks k).2 = p := ⟨_, rfl⟩
      rw [hp, hq] at k5
      have HPQ := Lib.hid (And.intro hp hq)
      clear hke hp hq
      obtain ⟨-, k5c, -⟩ := k5.out
      obtain ⟨h1', k1c, f1⟩ := k1.out
      go_wp2_with fail
      clear k5c k1c f1
      have F := ((k1.out.set 0 (.int .i64 q)).set 1 (.int .i64 p)).2.1
      have F0 := F 0; have F1 := F 1
      clear F
      refine bodyPost_ret (v := .tuple #[.agg #[.int .i64 q, .int .i64 p], .int .i64 0]) ?_ rfl ⟨?_, ?_⟩
      · simp [results, Try.results52, go_sem, F0, F1]
      · rw [← HKE.out, HPQ.out.1, HPQ.out.2]
      · exact (hbel.out.setCell (p := ⟨w.heap.size + 1, 0, none⟩) (by dsimp only; omega) _).setCell (p := ⟨w.heap.size + 1, 1, none⟩) (by dsimp only; omega) _

set_option maxHeartbeats 400000 in
theorem StiffnessOf_err (ks fs : List Int) (a1 a2 : Option Addr) (c1 c2 : Nat) (w : World) (h1 : ks.length ≤ 1000) (hr1 : Reads w a1 ks.length (ints ks)) (hr2 : Reads w a2 fs.length (ints fs)) (he : (chkC ks fs).2 ≠ 0) :
    Calls Try.prog 52 #[.agg (chV a1 ks.length c1 a2 fs.length c2)] w fun e w' => e = .returned (.tuple #[.agg #[.int .i64 0, .int .i64 0], .int .i64 (chkC ks fs).2]) ∧ Below w.heap.size w w' := by
  have HR1 := Lib.hid hr1
  have HR2 := Lib.hid hr2
  have HC := Lib.hid (fun W h3 h4 => chainErr_any ks fs a1 a2 c1 c2 W h1 h3 h4)
  obtain ⟨ce, hce⟩ : ∃ ce, (chkC ks fs).2 = ce := ⟨_, rfl⟩
  rw [hce] at he HC ⊢
  have hc1 : (ce != 0) = true := by simpa using he
  clear hr1 hr2 he hce
  go_enter Try.func52, Try.ntmps52
  go_wp2_with fail
  refine (HC.out _ ((HR1.out.alloc _).alloc _) ((HR2.out.alloc _).alloc _)).mono ?_
  rintro e w1 ⟨rfl, hb⟩
  have K1 := Lib.hid ((Blk.newAt (B := w.heap.size + 1) (w.alloc (.cells (chV a1 ks.length c1 a2 fs.length c2) 73)) #[.int .i64 0, .int .i64 0] 86 (by simp)).to hb)
  have HB := Lib.hid (bThen (bAlloc (bAlloc (bSelf w) _) _) hb)
  clear hb
  obtain ⟨h1', k1c, f1⟩ := K1.out
  go_wp2_with fail
  clear k1c f1
  have F := ((K1.out.set 0 (.int .i64 0)).set 1 (.int .i64 0)).2.1
  have F0 := F 0; have F1 := F 1
  clear F
  refine bodyPost_ret (v := .tuple #[.agg #[.int .i64 0, .int .i64 0], .int .i64 ce]) ?_ rfl ⟨rfl, ?_⟩
  · simp [results, Try.results52, go_sem, F0, F1]
  · exact (HB.out.setCell (p := ⟨w.heap.size + 1, 0, none⟩) (by dsimp only; omega) _).setCell (p := ⟨w.heap.size + 1, 1, none⟩) (by dsimp only; omega) _

end Go.Proofs.Ytjieojkfpoiabaa

/-
  Contracts of the reference of chains: Above.
-/
namespace Go.Proofs.Ytjieojkfpoiabaa
open Go.RowKit

/-- The sum of the forces from a node on, up to another. -/
def upTo (fs : List Int) (n : Nat) : Nat → Int
  | 0 => 0
  | j + 1 => upTo fs n j + gi fs (n + j)
theorem upTo_bd {fs : List Int} (hf : ∀ k, k < fs.length → -1000 ≤ gi fs k ∧ gi fs k ≤ 1000) (n : Nat) : ∀ j, n + j ≤ fs.length → -(1000 * (j : Int)) ≤ upTo fs n j ∧ upTo fs n j ≤ 1000 * (j : Int)
  | 0, _ => by simp [upTo]
  | j + 1, h => by
    have h1 := upTo_bd hf n j (by omega)
    have h2 := hf (n + j) (by omega)
    unfold upTo
    omega

set_option maxHeartbeats 400000 in
set_option maxRecDepth 100000 in
theorem Above_any (fs : List Int) (a1 a2 : Option Addr) (n1 c1 c2 : Nat) (n : Nat) (node : Int) (w : World) (hn : node + 1 = n) (hl : fs.length ≤ 1000) (hnl : n ≤ fs.length) (hf : ∀ k, k < fs.length → -1000 ≤ gi fs k ∧ gi fs k ≤ 1000) (hr2 : Reads w a2 fs.length (ints fs)) :
    Calls Try.prog 111 #[.agg (chV a1 n1 c1 a2 fs.length c2), .int .i64 node] w fun e w' => e = .returned (.int .i64 (upTo fs n (fs.length - n))) ∧ Below w.heap.size w w' := by
  have HR2 := Lib.hid hr2
  have HF := Lib.hid hf
  clear hr2 hf
  go_enter Try.func111, Try.ntmps111
  go_wp2_with fail
  obtain ⟨w1, hw1⟩ : ∃ w1, w.alloc (.cells (chV a1 n1 c1 a2 fs.length c2) 73) = w1 := ⟨_, rfl⟩
  rw [hw1]
  have K0 : Hid (Blk w1 w.heap.size (chV a1 n1 c1 a2 fs.length c2)) := by subst hw1; exact Lib.hid (Blk.new _ _ _)
  have HB : Hid (Below w.heap.size w w1) := by subst hw1; exact Lib.hid (bAlloc (bSelf w) _)
  clear hw1
  go_loopw [5, 6] (fun tv iv wr => ∃ (i j : Nat) (t : Int), iv = .int .i64 i ∧ tv = .int .i64 t ∧ i ≤ fs.length ∧ Hid (n + j = i) ∧ Hid (t = upTo fs n j) ∧ -(1000 * (i : Int)) ≤ t ∧ t ≤ 1000 * (i : Int) ∧ Hid (w1 = wr)) (fun _ iv _ => fs.length - (intOf iv).toNat)
  case atStart => exact ⟨n, 0, 0, rfl, rfl, hnl, Lib.hid rfl, Lib.hid rfl, by omega, by omega, Lib.hid rfl⟩
  case round =>
    obtain ⟨i, j, t, rfl, rfl, hi, hj, ht, t1, t2, hw⟩ := hrel
    replace K0 := Lib.hid (show Blk _ _ _ from hw.out ▸ K0.out)
    replace HB := Lib.hid (show Below _ _ _ from hw.out ▸ HB.out)
    obtain ⟨-, k0, -⟩ := K0.out
    by_cases hlt : i < fs.length
    · have hltI : decide ((i : Int) < (fs.length : Int)) = true := decide_eq_true (by omega)
      obtain ⟨b, off, rfl, hb', hc'⟩ := HR2.out.at (k := i) hlt
      have kc : wr.cell? ⟨b, off + i, none⟩ = some (.int .i64 (gi fs i)) := (HB.out.cell (p := ⟨b, off + i, none⟩) hb').trans (hc' i hlt)
      obtain ⟨g1, g2⟩ := HF.out i hlt
      have HU : Hid (upTo fs n (j + 1) = upTo fs n j + gi fs i) := Lib.hid (by rw [← hj.out]; rfl)
      obtain ⟨x, hx⟩ : ∃ x, gi fs i = x := ⟨_, rfl⟩
      rw [hx] at kc g1 g2 HU
      clear hc' hx
      go_wp2_with fail
      go_roundw
      case rel => exact ⟨i + 1, j + 1, t + x, by go_num, rfl, by omega, Lib.hid (by have := hj.out; omega), Lib.hid (by rw [HU.out, ht.out]), by omega, by omega, hw⟩
      case measure => simp [intOf]; omega
    · have hltI : decide ((i : Int) < (fs.length : Int)) = false := decide_eq_false (by omega)
      have HE := Lib.hid (show fs.length - n = j by have := hj.out; omega)
      go_wp2_with fail
      go_ret
      exact ⟨ret_int (by rw [ht.out, HE.out]), HB.out⟩

end Go.Proofs.Ytjieojkfpoiabaa

