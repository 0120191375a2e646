/-
  Texts of this claim, in their build order: Y3.
-/
import Derived.Test.YtbpcapcgbnbknaaGreatOne17
import Derived.Test.YtbpcapcgbnbknaaGreatOne0

namespace Go.Proofs.YtbpcapcgbnbknaaGreat
section
set_option maxRecDepth 100000
set_option maxHeartbeats 1600000
open Go.RowKit

theorem dg_mul {x y : Int} : (dg (x * y)).length ≤ (dg x).length + (dg y).length := by
  have e1 : (x * y).natAbs = x.natAbs * y.natAbs := Int.natAbs_mul ..
  have h : ∀ z : Int, z.natAbs < 1000000000 ^ (dg z).length := fun z => by
    have e2 := val_lt (dg_dig z)
    rw [val_dg] at e2
    have e : ((1000000000 ^ (dg z).length : Nat) : Int) = 1000000000 ^ (dg z).length := by simp
    rw [← e] at e2
    omega
  refine digs_len _ _ ?_
  rw [e1, Nat.pow_add]
  exact Nat.mul_lt_mul'' (h x) (h y)
theorem dg_add {x y : Int} {n : Nat} (hx : (dg x).length ≤ n) (hy : (dg y).length ≤ n) : (dg (x + y)).length ≤ n + 1 := by
  have h : ∀ z : Int, (dg z).length ≤ n → z.natAbs < 1000000000 ^ n := fun z hz => by
    have e2 := val_lt (dg_dig z)
    rw [val_dg] at e2
    have e : ((1000000000 ^ (dg z).length : Nat) : Int) = 1000000000 ^ (dg z).length := by simp
    rw [← e] at e2
    have h3 : (1000000000 : Nat) ^ (dg z).length ≤ 1000000000 ^ n := Nat.pow_le_pow_right (by decide) hz
    omega
  have h1 := h x hx
  have h2 := h y hy
  refine digs_len _ _ ?_
  rw [Nat.pow_succ]
  have : (1000000000 : Nat) ^ n * 1000000000 = 1000000000 ^ n + 999999999 * 1000000000 ^ n := by omega
  omega
theorem dg_small {z : Int} (k : Nat) (h : z.natAbs < 1000000000 ^ k) : (dg z).length ≤ k := digs_len k _ h

theorem RR.mk' {W : World} {a1 a2 : Option Addr} {s1 s2 : Int} {n1 c1 n2 c2 : Nat} {x y : Int} (h1 : RW W a1 (.agg #[.int .i64 s1, .slice a1 n1 c1]) x) (h2 : RW W a2 (.agg #[.int .i64 s2, .slice a2 n2 c2]) y) : RR W a1 a2 (.agg #[.int .i64 s1, .slice a1 n1 c1, .int .i64 s2, .slice a2 n2 c2]) (x, y) := ⟨s1, n1, c1, s2, n2, c2, rfl, h1, h2⟩
theorem RR.ex {W : World} {a1 a2 : Option Addr} {v : Value} {q : Int × Int} (h : RR W a1 a2 v q) : ∃ s1 n1 c1 s2 n2 c2, v = .agg #[.int .i64 s1, .slice a1 n1 c1, .int .i64 s2, .slice a2 n2 c2] ∧ RW W a1 (.agg #[.int .i64 s1, .slice a1 n1 c1]) q.1 ∧ RW W a2 (.agg #[.int .i64 s2, .slice a2 n2 c2]) q.2 := h

theorem RatioInt_any (n : Int) (w : World) (h1 : -9223372036854775808 ≤ n) (h2 : n ≤ 9223372036854775807) :
    Calls Tryz.prog 77 #[.int .i64 n] w fun e w1 => RPost [] (n, 1) w e w1 := by
  have HN := zH (fun W => WideOf_any n W h1 h2)
  have HO := zH (fun W => WideOf_any 1 W (by omega) (by omega))
  clear h1 h2
  go_enter Tryz.func77, Tryz.ntmps77
  go_wp2_with fail
  obtain ⟨w3, hw3⟩ : ∃ w3, w.alloc (.cells #[.int .i64 0, .slice none 0 0, .int .i64 0, .slice none 0 0] 65) = w3 := ⟨_, rfl⟩
  rw [hw3]
  have K2 : Hid (Blk w3 w.heap.size #[.int .i64 0, .slice none 0 0, .int .i64 0, .slice none 0 0]) := by subst hw3; exact zH (Blk.new _ _ _)
  have HB : Hid (Below w.heap.size w w3) := by subst hw3; exact zH (bAlloc (bSelf w) _)
  clear hw3
  have hs3 : w.heap.size < w3.heap.size := K2.out.1
  refine (HN.out _).mono ?_
  rintro e w4 ⟨a1, v1, rfl, hv1, hb, hl1⟩
  have HV1 := zH hv1
  have HL1 := zH (fun (P : Nat → Prop) (h : ∀ b, w3.heap.size ≤ b → P b) => hl1 P h (fun i hi => by cases hi))
  replace K2 := zH (K2.out.to hb)
  replace HB := zH (bThen HB.out hb)
  have hs4 := hb.size
  clear hb hl1
  obtain ⟨s1, n1, c1, rfl⟩ := hv1.ex
  clear hv1
  go_wp2_with fail
  refine (HO.out _).mono ?_
  rintro e w5 ⟨a2, v2, rfl, hv2, hb, hl2⟩
  have HV2 := zH hv2
  have HL2 := zH (fun (P : Nat → Prop) (h : ∀ b, w3.heap.size ≤ b → P b) => hl2 P (fun b hb => h b (by omega)) (fun i hi => by cases hi))
  replace K2 := zH (K2.out.to hb)
  replace HB := zH (bThen HB.out hb)
  replace HV1 := zH (HV1.out.to hb)
  clear hb hl2
  obtain ⟨s2, n2, c2, rfl⟩ := hv2.ex
  clear hv2
  obtain ⟨hk2, k2, f2⟩ := K2.out
  go_wp2_with fail
  clear k2 f2
  have FF := ((((K2.out.set 0 (.int .i64 s1)).set 1 (.slice a1 n1 c1)).set 2 (.int .i64 s2)).set 3 (.slice a2 n2 c2)).2.1
  have F0 := FF 0; have F1 := FF 1; have F2 := FF 2; have F3 := FF 3
  clear FF
  have HP : Hid (∀ (w' : World) (e : Ending), w' = ((((w5.setCell ⟨w.heap.size, 0, none⟩ (.int .i64 s1)).setCell ⟨w.heap.size, 1, none⟩ (.slice a1 n1 c1)).setCell ⟨w.heap.size, 2, none⟩ (.int .i64 s2)).setCell ⟨w.heap.size, 3, none⟩ (.slice a2 n2 c2)) → e = .returned (.agg #[.int .i64 s1, .slice a1 n1 c1, .int .i64 s2, .slice a2 n2 c2]) → RPost [] (n, 1) w e w') := zH (fun w' e hw he => by
    subst hw
    refine ⟨a1, a2, _, he, ((((RR.mk' HV1.out HV2.out).set1 ?_ ?_ _).set1 ?_ ?_ _).set1 ?_ ?_ _).set1 ?_ ?_ _, ?_, fun P hf _ => ⟨HL1.out P (fun b hb => hf b (by omega)), HL2.out P (fun b hb => hf b (by omega))⟩⟩
    · exact HL1.out _ (fun b hb => by omega)
    · exact HL2.out _ (fun b hb => by omega)
    · exact HL1.out _ (fun b hb => by omega)
    · exact HL2.out _ (fun b hb => by omega)
    · exact HL1.out _ (fun b hb => by omega)
    · exact HL2.out _ (fun b hb => by omega)
    · exact HL1.out _ (fun b hb => by omega)
    · exact HL2.out _ (fun b hb => by omega)
    · exact ((((HB.out.setCell (p := ⟨w.heap.size, 0, none⟩) (by dsimp only; omega) _).setCell (p := ⟨w.heap.size, 1, none⟩) (by dsimp only; omega) _).setCell (p := ⟨w.heap.size, 2, none⟩) (by dsimp only; omega) _).setCell (p := ⟨w.heap.size, 3, none⟩) (by dsimp only; omega) _))
  refine bodyPost_ret (v := .agg #[.int .i64 s1, .slice a1 n1 c1, .int .i64 s2, .slice a2 n2 c2]) ?_ rfl (HP.out _ _ rfl rfl)
  simp [results, Tryz.results77, go_sem, F0, F1, F2, F3]

theorem RatioOf_any (n m : Int) (w : World) (h1 : -9223372036854775808 ≤ n) (h2 : n ≤ 9223372036854775807) (h3 : 0 < m) (h4 : m ≤ 9223372036854775807) :
    Calls Tryz.prog 96 #[.int .i64 n, .int .i64 m] w fun e w1 => RPost [] (fr n m) w e w1 := by
  have HN := zH (fun W => WideOf_any n W h1 h2)
  have HO := zH (fun W => WideOf_any m W (by omega) h4)
  have HM := zH (fun W a1 a2 v1 v2 (h5 : RW W a1 v1 n) (h6 : RW W a2 v2 m) => RatioMake_any n m a1 a2 v1 v2 W h5 h6 (Nat.le_trans (dg_small 3 (by omega)) (by decide)) (Nat.le_trans (dg_small 3 (by omega)) (by decide)) h3)
  clear h1 h2 h3 h4
  go_enter Tryz.func96, Tryz.ntmps96
  go_wp2_with fail
  obtain ⟨w3, hw3⟩ : ∃ w3, w.alloc (.cells #[.int .i64 0, .slice none 0 0, .int .i64 0, .slice none 0 0] 65) = w3 := ⟨_, rfl⟩
  rw [hw3]
  have K2 : Hid (Blk w3 w.heap.size #[.int .i64 0, .slice none 0 0, .int .i64 0, .slice none 0 0]) := by subst hw3; exact zH (Blk.new _ _ _)
  have HB : Hid (Below w.heap.size w w3) := by subst hw3; exact zH (bAlloc (bSelf w) _)
  clear hw3
  have hs3 : w.heap.size < w3.heap.size := K2.out.1
  refine (HN.out _).mono ?_
  rintro e w4 ⟨a1, v1, rfl, hv1, hb, hl1⟩
  have HV1 := zH hv1
  have HL1 := zH (fun (P : Nat → Prop) (h : ∀ b, w3.heap.size ≤ b → P b) => hl1 P h (fun i hi => by cases hi))
  replace K2 := zH (K2.out.to hb)
  replace HB := zH (bThen HB.out hb)
  have hs4 := hb.size
  clear hb hl1 hv1
  go_wp2_with fail
  refine (HO.out _).mono ?_
  rintro e w5 ⟨a2, v2, rfl, hv2, hb, hl2⟩
  have HV2 := zH hv2
  have HL2 := zH (fun (P : Nat → Prop) (h : ∀ b, w3.heap.size ≤ b → P b) => hl2 P (fun b hb => h b (by omega)) (fun i hi => by cases hi))
  replace K2 := zH (K2.out.to hb)
  replace HB := zH (bThen HB.out hb)
  replace HV1 := zH (HV1.out.to hb)
  have hs5 := hb.size
  clear hb hl2 hv2
  go_wp2_with fail
  refine (HM.out _ _ _ _ _ HV1.out HV2.out).mono ?_
  rintro e w6 ⟨b1, b2, v6, rfl, hv6, hb, hl6⟩
  have HV6 := zH hv6
  have HL6 := zH (fun (P : Nat → Prop) (h : ∀ b, w3.heap.size ≤ b → P b) => hl6 P (fun b hb => h b (by omega)) (fun i hi => by
    simp only [List.mem_cons, List.not_mem_nil, or_false] at hi
    rcases hi with rfl | rfl
    · exact HL1.out P h
    · exact HL2.out P h))
  replace K2 := zH (K2.out.to hb)
  replace HB := zH (bThen HB.out hb)
  clear hb hl6
  obtain ⟨s1, n1, c1, s2, n2, c2, rfl, -, -⟩ := hv6
  obtain ⟨hk2, k2, f2⟩ := K2.out
  go_wp2_with fail
  clear k2 f2
  have FF := ((((K2.out.set 0 (.int .i64 s1)).set 1 (.slice b1 n1 c1)).set 2 (.int .i64 s2)).set 3 (.slice b2 n2 c2)).2.1
  have F0 := FF 0; have F1 := FF 1; have F2 := FF 2; have F3 := FF 3
  clear FF
  have HP : Hid (∀ (w' : World) (e : Ending), w' = ((((w6.setCell ⟨w.heap.size, 0, none⟩ (.int .i64 s1)).setCell ⟨w.heap.size, 1, none⟩ (.slice b1 n1 c1)).setCell ⟨w.heap.size, 2, none⟩ (.int .i64 s2)).setCell ⟨w.heap.size, 3, none⟩ (.slice b2 n2 c2)) → e = .returned (.agg #[.int .i64 s1, .slice b1 n1 c1, .int .i64 s2, .slice b2 n2 c2]) → RPost [] (fr n m) w e w') := zH (fun w' e hw he => by
    subst hw
    refine ⟨b1, b2, _, he, (((HV6.out.set1 ?_ ?_ _).set1 ?_ ?_ _).set1 ?_ ?_ _).set1 ?_ ?_ _, ?_, fun P hf _ => HL6.out P (fun b hb => hf b (by omega))⟩
    · exact (HL6.out _ (fun b hb => by omega)).1
    · exact (HL6.out _ (fun b hb => by omega)).2
    · exact (HL6.out _ (fun b hb => by omega)).1
    · exact (HL6.out _ (fun b hb => by omega)).2
    · exact (HL6.out _ (fun b hb => by omega)).1
    · exact (HL6.out _ (fun b hb => by omega)).2
    · exact (HL6.out _ (fun b hb => by omega)).1
    · exact (HL6.out _ (fun b hb => by omega)).2
    · exact ((((HB.out.setCell (p := ⟨w.heap.size, 0, none⟩) (by dsimp only; omega) _).setCell (p := ⟨w.heap.size, 1, none⟩) (by dsimp only; omega) _).setCell (p := ⟨w.heap.size, 2, none⟩) (by dsimp only; omega) _).setCell (p := ⟨w.heap.size, 3, none⟩) (by dsimp only; omega) _))
  refine bodyPost_ret (v := .agg #[.int .i64 s1, .slice b1 n1 c1, .int .i64 s2, .slice b2 n2 c2]) ?_ rfl (HP.out _ _ rfl rfl)
  simp [results, Tryz.results96, go_sem, F0, F1, F2, F3]

theorem RatioFrom_any (n m : Int) (w : World) (h1 : -9223372036854775808 ≤ n) (h2 : n ≤ 9223372036854775807) (h3 : 0 < m) (h4 : m ≤ 9223372036854775807) :
    Calls Tryz.prog 34 #[.agg #[.int .i64 n, .int .i64 m]] w fun e w1 => RPost [] (fr n m) w e w1 := by
  have HN := zH (fun W => RatioOf_any n m W h1 h2 h3 h4)
  clear h1 h2 h3 h4
  go_enter Tryz.func34, Tryz.ntmps34
  go_wp2_with fail
  obtain ⟨w3, hw3⟩ : ∃ w3, (w.alloc (.cells #[.int .i64 n, .int .i64 m] 77)).alloc (.cells #[.int .i64 0, .slice none 0 0, .int .i64 0, .slice none 0 0] 65) = w3 := ⟨_, rfl⟩
  rw [hw3]
  have K2 : Hid (Blk w3 (w.heap.size + 1) #[.int .i64 0, .slice none 0 0, .int .i64 0, .slice none 0 0]) := by subst hw3; exact zH (Blk.newAt _ _ _ (by simp))
  have HB : Hid (Below w.heap.size w w3) := by subst hw3; exact zH (bAlloc (bAlloc (bSelf w) _) _)
  clear hw3
  have hs3 : w.heap.size + 1 < w3.heap.size := K2.out.1
  refine (HN.out _).mono ?_
  rintro e w6 ⟨b1, b2, v6, rfl, hv6, hb, hl6⟩
  have HV6 := zH hv6
  have HL6 := zH (fun (P : Nat → Prop) (h : ∀ b, w3.heap.size ≤ b → P b) => hl6 P h (fun i hi => by cases hi))
  replace K2 := zH (K2.out.to hb)
  replace HB := zH (bThen HB.out hb)
  clear hb hl6
  obtain ⟨s1, n1, c1, s2, n2, c2, rfl, -, -⟩ := hv6
  obtain ⟨hk2, k2, f2⟩ := K2.out
  go_wp2_with fail
  clear k2 f2
  have FF := ((((K2.out.set 0 (.int .i64 s1)).set 1 (.slice b1 n1 c1)).set 2 (.int .i64 s2)).set 3 (.slice b2 n2 c2)).2.1
  have F0 := FF 0; have F1 := FF 1; have F2 := FF 2; have F3 := FF 3
  clear FF
  have HP : Hid (∀ (w' : World) (e : Ending), w' = ((((w6.setCell ⟨w.heap.size + 1, 0, none⟩ (.int .i64 s1)).setCell ⟨w.heap.size + 1, 1, none⟩ (.slice b1 n1 c1)).setCell ⟨w.heap.size + 1, 2, none⟩ (.int .i64 s2)).setCell ⟨w.heap.size + 1, 3, none⟩ (.slice b2 n2 c2)) → e = .returned (.agg #[.int .i64 s1, .slice b1 n1 c1, .int .i64 s2, .slice b2 n2 c2]) → RPost [] (fr n m) w e w') := zH (fun w' e hw he => by
    subst hw
    refine ⟨b1, b2, _, he, (((HV6.out.set1 ?_ ?_ _).set1 ?_ ?_ _).set1 ?_ ?_ _).set1 ?_ ?_ _, ?_, fun P hf _ => HL6.out P (fun b hb => hf b (by omega))⟩
    · exact (HL6.out _ (fun b hb => by omega)).1
    · exact (HL6.out _ (fun b hb => by omega)).2
    · exact (HL6.out _ (fun b hb => by omega)).1
    · exact (HL6.out _ (fun b hb => by omega)).2
    · exact (HL6.out _ (fun b hb => by omega)).1
    · exact (HL6.out _ (fun b hb => by omega)).2
    · exact (HL6.out _ (fun b hb => by omega)).1
    · exact (HL6.out _ (fun b hb => by omega)).2
    · exact ((((HB.out.setCell (p := ⟨w.heap.size + 1, 0, none⟩) (by dsimp only; omega) _).setCell (p := ⟨w.heap.size + 1, 1, none⟩) (by dsimp only; omega) _).setCell (p := ⟨w.heap.size + 1, 2, none⟩) (by dsimp only; omega) _).setCell (p := ⟨w.heap.size + 1, 3, none⟩) (by dsimp only; omega) _))
  refine bodyPost_ret (v := .agg #[.int .i64 s1, .slice b1 n1 c1, .int .i64 s2, .slice b2 n2 c2]) ?_ rfl (HP.out _ _ rfl rfl)
  simp [results, Tryz.results34, go_sem, F0, F1, F2, F3]

theorem RatioAdd_any (p q : Int × Int) (a1 a2 b1 b2 : Option Addr) (v1 v2 : Value) (w : World) (h1 : RR w a1 a2 v1 p) (h2 : RR w b1 b2 v2 q) (l1 : (dg p.1).length ≤ 20) (l2 : (dg p.2).length ≤ 20) (l3 : (dg q.1).length ≤ 20) (l4 : (dg q.2).length ≤ 20) (hp : 0 < p.2) (hq : 0 < q.2) :
    Calls Tryz.prog 120 #[v1, v2] w fun e w1 => RPost [] (rAdd p q) w e w1 := by
  obtain ⟨s1, n1, c1, s2, n2, c2, rfl, P1, P2⟩ := h1.ex
  obtain ⟨s3, n3, c3, s4, n4, c4, rfl, Q1, Q2⟩ := h2.ex
  obtain ⟨p1, p2⟩ := p
  obtain ⟨q1, q2⟩ := q
  dsimp only at P1 P2 Q1 Q2 l1 l2 l3 l4 hp hq
  have hx4 : (dg (p1 * q2)).length ≤ 40 := Nat.le_trans dg_mul (by omega)
  have hy4 : (dg (q1 * p2)).length ≤ 40 := Nat.le_trans dg_mul (by omega)
  have HM1 := zH (fun W (hb : Below w.heap.size w W) => WideMul_any p1 q2 a1 b2 _ _ W (P1.to hb) (Q2.to hb) (by omega) (by omega))
  have HM2 := zH (fun W (hb : Below w.heap.size w W) => WideMul_any q1 p2 b1 a2 _ _ W (Q1.to hb) (P2.to hb) (by omega) (by omega))
  have HM3 := zH (fun W (hb : Below w.heap.size w W) => WideMul_any p2 q2 a2 b2 _ _ W (P2.to hb) (Q2.to hb) (by omega) (by omega))
  have HAD := zH (fun W aN aD vN vD (h5 : RW W aN vN (p1 * q2)) (h6 : RW W aD vD (q1 * p2)) => WideAdd_any _ _ aN aD vN vD W h5 h6 (by omega) (by omega))
  have HMK := zH (fun W aN aD vN vD (h5 : RW W aN vN (p1 * q2 + q1 * p2)) (h6 : RW W aD vD (p2 * q2)) => RatioMake_any _ _ aN aD vN vD W h5 h6 (Nat.le_trans (dg_add hx4 hy4) (by omega)) (Nat.le_trans dg_mul (by omega)) (Int.mul_pos hp hq))
  have HR : Hid (rAdd (p1, p2) (q1, q2) = fr (p1 * q2 + q1 * p2) (p2 * q2)) := zH rfl
  clear h1 h2 P1 P2 Q1 Q2 l1 l2 l3 l4 hp hq hx4 hy4
  rw [HR.out]
  obtain ⟨x, hx⟩ : ∃ x, p1 * q2 = x := ⟨_, rfl⟩
  obtain ⟨y, hy⟩ : ∃ y, q1 * p2 = y := ⟨_, rfl⟩
  obtain ⟨z, hz⟩ : ∃ z, p2 * q2 = z := ⟨_, rfl⟩
  obtain ⟨t, ht⟩ : ∃ t, x + y = t := ⟨_, rfl⟩
  rw [hx] at HM1 HAD HMK ⊢
  rw [hy] at HM2 HAD HMK ⊢
  rw [hz] at HM3 HMK ⊢
  rw [ht] at HAD HMK ⊢
  clear hx hy hz ht HR
  go_enter Tryz.func120, Tryz.ntmps120
  go_upto_region 1 with (fail)
  obtain ⟨w3, hw3⟩ : ∃ w3, ((w.alloc (.cells #[.int .i64 s1, .slice a1 n1 c1, .int .i64 s2, .slice a2 n2 c2] 65)).alloc (.cells #[.int .i64 s3, .slice b1 n3 c3, .int .i64 s4, .slice b2 n4 c4] 65)).alloc (.cells #[.int .i64 0, .slice none 0 0, .int .i64 0, .slice none 0 0] 65) = w3 := ⟨_, rfl⟩
  rw [hw3]
  have K0 : Hid (Blk w3 w.heap.size #[.int .i64 s1, .slice a1 n1 c1, .int .i64 s2, .slice a2 n2 c2]) := by subst hw3; exact zH (((Blk.new _ _ _).alloc _).alloc _)
  have K1 : Hid (Blk w3 (w.heap.size + 1) #[.int .i64 s3, .slice b1 n3 c3, .int .i64 s4, .slice b2 n4 c4]) := by subst hw3; exact zH ((Blk.newAt _ _ _ (by simp)).alloc _)
  have K2 : Hid (Blk w3 (w.heap.size + 2) #[.int .i64 0, .slice none 0 0, .int .i64 0, .slice none 0 0]) := by subst hw3; exact zH (Blk.newAt _ _ _ (by simp))
  have HB : Hid (Below w.heap.size w w3) := by subst hw3; exact zH (bAlloc (bAlloc (bAlloc (bSelf w) _) _) _)
  clear hw3
  have hs3 : w.heap.size + 2 < w3.heap.size := K2.out.1
  refine wp_region_treeT 17 (by kernel_rfl) (by kernel_rfl) (fun wd hwd => ?_)
  have T := zH hwd
  clear hwd
  refine WE_yes 0 rfl (by kernel_rfl) (fun _ _ _ _ _ h => h) (by rfl) ?_; apply Exists.intro; refine ⟨fun w1 hb1 => ?_, ?_⟩; (focus (((obtain ⟨-, k0, -⟩ := K0.out.to (T.out.trans hb1); obtain ⟨-, k1, -⟩ := K1.out.to (T.out.trans hb1)); have hb1 := zH hb1; go_simp); (try (go_bits; try go_simp)); (try (rw [if_pos (by omega)]; try go_simp)); (first | done | (with_reducible rfl) | exact rfl)))
  simp only [Act.put, zzT, zzO, zzS]
  refine WE_yes 1 rfl (by kernel_rfl) (fun _ _ _ _ _ h => h) (by rfl) ?_; apply Exists.intro; refine ⟨fun w1 hb1 => ?_, ?_⟩; (focus (((obtain ⟨-, k0, -⟩ := K0.out.to (T.out.trans hb1); obtain ⟨-, k1, -⟩ := K1.out.to (T.out.trans hb1)); have hb1 := zH hb1; go_simp); (try (go_bits; try go_simp)); (try (rw [if_pos (by omega)]; try go_simp)); (first | done | (with_reducible rfl) | exact rfl)))
  simp only [Act.put, zzT, zzO, zzS]
  refine WE_yes 2 rfl (by kernel_rfl) (fun _ _ _ _ _ h => h) (by rfl) ?_; apply Exists.intro; refine ⟨fun w1 hb1 => ?_, ?_⟩; (focus (((obtain ⟨-, k0, -⟩ := K0.out.to (T.out.trans hb1); obtain ⟨-, k1, -⟩ := K1.out.to (T.out.trans hb1)); have hb1 := zH hb1; go_simp); (try (go_bits; try go_simp)); (try (rw [if_pos (by omega)]; try go_simp)); (first | done | (with_reducible rfl) | exact rfl)))
  simp only [Act.put, zzT, zzO, zzS]
  refine WE_yes 3 rfl (by kernel_rfl) (fun _ _ _ _ _ h => h) (by rfl) ?_; apply Exists.intro; refine ⟨fun w1 hb1 => ?_, ?_⟩; (focus (((obtain ⟨-, k0, -⟩ := K0.out.to (T.out.trans hb1); obtain ⟨-, k1, -⟩ := K1.out.to (T.out.trans hb1)); have hb1 := zH hb1; go_simp); (try (go_bits; try go_simp)); (try (rw [if_pos (by omega)]; try go_simp)); (first | done | (with_reducible rfl) | exact rfl)))
  simp only [Act.put, zzT, zzO, zzS]
  refine WE_yes 5 rfl (by kernel_rfl) (fun _ _ _ _ _ h => h) (by rfl) ?_; apply Exists.intro; refine ⟨fun w1 hb1 => ?_, ?_⟩; (focus (((obtain ⟨-, k0, -⟩ := K0.out.to (T.out.trans hb1); obtain ⟨-, k1, -⟩ := K1.out.to (T.out.trans hb1)); have hb1 := zH hb1; go_simp); (try (go_bits; try go_simp)); (try (rw [if_pos (by omega)]; try go_simp)); (first | done | (with_reducible rfl) | exact rfl)))
  simp only [Act.put, zzT, zzO, zzS]
  refine WE_yes 6 rfl (by kernel_rfl) (fun _ _ _ _ _ h => h) (by rfl) ?_; apply Exists.intro; refine ⟨fun w1 hb1 => ?_, ?_⟩; (focus (((obtain ⟨-, k0, -⟩ := K0.out.to (T.out.trans hb1); obtain ⟨-, k1, -⟩ := K1.out.to (T.out.trans hb1)); have hb1 := zH hb1; go_simp); (try (go_bits; try go_simp)); (try (rw [if_pos (by omega)]; try go_simp)); (first | done | (with_reducible rfl) | exact rfl)))
  simp only [Act.put, zzT, zzO, zzS]
  refine WE_yes 7 rfl (by kernel_rfl) (fun _ _ _ _ _ h => h) (by rfl) ?_; apply Exists.intro; refine ⟨fun w1 hb1 => ?_, ?_⟩; (focus (((obtain ⟨-, k0, -⟩ := K0.out.to (T.out.trans hb1); obtain ⟨-, k1, -⟩ := K1.out.to (T.out.trans hb1)); have hb1 := zH hb1; go_simp); (try (go_bits; try go_simp)); (try (rw [if_pos (by omega)]; try go_simp)); (first | done | (with_reducible rfl) | exact rfl)))
  simp only [Act.put, zzT, zzO, zzS]
  refine WE_yes 8 rfl (by kernel_rfl) (fun _ _ _ _ _ h => h) (by rfl) ?_; apply Exists.intro; refine ⟨fun w1 hb1 => ?_, ?_⟩; (focus (((obtain ⟨-, k0, -⟩ := K0.out.to (T.out.trans hb1); obtain ⟨-, k1, -⟩ := K1.out.to (T.out.trans hb1)); have hb1 := zH hb1; go_simp); (try (go_bits; try go_simp)); (try (rw [if_pos (by omega)]; try go_simp)); (first | done | (with_reducible rfl) | exact rfl)))
  simp only [Act.put, zzT, zzO, zzS]
  refine WE_yes 11 rfl (by kernel_rfl) (fun _ _ _ _ _ h => h) (by rfl) ?_; apply Exists.intro; refine ⟨fun w1 hb1 => ?_, ?_⟩; (focus (((obtain ⟨-, k0, -⟩ := K0.out.to (T.out.trans hb1); obtain ⟨-, k1, -⟩ := K1.out.to (T.out.trans hb1)); have hb1 := zH hb1; go_simp); (try (go_bits; try go_simp)); (try (rw [if_pos (by omega)]; try go_simp)); (first | done | (with_reducible rfl) | exact rfl)))
  simp only [Act.put, zzT, zzO, zzS]
  refine WE_yes 12 rfl (by kernel_rfl) (fun _ _ _ _ _ h => h) (by rfl) ?_; apply Exists.intro; refine ⟨fun w1 hb1 => ?_, ?_⟩; (focus (((obtain ⟨-, k0, -⟩ := K0.out.to (T.out.trans hb1); obtain ⟨-, k1, -⟩ := K1.out.to (T.out.trans hb1)); have hb1 := zH hb1; go_simp); (try (go_bits; try go_simp)); (try (rw [if_pos (by omega)]; try go_simp)); (first | done | (with_reducible rfl) | exact rfl)))
  simp only [Act.put, zzT, zzO, zzS]
  refine WE_yes 13 rfl (by kernel_rfl) (fun _ _ _ _ _ h => h) (by rfl) ?_; apply Exists.intro; refine ⟨fun w1 hb1 => ?_, ?_⟩; (focus (((obtain ⟨-, k0, -⟩ := K0.out.to (T.out.trans hb1); obtain ⟨-, k1, -⟩ := K1.out.to (T.out.trans hb1)); have hb1 := zH hb1; go_simp); (try (go_bits; try go_simp)); (try (rw [if_pos (by omega)]; try go_simp)); (first | done | (with_reducible rfl) | exact rfl)))
  simp only [Act.put, zzT, zzO, zzS]
  refine WE_yes 14 rfl (by kernel_rfl) (fun _ _ _ _ _ h => h) (by rfl) ?_; apply Exists.intro; refine ⟨fun w1 hb1 => ?_, ?_⟩; (focus (((obtain ⟨-, k0, -⟩ := K0.out.to (T.out.trans hb1); obtain ⟨-, k1, -⟩ := K1.out.to (T.out.trans hb1)); have hb1 := zH hb1; go_simp); (try (go_bits; try go_simp)); (try (rw [if_pos (by omega)]; try go_simp)); (first | done | (with_reducible rfl) | exact rfl)))
  simp only [Act.put, zzT, zzO, zzS]
  refine WE_one 4 rfl (by decide) (by kernel_rfl) ?_
  unfold stepE
  go_wp2_with fail
  refine (HM1.out _ (bThen HB.out T.out)).mono ?_
  rintro e wX ⟨aX, vX, rfl, hvX, hb, hlX⟩
  have HVX := zH hvX
  have HLX := zH (fun (P : Nat → Prop) (h : ∀ b, w3.heap.size ≤ b → P b) => hlX P (fun b hb => h b (Nat.le_trans T.out.size hb)) (fun i hi => by cases hi))
  have hbd := zH (hb.mono T.out.size)
  replace T := zH (T.out.trans hbd.out)
  clear hb hlX
  clear hvX
  go_wp2_with fail
  refine ⟨hbd.out, ?_⟩
  clear hbd
  refine WE_one 9 rfl (by decide) (by kernel_rfl) ?_
  unfold stepE
  go_wp2_with fail
  refine (HM2.out _ (bThen HB.out T.out)).mono ?_
  rintro e wY ⟨aY, vY, rfl, hvY, hb, hlY⟩
  have HVY := zH hvY
  have HLY := zH (fun (P : Nat → Prop) (h : ∀ b, w3.heap.size ≤ b → P b) => hlY P (fun b hb => h b (Nat.le_trans T.out.size hb)) (fun i hi => by cases hi))
  replace HVX := zH (HVX.out.to hb)
  have hbd := zH (hb.mono T.out.size)
  replace T := zH (T.out.trans hbd.out)
  clear hb hlY
  clear hvY
  go_wp2_with fail
  refine ⟨hbd.out, ?_⟩
  clear hbd
  refine WE_one 10 rfl (by decide) (by kernel_rfl) ?_
  unfold stepE
  go_wp2_with fail
  refine (HAD.out _ _ _ _ _ HVX.out HVY.out).mono ?_
  rintro e wS ⟨aS, vS, rfl, hvS, hb, hlS⟩
  have HVS := zH hvS
  have HLS := zH (fun (P : Nat → Prop) (h : ∀ b, w3.heap.size ≤ b → P b) => hlS P (fun b hb => h b (Nat.le_trans T.out.size hb)) (fun i hi => by
    simp only [List.mem_cons, List.not_mem_nil, or_false] at hi
    rcases hi with rfl | rfl
    · exact HLX.out P h
    · exact HLY.out P h))
  have hbd := zH (hb.mono T.out.size)
  replace T := zH (T.out.trans hbd.out)
  clear hb hlS
  clear hvS
  go_wp2_with fail
  refine ⟨hbd.out, ?_⟩
  clear hbd
  refine WE_one 15 rfl (by decide) (by kernel_rfl) ?_
  unfold stepE
  go_wp2_with fail
  refine (HM3.out _ (bThen HB.out T.out)).mono ?_
  rintro e wZ ⟨aZ, vZ, rfl, hvZ, hb, hlZ⟩
  have HVZ := zH hvZ
  have HLZ := zH (fun (P : Nat → Prop) (h : ∀ b, w3.heap.size ≤ b → P b) => hlZ P (fun b hb => h b (Nat.le_trans T.out.size hb)) (fun i hi => by cases hi))
  replace HVS := zH (HVS.out.to hb)
  have hbd := zH (hb.mono T.out.size)
  replace T := zH (T.out.trans hbd.out)
  clear hb hlZ
  clear hvZ
  go_wp2_with fail
  refine ⟨hbd.out, ?_⟩
  clear hbd
  refine WE_one 16 rfl (by decide) (by kernel_rfl) ?_
  unfold stepE
  go_wp2_with fail
  refine (HMK.out _ _ _ _ _ HVS.out HVZ.out).mono ?_
  rintro e wR ⟨aR, bR, vR, rfl, hvR, hb, hlR⟩
  have HVR := zH hvR
  have HLR := zH (fun (P : Nat → Prop) (h : ∀ b, w3.heap.size ≤ b → P b) => hlR P (fun b hb => h b (Nat.le_trans T.out.size hb)) (fun i hi => by
    simp only [List.mem_cons, List.not_mem_nil, or_false] at hi
    rcases hi with rfl | rfl
    · exact HLS.out P h
    · exact HLZ.out P h))
  have hbd := zH (hb.mono T.out.size)
  replace T := zH (T.out.trans hbd.out)
  clear hb hlR
  obtain ⟨sN, nN, cN, sD, nD, cD, rfl, -, -⟩ := hvR.ex
  clear hvR
  go_wp2_with fail
  refine ⟨hbd.out, ?_⟩
  clear hbd
  replace K2 := zH (K2.out.to T.out)
  replace HB := zH (bThen HB.out T.out)
  clear T
  refine WE_tail rfl (by kernel_rfl) ?_
  simp only [List.drop_succ_cons, List.drop_zero]
  obtain ⟨hk2, k2, f2⟩ := K2.out
  go_wp2_with fail
  clear k2 f2
  have FF := ((((K2.out.set 0 (.int .i64 sN)).set 1 (.slice aR nN cN)).set 2 (.int .i64 sD)).set 3 (.slice bR nD cD)).2.1
  have F0 := FF 0; have F1 := FF 1; have F2 := FF 2; have F3 := FF 3
  clear FF
  have HP : Hid (∀ (w' : World) (e : Ending), w' = ((((wR.setCell ⟨w.heap.size + 2, 0, none⟩ (.int .i64 sN)).setCell ⟨w.heap.size + 2, 1, none⟩ (.slice aR nN cN)).setCell ⟨w.heap.size + 2, 2, none⟩ (.int .i64 sD)).setCell ⟨w.heap.size + 2, 3, none⟩ (.slice bR nD cD)) → e = .returned (.agg #[.int .i64 sN, .slice aR nN cN, .int .i64 sD, .slice bR nD cD]) → RPost [] (fr t z) w e w') := zH (fun w' e hw he => by
    subst hw
    refine ⟨aR, bR, _, he, (((HVR.out.set1 ?_ ?_ _).set1 ?_ ?_ _).set1 ?_ ?_ _).set1 ?_ ?_ _, ?_, fun P hf _ => HLR.out P (fun b hb => hf b (by omega))⟩
    · exact (HLR.out _ (fun b hb => by omega)).1
    · exact (HLR.out _ (fun b hb => by omega)).2
    · exact (HLR.out _ (fun b hb => by omega)).1
    · exact (HLR.out _ (fun b hb => by omega)).2
    · exact (HLR.out _ (fun b hb => by omega)).1
    · exact (HLR.out _ (fun b hb => by omega)).2
    · exact (HLR.out _ (fun b hb => by omega)).1
    · exact (HLR.out _ (fun b hb => by omega)).2
    · exact ((((HB.out.setCell (p := ⟨w.heap.size + 2, 0, none⟩) (by dsimp only; omega) _).setCell (p := ⟨w.heap.size + 2, 1, none⟩) (by dsimp only; omega) _).setCell (p := ⟨w.heap.size + 2, 2, none⟩) (by dsimp only; omega) _).setCell (p := ⟨w.heap.size + 2, 3, none⟩) (by dsimp only; omega) _))
  refine bodyPost_ret (v := .agg #[.int .i64 sN, .slice aR nN cN, .int .i64 sD, .slice bR nD cD]) ?_ rfl (HP.out _ _ rfl rfl)
  simp [results, Tryz.results120, go_sem, F0, F1, F2, F3]

theorem RatioCmp_any (p q : Int × Int) (a1 a2 b1 b2 : Option Addr) (v1 v2 : Value) (w : World) (h1 : RR w a1 a2 v1 p) (h2 : RR w b1 b2 v2 q) (l1 : (dg p.1).length ≤ 50) (l2 : (dg p.2).length ≤ 50) (l3 : (dg q.1).length ≤ 50) (l4 : (dg q.2).length ≤ 50) :
    Calls Tryz.prog 29 #[v1, v2] w fun e w' => e = .returned (.int .i64 (p.1 * q.2 - q.1 * p.2).sign) ∧ Below w.heap.size w w' := by
  obtain ⟨s1, n1, c1, s2, n2, c2, rfl, P1, P2⟩ := h1.ex
  obtain ⟨s3, n3, c3, s4, n4, c4, rfl, Q1, Q2⟩ := h2.ex
  obtain ⟨p1, p2⟩ := p
  obtain ⟨q1, q2⟩ := q
  dsimp only at P1 P2 Q1 Q2 l1 l2 l3 l4 ⊢
  have hx4 : (dg (p1 * q2)).length ≤ 100 := Nat.le_trans dg_mul (by omega)
  have hy4 : (dg (q1 * p2)).length ≤ 100 := Nat.le_trans dg_mul (by omega)
  have HM1 := zH (fun W (hb : Below w.heap.size w W) => WideMul_any p1 q2 a1 b2 _ _ W (P1.to hb) (Q2.to hb) (by omega) (by omega))
  have HM2 := zH (fun W (hb : Below w.heap.size w W) => WideMul_any q1 p2 b1 a2 _ _ W (Q1.to hb) (P2.to hb) (by omega) (by omega))
  have HCM := zH (fun W aN aD vN vD (h5 : RW W aN vN (p1 * q2)) (h6 : RW W aD vD (q1 * p2)) => WideCmp_any _ _ aN aD vN vD W h5 h6 (by omega) (by omega))
  clear h1 h2 P1 P2 Q1 Q2 l1 l2 l3 l4 hx4 hy4
  obtain ⟨x, hx⟩ : ∃ x, p1 * q2 = x := ⟨_, rfl⟩
  obtain ⟨y, hy⟩ : ∃ y, q1 * p2 = y := ⟨_, rfl⟩
  rw [hx] at HM1 HCM ⊢
  rw [hy] at HM2 HCM ⊢
  clear hx hy
  obtain ⟨sg, hsg⟩ : ∃ s, (x - y).sign = s := ⟨_, rfl⟩
  rw [hsg] at HCM ⊢
  clear hsg
  go_enter Tryz.func29, Tryz.ntmps29
  go_upto_region 1 with (fail)
  obtain ⟨w3, hw3⟩ : ∃ w3, (w.alloc (.cells #[.int .i64 s1, .slice a1 n1 c1, .int .i64 s2, .slice a2 n2 c2] 65)).alloc (.cells #[.int .i64 s3, .slice b1 n3 c3, .int .i64 s4, .slice b2 n4 c4] 65) = w3 := ⟨_, rfl⟩
  rw [hw3]
  have K0 : Hid (Blk w3 w.heap.size #[.int .i64 s1, .slice a1 n1 c1, .int .i64 s2, .slice a2 n2 c2]) := by subst hw3; exact zH (((Blk.new _ _ _).alloc _))
  have K1 : Hid (Blk w3 (w.heap.size + 1) #[.int .i64 s3, .slice b1 n3 c3, .int .i64 s4, .slice b2 n4 c4]) := by subst hw3; exact zH ((Blk.newAt _ _ _ (by simp)))
  have HB : Hid (Below w.heap.size w w3) := by subst hw3; exact zH (bAlloc (bAlloc (bSelf w) _) _)
  clear hw3
  refine wp_region_tree (by kernel_rfl) (fun wd hwd => ?_)
  have T := zH hwd
  clear hwd
  refine WTq 0 ?_; apply Exists.intro; refine ⟨fun w1 hb1 => ?_, ?_⟩; (focus (((obtain ⟨-, k0, -⟩ := K0.out.to (T.out.trans hb1); obtain ⟨-, k1, -⟩ := K1.out.to (T.out.trans hb1)); have hb1 := zH hb1; go_simp); (try (go_bits; try go_simp)); (try (rw [if_pos (by omega)]; try go_simp)); (first | done | (with_reducible rfl) | exact rfl)))
  simp only [Act.put, zzT, zzO, zzS]
  refine WTq 1 ?_; apply Exists.intro; refine ⟨fun w1 hb1 => ?_, ?_⟩; (focus (((obtain ⟨-, k0, -⟩ := K0.out.to (T.out.trans hb1); obtain ⟨-, k1, -⟩ := K1.out.to (T.out.trans hb1)); have hb1 := zH hb1; go_simp); (try (go_bits; try go_simp)); (try (rw [if_pos (by omega)]; try go_simp)); (first | done | (with_reducible rfl) | exact rfl)))
  simp only [Act.put, zzT, zzO, zzS]
  refine WTq 2 ?_; apply Exists.intro; refine ⟨fun w1 hb1 => ?_, ?_⟩; (focus (((obtain ⟨-, k0, -⟩ := K0.out.to (T.out.trans hb1); obtain ⟨-, k1, -⟩ := K1.out.to (T.out.trans hb1)); have hb1 := zH hb1; go_simp); (try (go_bits; try go_simp)); (try (rw [if_pos (by omega)]; try go_simp)); (first | done | (with_reducible rfl) | exact rfl)))
  simp only [Act.put, zzT, zzO, zzS]
  refine WTq 3 ?_; apply Exists.intro; refine ⟨fun w1 hb1 => ?_, ?_⟩; (focus (((obtain ⟨-, k0, -⟩ := K0.out.to (T.out.trans hb1); obtain ⟨-, k1, -⟩ := K1.out.to (T.out.trans hb1)); have hb1 := zH hb1; go_simp); (try (go_bits; try go_simp)); (try (rw [if_pos (by omega)]; try go_simp)); (first | done | (with_reducible rfl) | exact rfl)))
  simp only [Act.put, zzT, zzO, zzS]
  refine WTq 5 ?_; apply Exists.intro; refine ⟨fun w1 hb1 => ?_, ?_⟩; (focus (((obtain ⟨-, k0, -⟩ := K0.out.to (T.out.trans hb1); obtain ⟨-, k1, -⟩ := K1.out.to (T.out.trans hb1)); have hb1 := zH hb1; go_simp); (try (go_bits; try go_simp)); (try (rw [if_pos (by omega)]; try go_simp)); (first | done | (with_reducible rfl) | exact rfl)))
  simp only [Act.put, zzT, zzO, zzS]
  refine WTq 6 ?_; apply Exists.intro; refine ⟨fun w1 hb1 => ?_, ?_⟩; (focus (((obtain ⟨-, k0, -⟩ := K0.out.to (T.out.trans hb1); obtain ⟨-, k1, -⟩ := K1.out.to (T.out.trans hb1)); have hb1 := zH hb1; go_simp); (try (go_bits; try go_simp)); (try (rw [if_pos (by omega)]; try go_simp)); (first | done | (with_reducible rfl) | exact rfl)))
  simp only [Act.put, zzT, zzO, zzS]
  refine WTq 7 ?_; apply Exists.intro; refine ⟨fun w1 hb1 => ?_, ?_⟩; (focus (((obtain ⟨-, k0, -⟩ := K0.out.to (T.out.trans hb1); obtain ⟨-, k1, -⟩ := K1.out.to (T.out.trans hb1)); have hb1 := zH hb1; go_simp); (try (go_bits; try go_simp)); (try (rw [if_pos (by omega)]; try go_simp)); (first | done | (with_reducible rfl) | exact rfl)))
  simp only [Act.put, zzT, zzO, zzS]
  refine WTq 8 ?_; apply Exists.intro; refine ⟨fun w1 hb1 => ?_, ?_⟩; (focus (((obtain ⟨-, k0, -⟩ := K0.out.to (T.out.trans hb1); obtain ⟨-, k1, -⟩ := K1.out.to (T.out.trans hb1)); have hb1 := zH hb1; go_simp); (try (go_bits; try go_simp)); (try (rw [if_pos (by omega)]; try go_simp)); (first | done | (with_reducible rfl) | exact rfl)))
  simp only [Act.put, zzT, zzO, zzS]
  refine WT_one 4 rfl (by kernel_rfl) ?_
  unfold stepT
  go_wp2_with fail
  refine (HM1.out _ (bThen HB.out T.out)).mono ?_
  rintro e wX ⟨aX, vX, rfl, hvX, hb, hlX⟩
  have HVX := zH hvX
  have HLX := zH (fun (P : Nat → Prop) (h : ∀ b, w3.heap.size ≤ b → P b) => hlX P (fun b hb => h b (Nat.le_trans T.out.size hb)) (fun i hi => by cases hi))
  have hbd := zH (hb.mono T.out.size)
  replace T := zH (T.out.trans hbd.out)
  clear hb hlX
  clear hvX
  go_wp2_with fail
  refine ⟨hbd.out, ?_⟩
  clear hbd
  refine WT_one 9 rfl (by kernel_rfl) ?_
  unfold stepT
  go_wp2_with fail
  refine (HM2.out _ (bThen HB.out T.out)).mono ?_
  rintro e wY ⟨aY, vY, rfl, hvY, hb, hlY⟩
  have HVY := zH hvY
  have HLY := zH (fun (P : Nat → Prop) (h : ∀ b, w3.heap.size ≤ b → P b) => hlY P (fun b hb => h b (Nat.le_trans T.out.size hb)) (fun i hi => by cases hi))
  replace HVX := zH (HVX.out.to hb)
  have hbd := zH (hb.mono T.out.size)
  replace T := zH (T.out.trans hbd.out)
  clear hb hlY
  clear hvY
  go_wp2_with fail
  refine ⟨hbd.out, ?_⟩
  clear hbd
  refine WT_one 10 rfl (by kernel_rfl) ?_
  unfold stepT
  go_wp2_with fail
  refine (HCM.out _ _ _ _ _ HVX.out HVY.out).mono ?_
  rintro e wC ⟨rfl, hb⟩
  have hbd := zH (hb.mono T.out.size)
  replace T := zH (T.out.trans hbd.out)
  clear hb
  go_wp2_with fail
  refine ⟨hbd.out, ?_⟩
  clear hbd
  refine WT_one 11 rfl (by kernel_rfl) ?_
  unfold stepT
  go_wp2_with fail
  refine ⟨Below.refl _ _, ?_⟩
  refine WT_done (by kernel_rfl) ?_
  have HB2 := zH (bThen HB.out T.out)
  clear T
  go_wp2_with fail
  go_ret
  exact ⟨rfl, HB2.out⟩
end
end Go.Proofs.YtbpcapcgbnbknaaGreat
