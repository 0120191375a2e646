/-
  Texts of this claim, in their build order: Y3 Y6 OP2 Lib12 Lib14.
-/
import Derived.Test.YtjfedpblkejmkaaGreatCol16
import Derived.Test.YtjfedpblkejmkaaGreatCol5
import Derived.Test.YtjfedpblkejmkaaGreatCol6
import Derived.Test.YtjfedpblkejmkaaGreatCol2
import Derived.Test.YtjfedpblkejmkaaGreatCol4
import Derived.Lib.AppendZerosOnto
import Derived.Test.YtjfedpblkejmkaaGreatCol7
import Derived.Test.YtjfedpblkejmkaaGreatCol11

/-
  Contracts of fractions of any size: RatioInt, RatioOf, RatioFrom, RatioNeg, RatioMul, RatioAdd, RatioSub, RatioCmp.
-/
namespace Go.Proofs.YtjfedpblkejmkaaGreat
open Go.RowKit

theorem dg_mul {x y : Int} : (dg (x * y)).length ≤ (dg x).length + (dg y).length := by
  have e1 : (x * y).natAbs = x.natAbs * y.natAbs := Int.natAbs_mul ..
  have h : ∀ z : Int, z.natAbs < 1000000000 ^ (dg z).length := fun z => by
    have e2 := val_lt (dg_dig z)
    rw [val_dg] at e2
    have e : ((1000000000 ^ (dg z).length : Nat) : Int) = 1000000000 ^ (dg z).length := by simp
    rw [← e] at e2
    omega
  refine digs_len _ _ ?_
  rw [e1, Nat.pow_add]
  exact Nat.mul_lt_mul'' (h x) (h y)
theorem dg_small {z : Int} (k : Nat) (h : z.natAbs < 1000000000 ^ k) : (dg z).length ≤ k := digs_len k _ h

theorem RR.mk' {W : World} {a1 a2 : Option Addr} {s1 s2 : Int} {n1 c1 n2 c2 : Nat} {x y : Int} (h1 : RW W a1 (.agg #[.int .i64 s1, .slice a1 n1 c1]) x) (h2 : RW W a2 (.agg #[.int .i64 s2, .slice a2 n2 c2]) y) : RR W a1 a2 (.agg #[.int .i64 s1, .slice a1 n1 c1, .int .i64 s2, .slice a2 n2 c2]) (x, y) := ⟨s1, n1, c1, s2, n2, c2, rfl, h1, h2⟩
theorem RR.ex {W : World} {a1 a2 : Option Addr} {v : Value} {q : Int × Int} (h : RR W a1 a2 v q) : ∃ s1 n1 c1 s2 n2 c2, v = .agg #[.int .i64 s1, .slice a1 n1 c1, .int .i64 s2, .slice a2 n2 c2] ∧ RW W a1 (.agg #[.int .i64 s1, .slice a1 n1 c1]) q.1 ∧ RW W a2 (.agg #[.int .i64 s2, .slice a2 n2 c2]) q.2 := h

set_option maxHeartbeats 1600000 in
set_option maxRecDepth 100000 in
theorem RatioInt_any (n : Int) (w : World) (h1 : -9223372036854775808 ≤ n) (h2 : n ≤ 9223372036854775807) :
    Calls Tryz.prog 104 #[.int .i64 n] w fun e w1 => RPost [] (n, 1) w e w1 := by
  have HN := Lib.hid (fun W => WideOf_any n W h1 h2)
  have HO := Lib.hid (fun W => WideOf_any 1 W (by omega) (by omega))
  clear h1 h2
  go_enter Tryz.func104, Tryz.ntmps104
  go_wp2_with fail
  obtain ⟨w3, hw3⟩ : ∃ w3, w.alloc (.cells #[.int .i64 0, .slice none 0 0, .int .i64 0, .slice none 0 0] 112) = w3 := ⟨_, rfl⟩
  rw [hw3]
  have K2 : Hid (Blk w3 w.heap.size #[.int .i64 0, .slice none 0 0, .int .i64 0, .slice none 0 0]) := by subst hw3; exact Lib.hid (Blk.new _ _ _)
  have HB : Hid (Below w.heap.size w w3) := by subst hw3; exact Lib.hid (bAlloc (bSelf w) _)
  clear hw3
  have hs3 : w.heap.size < w3.heap.size := K2.out.1
  refine (HN.out _).mono ?_
  rintro e w4 ⟨a1, v1, rfl, hv1, hb, hl1⟩
  have HV1 := Lib.hid hv1
  have HL1 := Lib.hid (fun (P : Nat → Prop) (h : ∀ b, w3.heap.size ≤ b → P b) => hl1 P h (fun i hi => by cases hi))
  replace K2 := Lib.hid (K2.out.to hb)
  replace HB := Lib.hid (bThen HB.out hb)
  have hs4 := hb.size
  clear hb hl1
  obtain ⟨s1, n1, c1, rfl⟩ := hv1.ex
  clear hv1
  go_wp2_with fail
  refine (HO.out _).mono ?_
  rintro e w5 ⟨a2, v2, rfl, hv2, hb, hl2⟩
  have HV2 := Lib.hid hv2
  have HL2 := Lib.hid (fun (P : Nat → Prop) (h : ∀ b, w3.heap.size ≤ b → P b) => hl2 P (fun b hb => h b (by omega)) (fun i hi => by cases hi))
  replace K2 := Lib.hid (K2.out.to hb)
  replace HB := Lib.hid (bThen HB.out hb)
  replace HV1 := Lib.hid (HV1.out.to hb)
  clear hb hl2
  obtain ⟨s2, n2, c2, rfl⟩ := hv2.ex
  clear hv2
  obtain ⟨hk2, k2, f2⟩ := K2.out
  go_wp2_with fail
  clear k2 f2
  have FF := ((((K2.out.set 0 (.int .i64 s1)).set 1 (.slice a1 n1 c1)).set 2 (.int .i64 s2)).set 3 (.slice a2 n2 c2)).2.1
  have F0 := FF 0; have F1 := FF 1; have F2 := FF 2; have F3 := FF 3
  clear FF
  have HP : Hid (∀ (w' : World) (e : Ending), w' = ((((w5.setCell ⟨w.heap.size, 0, none⟩ (.int .i64 s1)).setCell ⟨w.heap.size, 1, none⟩ (.slice a1 n1 c1)).setCell ⟨w.heap.size, 2, none⟩ (.int .i64 s2)).setCell ⟨w.heap.size, 3, none⟩ (.slice a2 n2 c2)) → e = .returned (.agg #[.int .i64 s1, .slice a1 n1 c1, .int .i64 s2, .slice a2 n2 c2]) → RPost [] (n, 1) w e w') := Lib.hid (fun w' e hw he => by
    subst hw
    refine ⟨a1, a2, _, he, ((((RR.mk' HV1.out HV2.out).set1 ?_ ?_ _).set1 ?_ ?_ _).set1 ?_ ?_ _).set1 ?_ ?_ _, ?_, fun P hf _ => ⟨HL1.out P (fun b hb => hf b (by omega)), HL2.out P (fun b hb => hf b (by omega))⟩⟩
    · exact HL1.out _ (fun b hb => by omega)
    · exact HL2.out _ (fun b hb => by omega)
    · exact HL1.out _ (fun b hb => by omega)
    · exact HL2.out _ (fun b hb => by omega)
    · exact HL1.out _ (fun b hb => by omega)
    · exact HL2.out _ (fun b hb => by omega)
    · exact HL1.out _ (fun b hb => by omega)
    · exact HL2.out _ (fun b hb => by omega)
    · exact ((((HB.out.setCell (p := ⟨w.heap.size, 0, none⟩) (by dsimp only; omega) _).setCell (p := ⟨w.heap.size, 1, none⟩) (by dsimp only; omega) _).setCell (p := ⟨w.heap.size, 2, none⟩) (by dsimp only; omega) _).setCell (p := ⟨w.heap.size, 3, none⟩) (by dsimp only; omega) _))
  refine bodyPost_ret (v := .agg #[.int .i64 s1, .slice a1 n1 c1, .int .i64 s2, .slice a2 n2 c2]) ?_ rfl (HP.out _ _ rfl rfl)
  simp [results, Tryz.results104, go_sem, F0, F1, F2, F3]

set_option maxHeartbeats 1600000 in
set_option maxRecDepth 100000 in
theorem RatioOf_any (n m : Int) (w : World) (h1 : -9223372036854775808 ≤ n) (h2 : n ≤ 9223372036854775807) (h3 : 0 < m) (h4 : m ≤ 9223372036854775807) :
    Calls Tryz.prog 153 #[.int .i64 n, .int .i64 m] w fun e w1 => RPost [] (fr n m) w e w1 := by
  have HN := Lib.hid (fun W => WideOf_any n W h1 h2)
  have HO := Lib.hid (fun W => WideOf_any m W (by omega) h4)
  have HM := Lib.hid (fun W a1 a2 v1 v2 (h5 : RW W a1 v1 n) (h6 : RW W a2 v2 m) => RatioMake_any n m a1 a2 v1 v2 W h5 h6 (Nat.le_trans (dg_small 3 (by omega)) (by decide)) (Nat.le_trans (dg_small 3 (by omega)) (by decide)) h3)
  clear h1 h2 h3 h4
  go_enter Tryz.func153, Tryz.ntmps153
  go_wp2_with fail
  obtain ⟨w3, hw3⟩ : ∃ w3, w.alloc (.cells #[.int .i64 0, .slice none 0 0, .int .i64 0, .slice none 0 0] 112) = w3 := ⟨_, rfl⟩
  rw [hw3]
  have K2 : Hid (Blk w3 w.heap.size #[.int .i64 0, .slice none 0 0, .int .i64 0, .slice none 0 0]) := by subst hw3; exact Lib.hid (Blk.new _ _ _)
  have HB : Hid (Below w.heap.size w w3) := by subst hw3; exact Lib.hid (bAlloc (bSelf w) _)
  clear hw3
  have hs3 : w.heap.size < w3.heap.size := K2.out.1
  refine (HN.out _).mono ?_
  rintro e w4 ⟨a1, v1, rfl, hv1, hb, hl1⟩
  have HV1 := Lib.hid hv1
  have HL1 := Lib.hid (fun (P : Nat → Prop) (h : ∀ b, w3.heap.size ≤ b → P b) => hl1 P h (fun i hi => by cases hi))
  replace K2 := Lib.hid (K2.out.to hb)
  replace HB := Lib.hid (bThen HB.out hb)
  have hs4 := hb.size
  clear hb hl1 hv1
  go_wp2_with fail
  refine (HO.out _).mono ?_
  rintro e w5 ⟨a2, v2, rfl, hv2, hb, hl2⟩
  have HV2 := Lib.hid hv2
  have HL2 := Lib.hid (fun (P : Nat → Prop) (h : ∀ b, w3.heap.size ≤ b → P b) => hl2 P (fun b hb => h b (by omega)) (fun i hi => by cases hi))
  replace K2 := Lib.hid (K2.out.to hb)
  replace HB := Lib.hid (bThen HB.out hb)
  replace HV1 := Lib.hid (HV1.out.to hb)
  have hs5 := hb.size
  clear hb hl2 hv2
  go_wp2_with fail
  refine (HM.out _ _ _ _ _ HV1.out HV2.out).mono ?_
  rintro e w6 ⟨b1, b2, v6, rfl, hv6, hb, hl6⟩
  have HV6 := Lib.hid hv6
  have HL6 := Lib.hid (fun (P : Nat → Prop) (h : ∀ b, w3.heap.size ≤ b → P b) => hl6 P (fun b hb => h b (by omega)) (fun i hi => by
    simp only [List.mem_cons, List.not_mem_nil, or_false] at hi
    rcases hi with rfl | rfl
    · exact HL1.out P h
    · exact HL2.out P h))
  replace K2 := Lib.hid (K2.out.to hb)
  replace HB := Lib.hid (bThen HB.out hb)
  clear hb hl6
  obtain ⟨s1, n1, c1, s2, n2, c2, rfl, -, -⟩ := hv6
  obtain ⟨hk2, k2, f2⟩ := K2.out
  go_wp2_with fail
  clear k2 f2
  have FF := ((((K2.out.set 0 (.int .i64 s1)).set 1 (.slice b1 n1 c1)).set 2 (.int .i64 s2)).set 3 (.slice b2 n2 c2)).2.1
  have F0 := FF 0; have F1 := FF 1; have F2 := FF 2; have F3 := FF 3
  clear FF
  have HP : Hid (∀ (w' : World) (e : Ending), w' = ((((w6.setCell ⟨w.heap.size, 0, none⟩ (.int .i64 s1)).setCell ⟨w.heap.size, 1, none⟩ (.slice b1 n1 c1)).setCell ⟨w.heap.size, 2, none⟩ (.int .i64 s2)).setCell ⟨w.heap.size, 3, none⟩ (.slice b2 n2 c2)) → e = .returned (.agg #[.int .i64 s1, .slice b1 n1 c1, .int .i64 s2, .slice b2 n2 c2]) → RPost [] (fr n m) w e w') := Lib.hid (fun w' e hw he => by
    subst hw
    refine ⟨b1, b2, _, he, (((HV6.out.set1 ?_ ?_ _).set1 ?_ ?_ _).set1 ?_ ?_ _).set1 ?_ ?_ _, ?_, fun P hf _ => HL6.out P (fun b hb => hf b (by omega))⟩
    · exact (HL6.out _ (fun b hb => by omega)).1
    · exact (HL6.out _ (fun b hb => by omega)).2
    · exact (HL6.out _ (fun b hb => by omega)).1
    · exact (HL6.out _ (fun b hb => by omega)).2
    · exact (HL6.out _ (fun b hb => by omega)).1
    · exact (HL6.out _ (fun b hb => by omega)).2
    · exact (HL6.out _ (fun b hb => by omega)).1
    · exact (HL6.out _ (fun b hb => by omega)).2
    · exact ((((HB.out.setCell (p := ⟨w.heap.size, 0, none⟩) (by dsimp only; omega) _).setCell (p := ⟨w.heap.size, 1, none⟩) (by dsimp only; omega) _).setCell (p := ⟨w.heap.size, 2, none⟩) (by dsimp only; omega) _).setCell (p := ⟨w.heap.size, 3, none⟩) (by dsimp only; omega) _))
  refine bodyPost_ret (v := .agg #[.int .i64 s1, .slice b1 n1 c1, .int .i64 s2, .slice b2 n2 c2]) ?_ rfl (HP.out _ _ rfl rfl)
  simp [results, Tryz.results153, go_sem, F0, F1, F2, F3]

set_option maxHeartbeats 1600000 in
set_option maxRecDepth 100000 in
theorem RatioCmp_any (p q : Int × Int) (a1 a2 b1 b2 : Option Addr) (v1 v2 : Value) (w : World) (h1 : RR w a1 a2 v1 p) (h2 : RR w b1 b2 v2 q) (l1 : (dg p.1).length ≤ 50) (l2 : (dg p.2).length ≤ 50) (l3 : (dg q.1).length ≤ 50) (l4 : (dg q.2).length ≤ 50) :
    Calls Tryz.prog 105 #[v1, v2] w fun e w' => e = .returned (.int .i64 (p.1 * q.2 - q.1 * p.2).sign) ∧ Below w.heap.size w w' := by
  obtain ⟨s1, n1, c1, s2, n2, c2, rfl, P1, P2⟩ := h1.ex
  obtain ⟨s3, n3, c3, s4, n4, c4, rfl, Q1, Q2⟩ := h2.ex
  obtain ⟨p1, p2⟩ := p
  obtain ⟨q1, q2⟩ := q
  dsimp only at P1 P2 Q1 Q2 l1 l2 l3 l4 ⊢
  have hx4 : (dg (p1 * q2)).length ≤ 100 := Nat.le_trans dg_mul (by omega)
  have hy4 : (dg (q1 * p2)).length ≤ 100 := Nat.le_trans dg_mul (by omega)
  have HM1 := Lib.hid (fun W (hb : Below w.heap.size w W) => WideMul_any p1 q2 a1 b2 _ _ W (P1.to hb) (Q2.to hb) (by omega) (by omega))
  have HM2 := Lib.hid (fun W (hb : Below w.heap.size w W) => WideMul_any q1 p2 b1 a2 _ _ W (Q1.to hb) (P2.to hb) (by omega) (by omega))
  have HCM := Lib.hid (fun W aN aD vN vD (h5 : RW W aN vN (p1 * q2)) (h6 : RW W aD vD (q1 * p2)) => WideCmp_any _ _ aN aD vN vD W h5 h6 (by omega) (by omega))
  clear h1 h2 P1 P2 Q1 Q2 l1 l2 l3 l4 hx4 hy4
  obtain ⟨x, hx⟩ : ∃ x, p1 * q2 = x := ⟨_, rfl⟩
  obtain ⟨y, hy⟩ : ∃ y, q1 * p2 = y := ⟨_, rfl⟩
  rw [hx] at HM1 HCM ⊢
  rw [hy] at HM2 HCM ⊢
  clear hx hy
  obtain ⟨sg, hsg⟩ : ∃ s, (x - y).sign = s := ⟨_, rfl⟩
  rw [hsg] at HCM ⊢
  clear hsg
  go_enter Tryz.func105, Tryz.ntmps105
  go_upto_region 1 with (fail)
  obtain ⟨w3, hw3⟩ : ∃ w3, (w.alloc (.cells #[.int .i64 s1, .slice a1 n1 c1, .int .i64 s2, .slice a2 n2 c2] 112)).alloc (.cells #[.int .i64 s3, .slice b1 n3 c3, .int .i64 s4, .slice b2 n4 c4] 112) = w3 := ⟨_, rfl⟩
  rw [hw3]
  have K0 : Hid (Blk w3 w.heap.size #[.int .i64 s1, .slice a1 n1 c1, .int .i64 s2, .slice a2 n2 c2]) := by subst hw3; exact Lib.hid (((Blk.new _ _ _).alloc _))
  have K1 : Hid (Blk w3 (w.heap.size + 1) #[.int .i64 s3, .slice b1 n3 c3, .int .i64 s4, .slice b2 n4 c4]) := by subst hw3; exact Lib.hid ((Blk.newAt _ _ _ (by simp)))
  have HB : Hid (Below w.heap.size w w3) := by subst hw3; exact Lib.hid (bAlloc (bAlloc (bSelf w) _) _)
  clear hw3
  refine wp_region_tree (by kernel_rfl) (fun wd hwd => ?_)
  have T := Lib.hid hwd
  clear hwd
  refine WT_yes 0 rfl (by kernel_rfl) (fun _ _ _ _ _ h => h) (by rfl) ?_; apply Exists.intro; refine ⟨fun w1 hb1 => ?_, ?_⟩; (focus (((obtain ⟨-, k0, -⟩ := K0.out.to (T.out.trans hb1); obtain ⟨-, k1, -⟩ := K1.out.to (T.out.trans hb1)); have hb1 := Lib.hid hb1; go_simp); (try (go_bits; try go_simp)); (try (rw [if_pos (by omega)]; try go_simp)); (first | done | (fail) | (with_reducible rfl) | exact rfl)))
  simp only [Act.put, List.setIfInBounds_toArray, List.set_cons_zero, List.set_cons_succ]
  refine WT_yes 1 rfl (by kernel_rfl) (fun _ _ _ _ _ h => h) (by rfl) ?_; apply Exists.intro; refine ⟨fun w1 hb1 => ?_, ?_⟩; (focus (((obtain ⟨-, k0, -⟩ := K0.out.to (T.out.trans hb1); obtain ⟨-, k1, -⟩ := K1.out.to (T.out.trans hb1)); have hb1 := Lib.hid hb1; go_simp); (try (go_bits; try go_simp)); (try (rw [if_pos (by omega)]; try go_simp)); (first | done | (fail) | (with_reducible rfl) | exact rfl)))
  simp only [Act.put, List.setIfInBounds_toArray, List.set_cons_zero, List.set_cons_succ]
  refine WT_yes 2 rfl (by kernel_rfl) (fun _ _ _ _ _ h => h) (by rfl) ?_; apply Exists.intro; refine ⟨fun w1 hb1 => ?_, ?_⟩; (focus (((obtain ⟨-, k0, -⟩ := K0.out.to (T.out.trans hb1); obtain ⟨-, k1, -⟩ := K1.out.to (T.out.trans hb1)); have hb1 := Lib.hid hb1; go_simp); (try (go_bits; try go_simp)); (try (rw [if_pos (by omega)]; try go_simp)); (first | done | (fail) | (with_reducible rfl) | exact rfl)))
  simp only [Act.put, List.setIfInBounds_toArray, List.set_cons_zero, List.set_cons_succ]
  refine WT_yes 3 rfl (by kernel_rfl) (fun _ _ _ _ _ h => h) (by rfl) ?_; apply Exists.intro; refine ⟨fun w1 hb1 => ?_, ?_⟩; (focus (((obtain ⟨-, k0, -⟩ := K0.out.to (T.out.trans hb1); obtain ⟨-, k1, -⟩ := K1.out.to (T.out.trans hb1)); have hb1 := Lib.hid hb1; go_simp); (try (go_bits; try go_simp)); (try (rw [if_pos (by omega)]; try go_simp)); (first | done | (fail) | (with_reducible rfl) | exact rfl)))
  simp only [Act.put, List.setIfInBounds_toArray, List.set_cons_zero, List.set_cons_succ]
  refine WT_yes 5 rfl (by kernel_rfl) (fun _ _ _ _ _ h => h) (by rfl) ?_; apply Exists.intro; refine ⟨fun w1 hb1 => ?_, ?_⟩; (focus (((obtain ⟨-, k0, -⟩ := K0.out.to (T.out.trans hb1); obtain ⟨-, k1, -⟩ := K1.out.to (T.out.trans hb1)); have hb1 := Lib.hid hb1; go_simp); (try (go_bits; try go_simp)); (try (rw [if_pos (by omega)]; try go_simp)); (first | done | (fail) | (with_reducible rfl) | exact rfl)))
  simp only [Act.put, List.setIfInBounds_toArray, List.set_cons_zero, List.set_cons_succ]
  refine WT_yes 6 rfl (by kernel_rfl) (fun _ _ _ _ _ h => h) (by rfl) ?_; apply Exists.intro; refine ⟨fun w1 hb1 => ?_, ?_⟩; (focus (((obtain ⟨-, k0, -⟩ := K0.out.to (T.out.trans hb1); obtain ⟨-, k1, -⟩ := K1.out.to (T.out.trans hb1)); have hb1 := Lib.hid hb1; go_simp); (try (go_bits; try go_simp)); (try (rw [if_pos (by omega)]; try go_simp)); (first | done | (fail) | (with_reducible rfl) | exact rfl)))
  simp only [Act.put, List.setIfInBounds_toArray, List.set_cons_zero, List.set_cons_succ]
  refine WT_yes 7 rfl (by kernel_rfl) (fun _ _ _ _ _ h => h) (by rfl) ?_; apply Exists.intro; refine ⟨fun w1 hb1 => ?_, ?_⟩; (focus (((obtain ⟨-, k0, -⟩ := K0.out.to (T.out.trans hb1); obtain ⟨-, k1, -⟩ := K1.out.to (T.out.trans hb1)); have hb1 := Lib.hid hb1; go_simp); (try (go_bits; try go_simp)); (try (rw [if_pos (by omega)]; try go_simp)); (first | done | (fail) | (with_reducible rfl) | exact rfl)))
  simp only [Act.put, List.setIfInBounds_toArray, List.set_cons_zero, List.set_cons_succ]
  refine WT_yes 8 rfl (by kernel_rfl) (fun _ _ _ _ _ h => h) (by rfl) ?_; apply Exists.intro; refine ⟨fun w1 hb1 => ?_, ?_⟩; (focus (((obtain ⟨-, k0, -⟩ := K0.out.to (T.out.trans hb1); obtain ⟨-, k1, -⟩ := K1.out.to (T.out.trans hb1)); have hb1 := Lib.hid hb1; go_simp); (try (go_bits; try go_simp)); (try (rw [if_pos (by omega)]; try go_simp)); (first | done | (fail) | (with_reducible rfl) | exact rfl)))
  simp only [Act.put, List.setIfInBounds_toArray, List.set_cons_zero, List.set_cons_succ]
  refine WT_one 4 rfl (by kernel_rfl) ?_
  unfold stepT
  go_wp2_with fail
  refine (HM1.out _ (bThen HB.out T.out)).mono ?_
  rintro e wX ⟨aX, vX, rfl, hvX, hb, hlX⟩
  have HVX := Lib.hid hvX
  have HLX := Lib.hid (fun (P : Nat → Prop) (h : ∀ b, w3.heap.size ≤ b → P b) => hlX P (fun b hb => h b (Nat.le_trans T.out.size hb)) (fun i hi => by cases hi))
  have hbd := Lib.hid (hb.mono T.out.size)
  replace T := Lib.hid (T.out.trans hbd.out)
  clear hb hlX
  clear hvX
  go_wp2_with fail
  refine ⟨hbd.out, ?_⟩
  clear hbd
  refine WT_one 9 rfl (by kernel_rfl) ?_
  unfold stepT
  go_wp2_with fail
  refine (HM2.out _ (bThen HB.out T.out)).mono ?_
  rintro e wY ⟨aY, vY, rfl, hvY, hb, hlY⟩
  have HVY := Lib.hid hvY
  have HLY := Lib.hid (fun (P : Nat → Prop) (h : ∀ b, w3.heap.size ≤ b → P b) => hlY P (fun b hb => h b (Nat.le_trans T.out.size hb)) (fun i hi => by cases hi))
  replace HVX := Lib.hid (HVX.out.to hb)
  have hbd := Lib.hid (hb.mono T.out.size)
  replace T := Lib.hid (T.out.trans hbd.out)
  clear hb hlY
  clear hvY
  go_wp2_with fail
  refine ⟨hbd.out, ?_⟩
  clear hbd
  refine WT_one 10 rfl (by kernel_rfl) ?_
  unfold stepT
  go_wp2_with fail
  refine (HCM.out _ _ _ _ _ HVX.out HVY.out).mono ?_
  rintro e wC ⟨rfl, hb⟩
  have hbd := Lib.hid (hb.mono T.out.size)
  replace T := Lib.hid (T.out.trans hbd.out)
  clear hb
  go_wp2_with fail
  refine ⟨hbd.out, ?_⟩
  clear hbd
  refine WT_one 11 rfl (by kernel_rfl) ?_
  unfold stepT
  go_wp2_with fail
  refine ⟨Below.refl _ _, ?_⟩
  refine WT_done (by kernel_rfl) ?_
  have HB2 := Lib.hid (bThen HB.out T.out)
  clear T
  go_wp2_with fail
  go_ret
  exact ⟨rfl, HB2.out⟩

end Go.Proofs.YtjfedpblkejmkaaGreat

/-
  A node's balance: the reference's equation of fractions is the program's sum of products.
-/
namespace Go.Proofs.YtjfedpblkejmkaaGreat
open Go.RowKit

def cmpQ (p q : Int × Int) : Int := (p.1 * q.2 - q.1 * p.2).sign
theorem dg_fr1 {n m : Int} {k : Nat} (h : (dg n).length ≤ k) : (dg (fr n m).1).length ≤ k := dg_le (fr_bd1 (Nat.le_refl _)) h
theorem dg_fr2 {n m : Int} {k : Nat} (h : (dg m).length ≤ k) : (dg (fr n m).2).length ≤ k := dg_le (fr_bd2 (Nat.le_refl _)) h
end Go.Proofs.YtjfedpblkejmkaaGreat

/-
  Plain laws of a plant: the next state of the program is that of the reference; runs.
-/
namespace Go.Proofs.YtjfedpblkejmkaaGreat
open Go.RowKit

theorem cmp_fr {N D N' D' : Int} (h : 0 < D) (h' : 0 < D') : cmpQ (fr N D) (fr N' D') = (N * D' - N' * D).sign := by
  unfold cmpQ
  have a1 := fr_mul (n := N) h
  have a2 := fr_pos (n := N) h
  have b1 := fr_mul (n := N') h'
  have b2 := fr_pos (n := N') h'
  generalize fr N D = f at *
  generalize fr N' D' = g at *
  have e : (f.1 * g.2 - g.1 * f.2) * (D * D') = (N * D' - N' * D) * (f.2 * g.2) := by grind
  have s := congrArg Int.sign e
  rw [Int.sign_mul, Int.sign_mul (N * D' - N' * D), Int.sign_eq_one_of_pos (Int.mul_pos h h'), Int.sign_eq_one_of_pos (Int.mul_pos a2 b2), Int.mul_one, Int.mul_one] at s
  exact s
theorem cmp_one {N D : Int} (n : Int) (h : 0 < D) : cmpQ (fr N D) (n, 1) = (N - n * D).sign := by
  have := cmp_fr (N := N) (N' := n) h (show (0 : Int) < 1 by decide)
  rw [fr_id (show Int.gcd n 1 = 1 by simp), Int.mul_one] at this
  exact this
/-- Is a quotient less than another one? -/
def lessQ (a b : Int × Int) : Bool := decide (a.1 * b.2 < b.1 * a.2)
theorem cmp_le {N D : Int} (n : Int) (h : 0 < D) : decide (cmpQ (fr N D) (n, 1) ≤ 0) = !lessQ (n, 1) (N, D) := by
  rw [cmp_one n h]
  unfold lessQ
  dsimp only
  rw [Int.mul_one]
  by_cases h1 : n * D < N
  · rw [decide_eq_true h1, Int.sign_eq_one_of_pos (by omega)]; rfl
  · rw [decide_eq_false h1]
    have : (N - n * D).sign ≤ 0 := by
      rcases Int.lt_or_eq_of_le (show N - n * D ≤ 0 by omega) with h2 | h2
      · rw [Int.sign_eq_neg_one_of_neg h2]; decide
      · rw [h2]; decide
    exact decide_eq_true this
theorem cmp_ge {N D : Int} (n : Int) (h : 0 < D) : decide (0 ≤ cmpQ (fr N D) (n, 1)) = !lessQ (N, D) (n, 1) := by
  rw [cmp_one n h]
  unfold lessQ
  dsimp only
  rw [Int.mul_one]
  by_cases h1 : N < n * D
  · rw [decide_eq_true h1, Int.sign_eq_neg_one_of_neg (by omega)]; rfl
  · rw [decide_eq_false h1]
    have : 0 ≤ (N - n * D).sign := by
      rcases Int.lt_or_eq_of_le (show 0 ≤ N - n * D by omega) with h2 | h2
      · rw [Int.sign_eq_one_of_pos h2]; decide
      · rw [← h2]; decide
    exact decide_eq_true this
theorem cmp_lt {N D : Int} (n : Int) (h : 0 < D) : decide (cmpQ (fr N D) (n, 1) < 0) = lessQ (N, D) (n, 1) := by
  have := cmp_ge (N := N) n h
  rw [← Bool.not_inj_iff, ← this]
  by_cases h1 : 0 ≤ cmpQ (fr N D) (n, 1)
  · rw [decide_eq_true h1, decide_eq_false (by omega)]; rfl
  · rw [decide_eq_false h1, decide_eq_true (by omega)]; rfl

/-- A plant: its points, what its pump gives, when it starts and stops. -/
structure Plt where
  pts : List (Int × Int)
  pump : Int
  on : Int
  off : Int
structure PltOk (p : Plt) : Prop where
  pts : PtsOk p.pts
  pump : 0 ≤ p.pump ∧ p.pump ≤ 50
  on : 0 ≤ p.on ∧ p.on ≤ 1000
  off : 0 ≤ p.off ∧ p.off ≤ 1000
  ord : p.on < p.off
/-- The volume after a demand. -/
def vlmA (p : Plt) (s : Int × Bool) (d : Int) : Int := min ((if s.2 then s.1 + p.pump else s.1) - d) (capV p.pts)
/-- Whether the pump runs at a volume. -/
def pmpA (p : Plt) (r : Bool) (v : Int) : Bool := if lessQ (p.on, 1) (prQ p.pts v) = false then true else if lessQ (prQ p.pts v) (p.off, 1) = false then false else r
/-- The next state, of the program. -/
def nxtA (p : Plt) (s : Int × Bool) (d : Int) : Option (Int × Bool) := if vlmA p s d < 0 then none else some (vlmA p s d, pmpA p s.2 (vlmA p s d))
theorem cap_pos {p : Plt} (h : PltOk p) : 0 < capV p.pts := by
  have h2 := h.pts.two
  have := (h.pts.mono (i := 0) (d := p.pts.length - 1) (by omega)).1
  rw [h.pts.v0, Nat.zero_add] at this
  unfold capV
  omega
theorem cap_le {p : Plt} (h : PltOk p) : capV p.pts ≤ 200 := (h.pts.vol (p.pts.length - 1) (by have := h.pts.two; omega)).2
/-- A state of a plant. -/
def StOk (p : Plt) (s : Int × Bool) : Prop := 0 ≤ s.1 ∧ s.1 ≤ capV p.pts
theorem nxtA_ok {p : Plt} {s t : Int × Bool} {d : Int} (ht : nxtA p s d = some t) : StOk p t := by
  unfold nxtA at ht
  split at ht
  · cases ht
  · rename_i h0
    cases ht
    exact ⟨by dsimp only; omega, by dsimp only; unfold vlmA; omega⟩
end Go.Proofs.YtjfedpblkejmkaaGreat

/-
  A drawn region whose first operations keep what lies below any N; a row of its own, known whole.
-/
namespace Go.Proofs.YtjfedpblkejmkaaGreat
open Go.RowKit

/-- A row of its own, from block n0 on: its cells, whole. -/
def Own (W : World) (n0 : Nat) (a : Option Addr) (m : Nat) (f : Nat → Value) : Prop :=
  (∀ p, a = some p → n0 ≤ p.block ∧ p.block < W.heap.size) ∧ (m = 0 ∨ ∃ g cur, a = some ⟨g, 0, none⟩ ∧ Blk W g cur ∧ ∀ i, i < m → cur[i]? = some (f i))
theorem Own.reads {W : World} {n0 : Nat} {a : Option Addr} {m : Nat} {f : Nat → Value} (h : Own W n0 a m f) : Reads W a m f := by
  rcases h.2 with h | ⟨g, cur, e, hb, hc⟩
  · exact .inl h
  · exact .inr ⟨g, 0, e, hb.1, fun i hi => by rw [Nat.zero_add, hb.2.1 i, hc i hi]⟩
theorem Own.to {W W' : World} {n0 : Nat} {a : Option Addr} {m : Nat} {f : Nat → Value} (h : Own W n0 a m f) (hb : Below W.heap.size W W') : Own W' n0 a m f := by
  refine ⟨fun p hp => ⟨(h.1 p hp).1, Nat.lt_of_lt_of_le (h.1 p hp).2 hb.size⟩, ?_⟩
  rcases h.2 with h | ⟨g, cur, e, hk, hc⟩
  · exact .inl h
  · exact .inr ⟨g, cur, e, hk.to hb, hc⟩
theorem Own.other {W : World} {n0 : Nat} {a : Option Addr} {m : Nat} {f : Nat → Value} (h : Own W n0 a m f) (p : Addr) (v : Value) (hp : p.block < n0) : Own (W.setCell p v) n0 a m f := by
  refine ⟨fun q hq => ⟨(h.1 q hq).1, by simpa [World.setCell] using (h.1 q hq).2⟩, ?_⟩
  rcases h.2 with h0 | ⟨g, cur, e, hk, hc⟩
  · exact .inl h0
  · refine .inr ⟨g, cur, e, hk.other (fun e' => ?_) v, hc⟩
    have := (h.1 _ e).1
    dsimp only at this
    omega
theorem Own.at {W : World} {n0 : Nat} {a : Option Addr} {m : Nat} {f : Nat → Value} (h : Own W n0 a m f) (hm : 0 < m) : ∃ g cur, a = some ⟨g, 0, none⟩ ∧ n0 ≤ g ∧ Blk W g cur ∧ ∀ i, i < m → cur[i]? = some (f i) := by
  rcases h.2 with h0 | ⟨g, cur, e, hk, hc⟩
  · omega
  · exact ⟨g, cur, e, (h.1 _ e).1, hk, hc⟩
theorem Blk.row {W : World} {g : Nat} {cur : Array Value} {m : Nat} {f : Nat → Value} (h : Blk W g cur) (hc : ∀ i, i < m → cur[i]? = some (f i)) : Reads W (some ⟨g, 0, none⟩) m f :=
  .inr ⟨g, 0, rfl, h.1, fun i hi => by rw [Nat.zero_add, h.2.1 i, hc i hi]⟩
theorem Own.of_row {W : World} {n₀ : Nat} {e : TypeId} {size : Nat} {v : Value} {n : Nat} {xs : List Value} {f : Nat → Value} (h : W.ownsRow n₀ e size v n xs) (hf : ∀ i, i < n * size → xs[i]? = some (f i)) :
    ∃ a cap, v = .slice a n cap ∧ n ≤ cap ∧ Own W n₀ a (n * size) f := by
  rcases h.2 with ⟨rfl, h0⟩ | ⟨g, cap, cur, rfl, hb, hg, hn, hc, hs, ht⟩
  · exact ⟨none, 0, by rw [h0], by omega, ⟨fun p hp => (by cases hp), .inl (by rw [h0, Nat.zero_mul])⟩⟩
  · have hlt : g < W.heap.size := (Array.getElem?_eq_some_iff.1 hg).1
    refine ⟨_, cap, rfl, hn, ⟨fun p hp => (by cases hp; exact ⟨hb, hlt⟩), .inr ⟨g, cur, rfl, ⟨hlt, fun o => (by unfold World.cell?; simp only [hg]; rfl), fun o => (by unfold World.frozen?; simp only [hg]; simp)⟩, fun i hi => ?_⟩⟩⟩
    rw [← hf i hi, ← ht, List.getElem?_take, if_pos hi, Array.getElem?_toList]

end Go.Proofs.YtjfedpblkejmkaaGreat

/-
  Rows of records: s cells each, the j-th cell of the k-th record is f k j.
-/
namespace Go.Proofs.YtjfedpblkejmkaaGreat
open Go.RowKit

/-- The cells of records. -/
def recs (s : Nat) (f : Nat → Nat → Value) (i : Nat) : Value := f (i / s) (i % s)
theorem recs_at {s : Nat} {f : Nat → Nat → Value} {k j : Nat} (h : j < s) : recs s f (k * s + j) = f k j := by
  unfold recs
  rw [Nat.mul_comm k s, Nat.mul_add_div (by omega), Nat.div_eq_of_lt h, Nat.mul_add_mod, Nat.mod_eq_of_lt h, Nat.add_zero]
def rcells (s : Nat) (f : Nat → Nat → Value) (n : Nat) : List Value := (List.range (n * s)).map (recs s f)
theorem rcells_len (s : Nat) (f : Nat → Nat → Value) (n : Nat) : (rcells s f n).length = n * s := by simp [rcells]
theorem rcells_get {s : Nat} {f : Nat → Nat → Value} {n i : Nat} (h : i < n * s) : (rcells s f n)[i]? = some (recs s f i) := by
  unfold rcells; rw [List.getElem?_map, List.getElem?_range h]; rfl
theorem rcells_ext {s : Nat} {f : Nat → Nat → Value} {n : Nat} {l : List Value} (hl : l.length = n * s) (h : ∀ k j, k < n → j < s → l[k * s + j]? = some (f k j)) : l = rcells s f n := by
  refine List.ext_getElem? fun i => ?_
  by_cases hi : i < n * s
  · rw [rcells_get hi]
    have hs : 0 < s := by rcases Nat.eq_zero_or_pos s with e | e; · rw [e] at hi; omega
                          · exact e
    have h1 : i / s < n := Nat.div_lt_of_lt_mul (by rw [Nat.mul_comm]; exact hi)
    have := h (i / s) (i % s) h1 (Nat.mod_lt _ hs)
    rw [Nat.div_add_mod' i s] at this
    exact this
  · rw [List.getElem?_eq_none (by omega), List.getElem?_eq_none (by rw [rcells_len]; omega)]
/-- One record more. -/
theorem rcells_snoc (s : Nat) (f : Nat → Nat → Value) (n : Nat) {l : List Value} (hl : l.length = s) (h : ∀ j, j < s → l[j]? = some (f n j)) : rcells s f n ++ l = rcells s f (n + 1) := by
  refine rcells_ext (by rw [List.length_append, rcells_len, hl, Nat.succ_mul]) fun k j hk hj => ?_
  by_cases hkn : k < n
  · have hlt : k * s + j < n * s := by
      have : (k + 1) * s ≤ n * s := Nat.mul_le_mul_right _ hkn
      rw [Nat.succ_mul] at this; omega
    rw [List.getElem?_append_left (by rw [rcells_len]; exact hlt), rcells_get hlt, recs_at hj]
  · obtain rfl : k = n := by omega
    rw [List.getElem?_append_right (by rw [rcells_len]; omega), rcells_len, show k * s + j - k * s = j by omega]
    exact h j hj
end Go.Proofs.YtjfedpblkejmkaaGreat

