/-
  Texts of this claim, in their build order: W8.
-/
import Derived.Test.YtbpcapcgbnbknaaGreatOne10
import Derived.Test.YtbpcapcgbnbknaaGreatOne6
import Derived.Test.YtbpcapcgbnbknaaGreatOne0

namespace Go.Proofs.YtbpcapcgbnbknaaGreat
section
set_option maxRecDepth 100000
set_option maxHeartbeats 1600000
open Go.RowKit

theorem WideAdd_1 (z1 z2 : Int) (a1 a2 : Option Addr) (v1 v2 : Value) (w : World) (h1 : RW w a1 v1 z1) (h2 : RW w a2 v2 z2) (hz : z1 = 0) :
    Calls Tryz.prog 150 #[v1, v2] w fun e w1 => WPost [(a1, z1), (a2, z2)] (z1 + z2) w e w1 := by
  have HV1 := zH h1
  have HV2 := zH h2
  obtain ⟨c1, rfl, hc1, hr1⟩ := h1
  obtain ⟨c2, rfl, hc2, hr2⟩ := h2
  have HR1 := zH hr1
  have HR2 := zH hr2
  have sb1 := sign_bd z1
  have sb2 := sign_bd z2
  have e0 : z1.sign = 0 := by rw [hz]; rfl
  have hzz : z1 + z2 = z2 := by omega
  rw [hzz]
  have HP : Hid (∀ (w' : World) (e : Ending), Below w.heap.size w w' → e = .returned (.agg #[.int .i64 z2.sign, .slice a2 (dg z2).length c2]) → WPost [(a1, z1), (a2, z2)] z2 w e w') := zH (fun w' e hb he =>
    ⟨a2, _, he, HV2.out.to hb, hb, fun P _ hi => hi (a2, z2) (by simp)⟩)
  obtain ⟨s1, hs1⟩ : ∃ s, z1.sign = s := ⟨_, rfl⟩
  obtain ⟨s2, hs2⟩ : ∃ s, z2.sign = s := ⟨_, rfl⟩
  obtain ⟨n1, hn1⟩ : ∃ n, (dg z1).length = n := ⟨_, rfl⟩
  obtain ⟨n2, hn2⟩ : ∃ n, (dg z2).length = n := ⟨_, rfl⟩
  rw [hs2, hn2] at HP
  rw [hs1] at e0
  rw [hs1, hs2, hn1, hn2]
  clear HV1 HV2 HR1 HR2 hr1 hr2 hc1 hc2 sb1 sb2 hs1 hs2 hn1 hn2 hzz hz
  have e3 : (s1 == 0) = true := by rw [e0]; rfl
  clear e0
  go_enter Tryz.func150, Tryz.ntmps150
  go_upto_region 1 with (fail)
  obtain ⟨w3, hw3⟩ : ∃ w3, ((w.alloc (.cells #[.int .i64 s1, .slice a1 n1 c1] 63)).alloc (.cells #[.int .i64 s2, .slice a2 n2 c2] 63)).alloc (.cells #[.int .i64 0, .slice none 0 0] 63) = w3 := ⟨_, rfl⟩
  rw [hw3]
  have K0 : Hid (Blk w3 w.heap.size #[.int .i64 s1, .slice a1 n1 c1]) := by subst hw3; exact zH (((Blk.new _ _ _).alloc _).alloc _)
  have K1 : Hid (Blk w3 (w.heap.size + 1) #[.int .i64 s2, .slice a2 n2 c2]) := by subst hw3; exact zH ((Blk.newAt _ _ _ (by simp)).alloc _)
  have K2 : Hid (Blk w3 (w.heap.size + 2) #[.int .i64 0, .slice none 0 0]) := by subst hw3; exact zH (Blk.newAt _ _ _ (by simp))
  have HB : Hid (Below w.heap.size w w3) := by subst hw3; exact zH (bAlloc (bAlloc (bAlloc (bSelf w) _) _) _)
  clear hw3
  obtain ⟨h0, k0, f0⟩ := K0.out
  obtain ⟨h1, k1, f1⟩ := K1.out
  obtain ⟨h2, k2, f2⟩ := K2.out
  go_wp2_with fail
  clear k0 f0 k1 f1 k2 f2
  have F := ((K2.out.set 0 (.int .i64 s2)).set 1 (.slice a2 n2 c2)).2.1
  have F0 := F 0; have F1 := F 1
  clear F
  have hF := (HB.out.setCell (p := ⟨w.heap.size + 2, 0, none⟩) (by dsimp only; omega) (.int .i64 s2)).setCell (p := ⟨w.heap.size + 2, 1, none⟩) (by dsimp only; omega) (.slice a2 n2 c2)
  refine bodyPost_ret (v := .agg #[.int .i64 s2, .slice a2 n2 c2]) ?_ rfl (HP.out _ _ hF rfl)
  simp [results, Tryz.results150, go_sem, F0, F1]

theorem WideAdd_2 (z1 z2 : Int) (a1 a2 : Option Addr) (v1 v2 : Value) (w : World) (h1 : RW w a1 v1 z1) (h2 : RW w a2 v2 z2) (hz1 : z1 ≠ 0) (hz : z2 = 0) :
    Calls Tryz.prog 150 #[v1, v2] w fun e w1 => WPost [(a1, z1), (a2, z2)] (z1 + z2) w e w1 := by
  have HV1 := zH h1
  have HV2 := zH h2
  obtain ⟨c1, rfl, hc1, hr1⟩ := h1
  obtain ⟨c2, rfl, hc2, hr2⟩ := h2
  have HR1 := zH hr1
  have HR2 := zH hr2
  have sb1 := sign_bd z1
  have sb2 := sign_bd z2
  have e0 : z2.sign = 0 := by rw [hz]; rfl
  have e1 : z1.sign ≠ 0 := fun h => hz1 (Int.sign_eq_zero_iff_zero.1 h)
  have hzz : z1 + z2 = z1 := by omega
  rw [hzz]
  have HP : Hid (∀ (w' : World) (e : Ending), Below w.heap.size w w' → e = .returned (.agg #[.int .i64 z1.sign, .slice a1 (dg z1).length c1]) → WPost [(a1, z1), (a2, z2)] z1 w e w') := zH (fun w' e hb he =>
    ⟨a1, _, he, HV1.out.to hb, hb, fun P _ hi => hi (a1, z1) (by simp)⟩)
  obtain ⟨s1, hs1⟩ : ∃ s, z1.sign = s := ⟨_, rfl⟩
  obtain ⟨s2, hs2⟩ : ∃ s, z2.sign = s := ⟨_, rfl⟩
  obtain ⟨n1, hn1⟩ : ∃ n, (dg z1).length = n := ⟨_, rfl⟩
  obtain ⟨n2, hn2⟩ : ∃ n, (dg z2).length = n := ⟨_, rfl⟩
  rw [hs1, hn1] at HP
  rw [hs2] at e0
  rw [hs1] at e1
  rw [hs1, hs2, hn1, hn2]
  clear HV1 HV2 HR1 HR2 hr1 hr2 hc1 hc2 sb1 sb2 hs1 hs2 hn1 hn2 hzz hz
  clear hz1
  have e2 : (s1 == 0) = false := by simpa using e1
  have e3 : (s2 == 0) = true := by rw [e0]; rfl
  clear e0
  go_enter Tryz.func150, Tryz.ntmps150
  go_upto_region 1 with (fail)
  obtain ⟨w3, hw3⟩ : ∃ w3, ((w.alloc (.cells #[.int .i64 s1, .slice a1 n1 c1] 63)).alloc (.cells #[.int .i64 s2, .slice a2 n2 c2] 63)).alloc (.cells #[.int .i64 0, .slice none 0 0] 63) = w3 := ⟨_, rfl⟩
  rw [hw3]
  have K0 : Hid (Blk w3 w.heap.size #[.int .i64 s1, .slice a1 n1 c1]) := by subst hw3; exact zH (((Blk.new _ _ _).alloc _).alloc _)
  have K1 : Hid (Blk w3 (w.heap.size + 1) #[.int .i64 s2, .slice a2 n2 c2]) := by subst hw3; exact zH ((Blk.newAt _ _ _ (by simp)).alloc _)
  have K2 : Hid (Blk w3 (w.heap.size + 2) #[.int .i64 0, .slice none 0 0]) := by subst hw3; exact zH (Blk.newAt _ _ _ (by simp))
  have HB : Hid (Below w.heap.size w w3) := by subst hw3; exact zH (bAlloc (bAlloc (bAlloc (bSelf w) _) _) _)
  clear hw3
  obtain ⟨h0, k0, f0⟩ := K0.out
  obtain ⟨h1, k1, f1⟩ := K1.out
  obtain ⟨h2, k2, f2⟩ := K2.out
  go_wp2_with fail
  clear k0 f0 k1 f1 k2 f2
  have F := ((K2.out.set 0 (.int .i64 s1)).set 1 (.slice a1 n1 c1)).2.1
  have F0 := F 0; have F1 := F 1
  clear F
  have hF := (HB.out.setCell (p := ⟨w.heap.size + 2, 0, none⟩) (by dsimp only; omega) (.int .i64 s1)).setCell (p := ⟨w.heap.size + 2, 1, none⟩) (by dsimp only; omega) (.slice a1 n1 c1)
  refine bodyPost_ret (v := .agg #[.int .i64 s1, .slice a1 n1 c1]) ?_ rfl (HP.out _ _ hF rfl)
  simp [results, Tryz.results150, go_sem, F0, F1]

theorem digs_mono {m n : Nat} (h : m ≤ n) : (digs m).length ≤ (digs n).length := by
  apply Classical.byContradiction
  intro hc
  have := digs_lt (m := n) (n := m) (by omega)
  omega
theorem DPost.mono {P Q : List Int → Prop} (h : ∀ out, P out → Q out) {w : World} {e : Ending} {w' : World} (hp : DPost P w e w') : DPost Q w e w' := by
  obtain ⟨out, a, cap, h1, h2, h3⟩ := hp
  exact ⟨out, a, cap, h1, h _ h2, h3⟩
/-- Digits of a value, and how many. -/
def DV (V : Int) (out : List Int) : Prop := Dig out ∧ val out = V ∧ out.length ≤ 801

theorem WideAdd_3 (z1 z2 : Int) (a1 a2 : Option Addr) (v1 v2 : Value) (w : World) (h1 : RW w a1 v1 z1) (h2 : RW w a2 v2 z2) (hz1 : z1 ≠ 0) (hz2 : z2 ≠ 0) (hl1 : (dg z1).length ≤ 400) (hl2 : (dg z2).length ≤ 400) (hss : z1.sign = z2.sign) :
    Calls Tryz.prog 150 #[v1, v2] w fun e w1 => WPost [(a1, z1), (a2, z2)] (z1 + z2) w e w1 := by
  have HV1 := zH h1
  have HV2 := zH h2
  obtain ⟨c1, rfl, hc1, hr1⟩ := h1
  obtain ⟨c2, rfl, hc2, hr2⟩ := h2
  have HR1 := zH hr1
  have HR2 := zH hr2
  have sb1 := sign_bd z1
  have sb2 := sign_bd z2
  have hV : z1.sign * ((z1.natAbs : Int) + z2.natAbs) = z1 + z2 := by rcases Int.lt_or_lt_of_ne hz1 with h | h <;> rcases Int.lt_or_lt_of_ne hz2 with h' | h' <;> simp only [Int.sign_eq_one_of_pos, Int.sign_eq_neg_one_of_neg, h, h'] at hss ⊢ <;> omega
  have hsg : z1.sign = 1 ∨ z1.sign = -1 := by have h0 : z1.sign ≠ 0 := fun h => hz1 (Int.sign_eq_zero_iff_zero.1 h); omega
  have HOP : Hid (∀ W, Below w.heap.size w W → Calls Tryz.prog 183 #[.slice a1 (dg z1).length c1, .slice a2 (dg z2).length c2] W fun e w1 => DPost (DV ((z1.natAbs : Int) + z2.natAbs)) W e w1) := zH (fun W hb => (addDigits_any (dg z1) (dg z2) a1 a2 c1 c2 W (dg_dig z1) (dg_dig z2) hl1 hl2 (HR1.out.to hb) (HR2.out.to hb)).mono (fun e w1 h => h.mono (fun out h => ⟨h.1, by rw [h.2.1, val_dg, val_dg], by omega⟩)))
  have HWF : Hid (∀ (out : List Int) (a : Option Addr) (cap : Nat) (W : World), DV ((z1.natAbs : Int) + z2.natAbs) out → out.length ≤ cap → Reads W a out.length (ints out) → Calls Tryz.prog 127 #[.int .i64 z1.sign, .slice a out.length cap] W fun e w1 => WAt a (z1 + z2) W e w1) := zH (fun out a cap W hd hc hr => by
    have := wideOf_any z1.sign out a cap W hd.1 (by rcases hsg with h | h; exact .inl h; exact .inr (.inl h)) (by have := hd.2.2; omega) hc hr
    rw [hd.2.1, hV] at this
    exact this)
  have e1 : z1.sign ≠ 0 := fun h => hz1 (Int.sign_eq_zero_iff_zero.1 h)
  have e2 : z2.sign ≠ 0 := fun h => hz2 (Int.sign_eq_zero_iff_zero.1 h)
  obtain ⟨s1, hs1⟩ : ∃ s, z1.sign = s := ⟨_, rfl⟩
  obtain ⟨s2, hs2⟩ : ∃ s, z2.sign = s := ⟨_, rfl⟩
  obtain ⟨n1, hn1⟩ : ∃ n, (dg z1).length = n := ⟨_, rfl⟩
  obtain ⟨n2, hn2⟩ : ∃ n, (dg z2).length = n := ⟨_, rfl⟩
  rw [hs1] at HWF e1 sb1 hss
  rw [hs2] at e2 sb2 hss
  rw [hn1, hn2] at HOP
  rw [hs1, hs2, hn1, hn2]
  clear HV1 HV2 hr1 hr2 hc1 hc2 hV hsg hl1 hl2 hz1 hz2 HR1 HR2 hs1 hs2 hn1 hn2
  have q1 : (s1 == 0) = false := by simpa using e1
  have q2 : (s2 == 0) = false := by simpa using e2
  have q3 : (s1 == s2) = true := by simpa using hss
  clear e1 e2 hss
  go_enter Tryz.func150, Tryz.ntmps150
  go_upto_region 1 with (fail)
  obtain ⟨w3, hw3⟩ : ∃ w3, ((w.alloc (.cells #[.int .i64 s1, .slice a1 n1 c1] 63)).alloc (.cells #[.int .i64 s2, .slice a2 n2 c2] 63)).alloc (.cells #[.int .i64 0, .slice none 0 0] 63) = w3 := ⟨_, rfl⟩
  rw [hw3]
  have K0 : Hid (Blk w3 w.heap.size #[.int .i64 s1, .slice a1 n1 c1]) := by subst hw3; exact zH (((Blk.new _ _ _).alloc _).alloc _)
  have K1 : Hid (Blk w3 (w.heap.size + 1) #[.int .i64 s2, .slice a2 n2 c2]) := by subst hw3; exact zH ((Blk.newAt _ _ _ (by simp)).alloc _)
  have K2 : Hid (Blk w3 (w.heap.size + 2) #[.int .i64 0, .slice none 0 0]) := by subst hw3; exact zH (Blk.newAt _ _ _ (by simp))
  have HB : Hid (Below w.heap.size w w3) := by subst hw3; exact zH (bAlloc (bAlloc (bAlloc (bSelf w) _) _) _)
  clear hw3
  obtain ⟨h0, k0, f0⟩ := K0.out
  obtain ⟨h1, k1, f1⟩ := K1.out
  go_upto_region 6 with (fail)
  clear k0 f0 k1 f1
  refine wp_region_treeN (w.heap.size + 2) (by kernel_rfl) (fun wd hwd => ?_)
  have h32 : w.heap.size + 2 < w3.heap.size := K2.out.1
  have T := zH hwd
  clear hwd
  refine WTq 0 ?_; apply Exists.intro; refine ⟨fun w1 hb1 => ?_, ?_⟩; (focus (((obtain ⟨-, k0, -⟩ := (K0.out.to T.out).below hb1 (show w.heap.size < w.heap.size + 2 by omega); obtain ⟨-, k1, -⟩ := (K1.out.to T.out).below hb1 (show w.heap.size + 1 < w.heap.size + 2 by omega)); have hb1 := zH hb1; go_simp); (try (go_bits; try go_simp)); (try (rw [if_pos (by omega)]; try go_simp)); (first | done | (with_reducible rfl) | exact rfl)))
  simp only [Act.put, zzT, zzO, zzS]
  refine WTq 1 ?_; apply Exists.intro; refine ⟨fun w1 hb1 => ?_, ?_⟩; (focus (((obtain ⟨-, k0, -⟩ := (K0.out.to T.out).below hb1 (show w.heap.size < w.heap.size + 2 by omega); obtain ⟨-, k1, -⟩ := (K1.out.to T.out).below hb1 (show w.heap.size + 1 < w.heap.size + 2 by omega)); have hb1 := zH hb1; go_simp); (try (go_bits; try go_simp)); (try (rw [if_pos (by omega)]; try go_simp)); (first | done | (with_reducible rfl) | exact rfl)))
  simp only [Act.put, zzT, zzO, zzS]
  refine WTq 2 ?_; apply Exists.intro; refine ⟨fun w1 hb1 => ?_, ?_⟩; (focus (((obtain ⟨-, k0, -⟩ := (K0.out.to T.out).below hb1 (show w.heap.size < w.heap.size + 2 by omega); obtain ⟨-, k1, -⟩ := (K1.out.to T.out).below hb1 (show w.heap.size + 1 < w.heap.size + 2 by omega)); have hb1 := zH hb1; go_simp); (try (go_bits; try go_simp)); (try (rw [if_pos (by omega)]; try go_simp)); (first | done | (with_reducible rfl) | exact rfl)))
  simp only [Act.put, zzT, zzO, zzS]
  refine WTq 3 ?_; apply Exists.intro; refine ⟨fun w1 hb1 => ?_, ?_⟩; (focus (((obtain ⟨-, k0, -⟩ := (K0.out.to T.out).below hb1 (show w.heap.size < w.heap.size + 2 by omega); obtain ⟨-, k1, -⟩ := (K1.out.to T.out).below hb1 (show w.heap.size + 1 < w.heap.size + 2 by omega)); have hb1 := zH hb1; go_simp); (try (go_bits; try go_simp)); (try (rw [if_pos (by omega)]; try go_simp)); (first | done | (with_reducible rfl) | exact rfl)))
  simp only [Act.put, zzT, zzO, zzS]
  refine WTq 4 ?_; apply Exists.intro; refine ⟨fun w1 hb1 => ?_, ?_⟩; (focus (((obtain ⟨-, k0, -⟩ := (K0.out.to T.out).below hb1 (show w.heap.size < w.heap.size + 2 by omega); obtain ⟨-, k1, -⟩ := (K1.out.to T.out).below hb1 (show w.heap.size + 1 < w.heap.size + 2 by omega)); have hb1 := zH hb1; go_simp); (try (go_bits; try go_simp)); (try (rw [if_pos (by omega)]; try go_simp)); (first | done | (with_reducible rfl) | exact rfl)))
  simp only [Act.put, zzT, zzO, zzS]
  refine WTq 5 ?_; apply Exists.intro; refine ⟨fun w1 hb1 => ?_, ?_⟩; (focus (((obtain ⟨-, k0, -⟩ := (K0.out.to T.out).below hb1 (show w.heap.size < w.heap.size + 2 by omega); obtain ⟨-, k1, -⟩ := (K1.out.to T.out).below hb1 (show w.heap.size + 1 < w.heap.size + 2 by omega)); have hb1 := zH hb1; go_simp); (try (go_bits; try go_simp)); (try (rw [if_pos (by omega)]; try go_simp)); (first | done | (with_reducible rfl) | exact rfl)))
  simp only [Act.put, zzT, zzO, zzS]
  refine WT_one 6 rfl (by kernel_rfl) ?_
  unfold stepT
  go_wp2_with fail
  refine (HOP.out _ (Below.trans HB.out (T.out.mono (by omega)))).mono ?_
  rintro e w4 ⟨out, a3, c3, rfl, hP, hc3, hr3, hb, hfr⟩
  have hszd : w3.heap.size ≤ wd.heap.size := T.out.size
  have hbd := zH (hb.mono (show w.heap.size + 2 ≤ wd.heap.size by omega))
  replace T := zH (bThen T.out hb)
  have HR3 := zH hr3
  have HFR := zH hfr
  have HPP := zH hP
  clear hb hr3 hfr hP
  go_wp2_with fail
  refine ⟨hbd.out, ?_⟩
  clear hbd
  refine WT_one 7 rfl (by kernel_rfl) ?_
  unfold stepT
  go_wp2_with fail
  refine (HWF.out out a3 c3 _ HPP.out hc3 HR3.out).mono ?_
  rintro e w5 ⟨v5, rfl, hv5, hb⟩
  have hsz4 : w3.heap.size ≤ w4.heap.size := T.out.size
  have hbd := zH (hb.mono (show w.heap.size + 2 ≤ w4.heap.size by omega))
  replace T := zH (bThen T.out hb)
  have HV5 := zH hv5
  obtain ⟨c5, rfl, -, -⟩ := hv5
  clear hb
  replace K2 := zH (K2.out.to T.out)
  have HB5 := zH (bThen HB.out T.out)
  have HP : Hid (∀ (w' : World) (e : Ending), w' = (w5.setCell ⟨w.heap.size + 2, 0, none⟩ (.int .i64 (z1 + z2).sign)).setCell ⟨w.heap.size + 2, 1, none⟩ (.slice a3 (dg (z1 + z2)).length c5) → e = .returned (.agg #[.int .i64 (z1 + z2).sign, .slice a3 (dg (z1 + z2)).length c5]) → WPost [(a1, z1), (a2, z2)] (z1 + z2) w e w') := zH (fun w' e hw he => by
    subst hw
    refine ⟨a3, _, he, HV5.out.set2 (fun p hp => by have := HFR.out p hp; omega) _ _, ?_, fun P hf _ _ p hp => hf _ (by have := HFR.out p hp; omega)⟩
    exact (HB5.out.setCell (p := ⟨w.heap.size + 2, 0, none⟩) (by dsimp only; omega) _).setCell (p := ⟨w.heap.size + 2, 1, none⟩) (by dsimp only; omega) _)
  clear HV5
  obtain ⟨sg, hsg⟩ : ∃ s, (z1 + z2).sign = s := ⟨_, rfl⟩
  obtain ⟨D, hD⟩ : ∃ n, (dg (z1 + z2)).length = n := ⟨_, rfl⟩
  rw [hsg, hD] at HP ⊢
  clear hsg hD
  go_wp2_with fail
  refine ⟨hbd.out, ?_⟩
  clear hbd
  refine WT_one 8 rfl (by kernel_rfl) ?_
  unfold stepT
  obtain ⟨h2, k2, f2⟩ := K2.out
  go_wp2_with fail
  clear k2 f2
  refine ⟨((Below.refl _ _).setCell (p := ⟨w.heap.size + 2, 0, none⟩) (Nat.le_refl _) _).setCell (p := ⟨w.heap.size + 2, 1, none⟩) (Nat.le_refl _) _, ?_⟩
  refine WT_done (by kernel_rfl) ?_
  go_wp2_with fail
  have F := ((K2.out.set 0 (.int .i64 sg)).set 1 (.slice a3 D c5)).2.1
  have F0 := F 0; have F1 := F 1
  clear F
  refine bodyPost_ret (v := .agg #[.int .i64 sg, .slice a3 D c5]) ?_ rfl (HP.out _ _ rfl rfl)
  simp [results, Tryz.results150, go_sem, F0, F1]

theorem WideAdd_4 (z1 z2 : Int) (a1 a2 : Option Addr) (v1 v2 : Value) (w : World) (h1 : RW w a1 v1 z1) (h2 : RW w a2 v2 z2) (hz1 : z1 ≠ 0) (hz2 : z2 ≠ 0) (hl1 : (dg z1).length ≤ 400) (hss : z1.sign ≠ z2.sign) (hgt : z2.natAbs < z1.natAbs) :
    Calls Tryz.prog 150 #[v1, v2] w fun e w1 => WPost [(a1, z1), (a2, z2)] (z1 + z2) w e w1 := by
  have HV1 := zH h1
  have HV2 := zH h2
  obtain ⟨c1, rfl, hc1, hr1⟩ := h1
  obtain ⟨c2, rfl, hc2, hr2⟩ := h2
  have HR1 := zH hr1
  have HR2 := zH hr2
  have sb1 := sign_bd z1
  have sb2 := sign_bd z2
  have hV : z1.sign * ((z1.natAbs : Int) - z2.natAbs) = z1 + z2 := by rcases Int.lt_or_lt_of_ne hz1 with h | h <;> rcases Int.lt_or_lt_of_ne hz2 with h' | h' <;> simp only [Int.sign_eq_one_of_pos, Int.sign_eq_neg_one_of_neg, h, h'] at hss ⊢ <;> omega
  have hsg : z1.sign = 1 ∨ z1.sign = -1 := by have h0 : z1.sign ≠ 0 := fun h => hz1 (Int.sign_eq_zero_iff_zero.1 h); omega
  have hle : (dg z2).length ≤ (dg z1).length := digs_mono (by omega)
  have HOP : Hid (∀ W, Below w.heap.size w W → Calls Tryz.prog 185 #[.slice a1 (dg z1).length c1, .slice a2 (dg z2).length c2] W fun e w1 => DPost (DV ((z1.natAbs : Int) - z2.natAbs)) W e w1) := zH (fun W hb => (subDigits_any (dg z1) (dg z2) a1 a2 c1 c2 W (dg_dig _) (dg_dig _) hl1 hle (by rw [val_dg, val_dg]; omega) (HR1.out.to hb) (HR2.out.to hb)).mono (fun e w1 h => h.mono (fun out h => by
    rw [val_dg, val_dg] at h
    have hlen : (digs ((z1.natAbs : Int) - z2.natAbs).toNat).length ≤ (dg z1).length := digs_mono (by omega)
    refine ⟨by rw [h]; exact digs_dig _, by rw [h, val_digs]; omega, by rw [h]; omega⟩)))
  have HWF : Hid (∀ (out : List Int) (a : Option Addr) (cap : Nat) (W : World), DV ((z1.natAbs : Int) - z2.natAbs) out → out.length ≤ cap → Reads W a out.length (ints out) → Calls Tryz.prog 127 #[.int .i64 z1.sign, .slice a out.length cap] W fun e w1 => WAt a (z1 + z2) W e w1) := zH (fun out a cap W hd hc hr => by
    have := wideOf_any z1.sign out a cap W hd.1 (by rcases hsg with h | h; exact .inl h; exact .inr (.inl h)) (by have := hd.2.2; omega) hc hr
    rw [hd.2.1, hV] at this
    exact this)
  have hcm : cmpI z1.natAbs z2.natAbs = 1 := by unfold cmpI; rw [if_neg (by omega), if_pos (by omega)]
  have HCMP : Hid (∀ W, Below w.heap.size w W → Calls Tryz.prog 184 #[.slice a1 (dg z1).length c1, .slice a2 (dg z2).length c2] W fun e w' => e = .returned (.int .i64 (1)) ∧ Below W.heap.size W w') := zH (fun W hb => by
    have := cmpDigits_any z1.natAbs z2.natAbs a1 a2 c1 c2 W (show (dg z1).length ≤ 1000 by omega) (HR1.out.to hb) (HR2.out.to hb)
    rw [hcm] at this
    exact this)
  have e1 : z1.sign ≠ 0 := fun h => hz1 (Int.sign_eq_zero_iff_zero.1 h)
  have e2 : z2.sign ≠ 0 := fun h => hz2 (Int.sign_eq_zero_iff_zero.1 h)
  obtain ⟨s1, hs1⟩ : ∃ s, z1.sign = s := ⟨_, rfl⟩
  obtain ⟨s2, hs2⟩ : ∃ s, z2.sign = s := ⟨_, rfl⟩
  obtain ⟨n1, hn1⟩ : ∃ n, (dg z1).length = n := ⟨_, rfl⟩
  obtain ⟨n2, hn2⟩ : ∃ n, (dg z2).length = n := ⟨_, rfl⟩
  rw [hs1] at HWF e1 sb1 hss
  rw [hs2] at  e2 sb2 hss
  rw [hn1, hn2] at HOP HCMP
  rw [hs1, hs2, hn1, hn2]
  clear hV HV1 HV2 hr1 hr2 hc1 hc2 hsg hl1 hz1 hz2 HR1 HR2 hs1 hs2 hn1 hn2 hcm hle
  have q1 : (s1 == 0) = false := by simpa using e1
  have q2 : (s2 == 0) = false := by simpa using e2
  have q3 : (s1 == s2) = false := by simpa using hss
  clear e1 e2 hss
  go_enter Tryz.func150, Tryz.ntmps150
  go_upto_region 1 with (fail)
  obtain ⟨w3, hw3⟩ : ∃ w3, ((w.alloc (.cells #[.int .i64 s1, .slice a1 n1 c1] 63)).alloc (.cells #[.int .i64 s2, .slice a2 n2 c2] 63)).alloc (.cells #[.int .i64 0, .slice none 0 0] 63) = w3 := ⟨_, rfl⟩
  rw [hw3]
  have K0 : Hid (Blk w3 w.heap.size #[.int .i64 s1, .slice a1 n1 c1]) := by subst hw3; exact zH (((Blk.new _ _ _).alloc _).alloc _)
  have K1 : Hid (Blk w3 (w.heap.size + 1) #[.int .i64 s2, .slice a2 n2 c2]) := by subst hw3; exact zH ((Blk.newAt _ _ _ (by simp)).alloc _)
  have K2 : Hid (Blk w3 (w.heap.size + 2) #[.int .i64 0, .slice none 0 0]) := by subst hw3; exact zH (Blk.newAt _ _ _ (by simp))
  have HB : Hid (Below w.heap.size w w3) := by subst hw3; exact zH (bAlloc (bAlloc (bAlloc (bSelf w) _) _) _)
  clear hw3
  obtain ⟨h0, k0, f0⟩ := K0.out
  obtain ⟨h1, k1, f1⟩ := K1.out
  go_wp2_with fail
  refine (HCMP.out _ HB.out).mono ?_
  rintro e wc ⟨rfl, hb⟩
  replace K0 := zH (K0.out.to hb)
  replace K1 := zH (K1.out.to hb)
  replace K2 := zH (K2.out.to hb)
  replace HB := zH (bThen HB.out hb)
  clear hb k0 f0 k1 f1 h0 h1
  go_upto_region 11 with (fail)
  refine wp_region_treeN (w.heap.size + 2) (by kernel_rfl) (fun wd hwd => ?_)
  have h32 : w.heap.size + 2 < wc.heap.size := K2.out.1
  have T := zH hwd
  clear hwd
  refine WTq 0 ?_; apply Exists.intro; refine ⟨fun w1 hb1 => ?_, ?_⟩; (focus (((obtain ⟨-, k0, -⟩ := (K0.out.to T.out).below hb1 (show w.heap.size < w.heap.size + 2 by omega); obtain ⟨-, k1, -⟩ := (K1.out.to T.out).below hb1 (show w.heap.size + 1 < w.heap.size + 2 by omega)); have hb1 := zH hb1; go_simp); (try (go_bits; try go_simp)); (try (rw [if_pos (by omega)]; try go_simp)); (first | done | (with_reducible rfl) | exact rfl)))
  simp only [Act.put, zzT, zzO, zzS]
  refine WTq 1 ?_; apply Exists.intro; refine ⟨fun w1 hb1 => ?_, ?_⟩; (focus (((obtain ⟨-, k0, -⟩ := (K0.out.to T.out).below hb1 (show w.heap.size < w.heap.size + 2 by omega); obtain ⟨-, k1, -⟩ := (K1.out.to T.out).below hb1 (show w.heap.size + 1 < w.heap.size + 2 by omega)); have hb1 := zH hb1; go_simp); (try (go_bits; try go_simp)); (try (rw [if_pos (by omega)]; try go_simp)); (first | done | (with_reducible rfl) | exact rfl)))
  simp only [Act.put, zzT, zzO, zzS]
  refine WTq 2 ?_; apply Exists.intro; refine ⟨fun w1 hb1 => ?_, ?_⟩; (focus (((obtain ⟨-, k0, -⟩ := (K0.out.to T.out).below hb1 (show w.heap.size < w.heap.size + 2 by omega); obtain ⟨-, k1, -⟩ := (K1.out.to T.out).below hb1 (show w.heap.size + 1 < w.heap.size + 2 by omega)); have hb1 := zH hb1; go_simp); (try (go_bits; try go_simp)); (try (rw [if_pos (by omega)]; try go_simp)); (first | done | (with_reducible rfl) | exact rfl)))
  simp only [Act.put, zzT, zzO, zzS]
  refine WTq 3 ?_; apply Exists.intro; refine ⟨fun w1 hb1 => ?_, ?_⟩; (focus (((obtain ⟨-, k0, -⟩ := (K0.out.to T.out).below hb1 (show w.heap.size < w.heap.size + 2 by omega); obtain ⟨-, k1, -⟩ := (K1.out.to T.out).below hb1 (show w.heap.size + 1 < w.heap.size + 2 by omega)); have hb1 := zH hb1; go_simp); (try (go_bits; try go_simp)); (try (rw [if_pos (by omega)]; try go_simp)); (first | done | (with_reducible rfl) | exact rfl)))
  simp only [Act.put, zzT, zzO, zzS]
  refine WTq 4 ?_; apply Exists.intro; refine ⟨fun w1 hb1 => ?_, ?_⟩; (focus (((obtain ⟨-, k0, -⟩ := (K0.out.to T.out).below hb1 (show w.heap.size < w.heap.size + 2 by omega); obtain ⟨-, k1, -⟩ := (K1.out.to T.out).below hb1 (show w.heap.size + 1 < w.heap.size + 2 by omega)); have hb1 := zH hb1; go_simp); (try (go_bits; try go_simp)); (try (rw [if_pos (by omega)]; try go_simp)); (first | done | (with_reducible rfl) | exact rfl)))
  simp only [Act.put, zzT, zzO, zzS]
  refine WTq 5 ?_; apply Exists.intro; refine ⟨fun w1 hb1 => ?_, ?_⟩; (focus (((obtain ⟨-, k0, -⟩ := (K0.out.to T.out).below hb1 (show w.heap.size < w.heap.size + 2 by omega); obtain ⟨-, k1, -⟩ := (K1.out.to T.out).below hb1 (show w.heap.size + 1 < w.heap.size + 2 by omega)); have hb1 := zH hb1; go_simp); (try (go_bits; try go_simp)); (try (rw [if_pos (by omega)]; try go_simp)); (first | done | (with_reducible rfl) | exact rfl)))
  simp only [Act.put, zzT, zzO, zzS]
  refine WT_one 6 rfl (by kernel_rfl) ?_
  unfold stepT
  go_wp2_with fail
  refine (HOP.out _ (Below.trans HB.out (T.out.mono (by omega)))).mono ?_
  rintro e w4 ⟨out, a3, c3, rfl, hP, hc3, hr3, hb, hfr⟩
  have hszd : wc.heap.size ≤ wd.heap.size := T.out.size
  have hbd := zH (hb.mono (show w.heap.size + 2 ≤ wd.heap.size by omega))
  replace T := zH (bThen T.out hb)
  have HR3 := zH hr3
  have HFR := zH hfr
  have HPP := zH hP
  clear hb hr3 hfr hP
  go_wp2_with fail
  refine ⟨hbd.out, ?_⟩
  clear hbd
  refine WT_one 7 rfl (by kernel_rfl) ?_
  unfold stepT
  go_wp2_with fail
  refine (HWF.out out a3 c3 _ HPP.out hc3 HR3.out).mono ?_
  rintro e w5 ⟨v5, rfl, hv5, hb⟩
  have hsz4 : wc.heap.size ≤ w4.heap.size := T.out.size
  have hbd := zH (hb.mono (show w.heap.size + 2 ≤ w4.heap.size by omega))
  replace T := zH (bThen T.out hb)
  have HV5 := zH hv5
  obtain ⟨c5, rfl, -, -⟩ := hv5
  clear hb
  replace K2 := zH (K2.out.to T.out)
  have HB5 := zH (bThen HB.out T.out)
  have HP : Hid (∀ (w' : World) (e : Ending), w' = (w5.setCell ⟨w.heap.size + 2, 0, none⟩ (.int .i64 (z1 + z2).sign)).setCell ⟨w.heap.size + 2, 1, none⟩ (.slice a3 (dg (z1 + z2)).length c5) → e = .returned (.agg #[.int .i64 (z1 + z2).sign, .slice a3 (dg (z1 + z2)).length c5]) → WPost [(a1, z1), (a2, z2)] (z1 + z2) w e w') := zH (fun w' e hw he => by
    subst hw
    refine ⟨a3, _, he, HV5.out.set2 (fun p hp => by have := HFR.out p hp; omega) _ _, ?_, fun P hf _ _ p hp => hf _ (by have := HFR.out p hp; omega)⟩
    exact (HB5.out.setCell (p := ⟨w.heap.size + 2, 0, none⟩) (by dsimp only; omega) _).setCell (p := ⟨w.heap.size + 2, 1, none⟩) (by dsimp only; omega) _)
  clear HV5
  obtain ⟨sg, hsg⟩ : ∃ s, (z1 + z2).sign = s := ⟨_, rfl⟩
  obtain ⟨D, hD⟩ : ∃ n, (dg (z1 + z2)).length = n := ⟨_, rfl⟩
  rw [hsg, hD] at HP ⊢
  clear hsg hD
  go_wp2_with fail
  refine ⟨hbd.out, ?_⟩
  clear hbd
  refine WT_one 8 rfl (by kernel_rfl) ?_
  unfold stepT
  obtain ⟨h2, k2, f2⟩ := K2.out
  go_wp2_with fail
  clear k2 f2
  refine ⟨((Below.refl _ _).setCell (p := ⟨w.heap.size + 2, 0, none⟩) (Nat.le_refl _) _).setCell (p := ⟨w.heap.size + 2, 1, none⟩) (Nat.le_refl _) _, ?_⟩
  refine WT_done (by kernel_rfl) ?_
  go_wp2_with fail
  have F := ((K2.out.set 0 (.int .i64 sg)).set 1 (.slice a3 D c5)).2.1
  have F0 := F 0; have F1 := F 1
  clear F
  refine bodyPost_ret (v := .agg #[.int .i64 sg, .slice a3 D c5]) ?_ rfl (HP.out _ _ rfl rfl)
  simp [results, Tryz.results150, go_sem, F0, F1]

theorem WideAdd_5 (z1 z2 : Int) (a1 a2 : Option Addr) (v1 v2 : Value) (w : World) (h1 : RW w a1 v1 z1) (h2 : RW w a2 v2 z2) (hz1 : z1 ≠ 0) (hz2 : z2 ≠ 0) (hl1 : (dg z1).length ≤ 400) (hl2 : (dg z2).length ≤ 400) (hss : z1.sign ≠ z2.sign) (hlt : z1.natAbs < z2.natAbs) :
    Calls Tryz.prog 150 #[v1, v2] w fun e w1 => WPost [(a1, z1), (a2, z2)] (z1 + z2) w e w1 := by
  have HV1 := zH h1
  have HV2 := zH h2
  obtain ⟨c1, rfl, hc1, hr1⟩ := h1
  obtain ⟨c2, rfl, hc2, hr2⟩ := h2
  have HR1 := zH hr1
  have HR2 := zH hr2
  have sb1 := sign_bd z1
  have sb2 := sign_bd z2
  have hV : z2.sign * ((z2.natAbs : Int) - z1.natAbs) = z1 + z2 := by rcases Int.lt_or_lt_of_ne hz1 with h | h <;> rcases Int.lt_or_lt_of_ne hz2 with h' | h' <;> simp only [Int.sign_eq_one_of_pos, Int.sign_eq_neg_one_of_neg, h, h'] at hss ⊢ <;> omega
  have hsg : z2.sign = 1 ∨ z2.sign = -1 := by have h0 : z2.sign ≠ 0 := fun h => hz2 (Int.sign_eq_zero_iff_zero.1 h); omega
  have hle : (dg z1).length ≤ (dg z2).length := digs_mono (by omega)
  have HOP : Hid (∀ W, Below w.heap.size w W → Calls Tryz.prog 185 #[.slice a2 (dg z2).length c2, .slice a1 (dg z1).length c1] W fun e w1 => DPost (DV ((z2.natAbs : Int) - z1.natAbs)) W e w1) := zH (fun W hb => (subDigits_any (dg z2) (dg z1) a2 a1 c2 c1 W (dg_dig _) (dg_dig _) hl2 hle (by rw [val_dg, val_dg]; omega) (HR2.out.to hb) (HR1.out.to hb)).mono (fun e w1 h => h.mono (fun out h => by
    rw [val_dg, val_dg] at h
    have hlen : (digs ((z2.natAbs : Int) - z1.natAbs).toNat).length ≤ (dg z2).length := digs_mono (by omega)
    refine ⟨by rw [h]; exact digs_dig _, by rw [h, val_digs]; omega, by rw [h]; omega⟩)))
  have HWF : Hid (∀ (out : List Int) (a : Option Addr) (cap : Nat) (W : World), DV ((z2.natAbs : Int) - z1.natAbs) out → out.length ≤ cap → Reads W a out.length (ints out) → Calls Tryz.prog 127 #[.int .i64 z2.sign, .slice a out.length cap] W fun e w1 => WAt a (z1 + z2) W e w1) := zH (fun out a cap W hd hc hr => by
    have := wideOf_any z2.sign out a cap W hd.1 (by rcases hsg with h | h; exact .inl h; exact .inr (.inl h)) (by have := hd.2.2; omega) hc hr
    rw [hd.2.1, hV] at this
    exact this)
  have hcm : cmpI z1.natAbs z2.natAbs = -1 := by unfold cmpI; rw [if_pos (by omega)]
  have HCMP : Hid (∀ W, Below w.heap.size w W → Calls Tryz.prog 184 #[.slice a1 (dg z1).length c1, .slice a2 (dg z2).length c2] W fun e w' => e = .returned (.int .i64 (-1)) ∧ Below W.heap.size W w') := zH (fun W hb => by
    have := cmpDigits_any z1.natAbs z2.natAbs a1 a2 c1 c2 W (show (dg z1).length ≤ 1000 by omega) (HR1.out.to hb) (HR2.out.to hb)
    rw [hcm] at this
    exact this)
  have e1 : z1.sign ≠ 0 := fun h => hz1 (Int.sign_eq_zero_iff_zero.1 h)
  have e2 : z2.sign ≠ 0 := fun h => hz2 (Int.sign_eq_zero_iff_zero.1 h)
  obtain ⟨s1, hs1⟩ : ∃ s, z1.sign = s := ⟨_, rfl⟩
  obtain ⟨s2, hs2⟩ : ∃ s, z2.sign = s := ⟨_, rfl⟩
  obtain ⟨n1, hn1⟩ : ∃ n, (dg z1).length = n := ⟨_, rfl⟩
  obtain ⟨n2, hn2⟩ : ∃ n, (dg z2).length = n := ⟨_, rfl⟩
  rw [hs1] at  e1 sb1 hss
  rw [hs2] at HWF e2 sb2 hss
  rw [hn1, hn2] at HOP HCMP
  rw [hs1, hs2, hn1, hn2]
  clear hV HV1 HV2 hr1 hr2 hc1 hc2 hsg hl1 hl2 hz1 hz2 HR1 HR2 hs1 hs2 hn1 hn2 hcm hle
  have q1 : (s1 == 0) = false := by simpa using e1
  have q2 : (s2 == 0) = false := by simpa using e2
  have q3 : (s1 == s2) = false := by simpa using hss
  clear e1 e2 hss
  go_enter Tryz.func150, Tryz.ntmps150
  go_upto_region 1 with (fail)
  obtain ⟨w3, hw3⟩ : ∃ w3, ((w.alloc (.cells #[.int .i64 s1, .slice a1 n1 c1] 63)).alloc (.cells #[.int .i64 s2, .slice a2 n2 c2] 63)).alloc (.cells #[.int .i64 0, .slice none 0 0] 63) = w3 := ⟨_, rfl⟩
  rw [hw3]
  have K0 : Hid (Blk w3 w.heap.size #[.int .i64 s1, .slice a1 n1 c1]) := by subst hw3; exact zH (((Blk.new _ _ _).alloc _).alloc _)
  have K1 : Hid (Blk w3 (w.heap.size + 1) #[.int .i64 s2, .slice a2 n2 c2]) := by subst hw3; exact zH ((Blk.newAt _ _ _ (by simp)).alloc _)
  have K2 : Hid (Blk w3 (w.heap.size + 2) #[.int .i64 0, .slice none 0 0]) := by subst hw3; exact zH (Blk.newAt _ _ _ (by simp))
  have HB : Hid (Below w.heap.size w w3) := by subst hw3; exact zH (bAlloc (bAlloc (bAlloc (bSelf w) _) _) _)
  clear hw3
  obtain ⟨h0, k0, f0⟩ := K0.out
  obtain ⟨h1, k1, f1⟩ := K1.out
  go_wp2_with fail
  refine (HCMP.out _ HB.out).mono ?_
  rintro e wc ⟨rfl, hb⟩
  replace K0 := zH (K0.out.to hb)
  replace K1 := zH (K1.out.to hb)
  replace K2 := zH (K2.out.to hb)
  replace HB := zH (bThen HB.out hb)
  clear hb k0 f0 k1 f1 h0 h1
  go_upto_region 12 with (fail)
  refine wp_region_treeN (w.heap.size + 2) (by kernel_rfl) (fun wd hwd => ?_)
  have h32 : w.heap.size + 2 < wc.heap.size := K2.out.1
  have T := zH hwd
  clear hwd
  refine WTq 0 ?_; apply Exists.intro; refine ⟨fun w1 hb1 => ?_, ?_⟩; (focus (((obtain ⟨-, k0, -⟩ := (K0.out.to T.out).below hb1 (show w.heap.size < w.heap.size + 2 by omega); obtain ⟨-, k1, -⟩ := (K1.out.to T.out).below hb1 (show w.heap.size + 1 < w.heap.size + 2 by omega)); have hb1 := zH hb1; go_simp); (try (go_bits; try go_simp)); (try (rw [if_pos (by omega)]; try go_simp)); (first | done | (with_reducible rfl) | exact rfl)))
  simp only [Act.put, zzT, zzO, zzS]
  refine WTq 1 ?_; apply Exists.intro; refine ⟨fun w1 hb1 => ?_, ?_⟩; (focus (((obtain ⟨-, k0, -⟩ := (K0.out.to T.out).below hb1 (show w.heap.size < w.heap.size + 2 by omega); obtain ⟨-, k1, -⟩ := (K1.out.to T.out).below hb1 (show w.heap.size + 1 < w.heap.size + 2 by omega)); have hb1 := zH hb1; go_simp); (try (go_bits; try go_simp)); (try (rw [if_pos (by omega)]; try go_simp)); (first | done | (with_reducible rfl) | exact rfl)))
  simp only [Act.put, zzT, zzO, zzS]
  refine WTq 2 ?_; apply Exists.intro; refine ⟨fun w1 hb1 => ?_, ?_⟩; (focus (((obtain ⟨-, k0, -⟩ := (K0.out.to T.out).below hb1 (show w.heap.size < w.heap.size + 2 by omega); obtain ⟨-, k1, -⟩ := (K1.out.to T.out).below hb1 (show w.heap.size + 1 < w.heap.size + 2 by omega)); have hb1 := zH hb1; go_simp); (try (go_bits; try go_simp)); (try (rw [if_pos (by omega)]; try go_simp)); (first | done | (with_reducible rfl) | exact rfl)))
  simp only [Act.put, zzT, zzO, zzS]
  refine WTq 3 ?_; apply Exists.intro; refine ⟨fun w1 hb1 => ?_, ?_⟩; (focus (((obtain ⟨-, k0, -⟩ := (K0.out.to T.out).below hb1 (show w.heap.size < w.heap.size + 2 by omega); obtain ⟨-, k1, -⟩ := (K1.out.to T.out).below hb1 (show w.heap.size + 1 < w.heap.size + 2 by omega)); have hb1 := zH hb1; go_simp); (try (go_bits; try go_simp)); (try (rw [if_pos (by omega)]; try go_simp)); (first | done | (with_reducible rfl) | exact rfl)))
  simp only [Act.put, zzT, zzO, zzS]
  refine WTq 4 ?_; apply Exists.intro; refine ⟨fun w1 hb1 => ?_, ?_⟩; (focus (((obtain ⟨-, k0, -⟩ := (K0.out.to T.out).below hb1 (show w.heap.size < w.heap.size + 2 by omega); obtain ⟨-, k1, -⟩ := (K1.out.to T.out).below hb1 (show w.heap.size + 1 < w.heap.size + 2 by omega)); have hb1 := zH hb1; go_simp); (try (go_bits; try go_simp)); (try (rw [if_pos (by omega)]; try go_simp)); (first | done | (with_reducible rfl) | exact rfl)))
  simp only [Act.put, zzT, zzO, zzS]
  refine WTq 5 ?_; apply Exists.intro; refine ⟨fun w1 hb1 => ?_, ?_⟩; (focus (((obtain ⟨-, k0, -⟩ := (K0.out.to T.out).below hb1 (show w.heap.size < w.heap.size + 2 by omega); obtain ⟨-, k1, -⟩ := (K1.out.to T.out).below hb1 (show w.heap.size + 1 < w.heap.size + 2 by omega)); have hb1 := zH hb1; go_simp); (try (go_bits; try go_simp)); (try (rw [if_pos (by omega)]; try go_simp)); (first | done | (with_reducible rfl) | exact rfl)))
  simp only [Act.put, zzT, zzO, zzS]
  refine WT_one 6 rfl (by kernel_rfl) ?_
  unfold stepT
  go_wp2_with fail
  refine (HOP.out _ (Below.trans HB.out (T.out.mono (by omega)))).mono ?_
  rintro e w4 ⟨out, a3, c3, rfl, hP, hc3, hr3, hb, hfr⟩
  have hszd : wc.heap.size ≤ wd.heap.size := T.out.size
  have hbd := zH (hb.mono (show w.heap.size + 2 ≤ wd.heap.size by omega))
  replace T := zH (bThen T.out hb)
  have HR3 := zH hr3
  have HFR := zH hfr
  have HPP := zH hP
  clear hb hr3 hfr hP
  go_wp2_with fail
  refine ⟨hbd.out, ?_⟩
  clear hbd
  refine WT_one 7 rfl (by kernel_rfl) ?_
  unfold stepT
  go_wp2_with fail
  refine (HWF.out out a3 c3 _ HPP.out hc3 HR3.out).mono ?_
  rintro e w5 ⟨v5, rfl, hv5, hb⟩
  have hsz4 : wc.heap.size ≤ w4.heap.size := T.out.size
  have hbd := zH (hb.mono (show w.heap.size + 2 ≤ w4.heap.size by omega))
  replace T := zH (bThen T.out hb)
  have HV5 := zH hv5
  obtain ⟨c5, rfl, -, -⟩ := hv5
  clear hb
  replace K2 := zH (K2.out.to T.out)
  have HB5 := zH (bThen HB.out T.out)
  have HP : Hid (∀ (w' : World) (e : Ending), w' = (w5.setCell ⟨w.heap.size + 2, 0, none⟩ (.int .i64 (z1 + z2).sign)).setCell ⟨w.heap.size + 2, 1, none⟩ (.slice a3 (dg (z1 + z2)).length c5) → e = .returned (.agg #[.int .i64 (z1 + z2).sign, .slice a3 (dg (z1 + z2)).length c5]) → WPost [(a1, z1), (a2, z2)] (z1 + z2) w e w') := zH (fun w' e hw he => by
    subst hw
    refine ⟨a3, _, he, HV5.out.set2 (fun p hp => by have := HFR.out p hp; omega) _ _, ?_, fun P hf _ _ p hp => hf _ (by have := HFR.out p hp; omega)⟩
    exact (HB5.out.setCell (p := ⟨w.heap.size + 2, 0, none⟩) (by dsimp only; omega) _).setCell (p := ⟨w.heap.size + 2, 1, none⟩) (by dsimp only; omega) _)
  clear HV5
  obtain ⟨sg, hsg⟩ : ∃ s, (z1 + z2).sign = s := ⟨_, rfl⟩
  obtain ⟨D, hD⟩ : ∃ n, (dg (z1 + z2)).length = n := ⟨_, rfl⟩
  rw [hsg, hD] at HP ⊢
  clear hsg hD
  go_wp2_with fail
  refine ⟨hbd.out, ?_⟩
  clear hbd
  refine WT_one 8 rfl (by kernel_rfl) ?_
  unfold stepT
  obtain ⟨h2, k2, f2⟩ := K2.out
  go_wp2_with fail
  clear k2 f2
  refine ⟨((Below.refl _ _).setCell (p := ⟨w.heap.size + 2, 0, none⟩) (Nat.le_refl _) _).setCell (p := ⟨w.heap.size + 2, 1, none⟩) (Nat.le_refl _) _, ?_⟩
  refine WT_done (by kernel_rfl) ?_
  go_wp2_with fail
  have F := ((K2.out.set 0 (.int .i64 sg)).set 1 (.slice a3 D c5)).2.1
  have F0 := F 0; have F1 := F 1
  clear F
  refine bodyPost_ret (v := .agg #[.int .i64 sg, .slice a3 D c5]) ?_ rfl (HP.out _ _ rfl rfl)
  simp [results, Tryz.results150, go_sem, F0, F1]

theorem WideAdd_6 (z1 z2 : Int) (a1 a2 : Option Addr) (v1 v2 : Value) (w : World) (h1 : RW w a1 v1 z1) (h2 : RW w a2 v2 z2) (hz1 : z1 ≠ 0) (hz2 : z2 ≠ 0) (hl1 : (dg z1).length ≤ 400) (hss : z1.sign ≠ z2.sign) (heq : z1.natAbs = z2.natAbs) :
    Calls Tryz.prog 150 #[v1, v2] w fun e w1 => WPost [(a1, z1), (a2, z2)] (z1 + z2) w e w1 := by
  have HV1 := zH h1
  have HV2 := zH h2
  obtain ⟨c1, rfl, hc1, hr1⟩ := h1
  obtain ⟨c2, rfl, hc2, hr2⟩ := h2
  have HR1 := zH hr1
  have HR2 := zH hr2
  have sb1 := sign_bd z1
  have sb2 := sign_bd z2
  have hzz : z1 + z2 = 0 := by
    rcases Int.lt_or_lt_of_ne hz1 with h | h <;> rcases Int.lt_or_lt_of_ne hz2 with h' | h' <;> simp only [Int.sign_eq_one_of_pos, Int.sign_eq_neg_one_of_neg, h, h'] at hss <;> omega
  rw [hzz]
  have hcm : cmpI z1.natAbs z2.natAbs = 0 := by unfold cmpI; rw [if_neg (by omega), if_neg (by omega)]
  have HCMP : Hid (∀ W, Below w.heap.size w W → Calls Tryz.prog 184 #[.slice a1 (dg z1).length c1, .slice a2 (dg z2).length c2] W fun e w' => e = .returned (.int .i64 0) ∧ Below W.heap.size W w') := zH (fun W hb => by
    have := cmpDigits_any z1.natAbs z2.natAbs a1 a2 c1 c2 W (show (dg z1).length ≤ 1000 by omega) (HR1.out.to hb) (HR2.out.to hb)
    rw [hcm] at this
    exact this)
  have HP : Hid (∀ (w' : World) (e : Ending), Below w.heap.size w w' → e = .returned (.agg #[.int .i64 0, .slice none 0 0]) → WPost [(a1, z1), (a2, z2)] 0 w e w') := zH (fun w' e hb he =>
    ⟨none, _, he, ⟨0, by unfold dg; rw [show (0 : Int).natAbs = 0 from rfl, digs_zero]; rfl, by unfold dg; rw [show (0 : Int).natAbs = 0 from rfl, digs_zero]; simp, .inl (by unfold dg; rw [show (0 : Int).natAbs = 0 from rfl, digs_zero]; rfl)⟩, hb, fun P _ _ _ p hp => by cases hp⟩)
  have e1 : z1.sign ≠ 0 := fun h => hz1 (Int.sign_eq_zero_iff_zero.1 h)
  have e2 : z2.sign ≠ 0 := fun h => hz2 (Int.sign_eq_zero_iff_zero.1 h)
  obtain ⟨s1, hs1⟩ : ∃ s, z1.sign = s := ⟨_, rfl⟩
  obtain ⟨s2, hs2⟩ : ∃ s, z2.sign = s := ⟨_, rfl⟩
  obtain ⟨n1, hn1⟩ : ∃ n, (dg z1).length = n := ⟨_, rfl⟩
  obtain ⟨n2, hn2⟩ : ∃ n, (dg z2).length = n := ⟨_, rfl⟩
  rw [hs1] at e1 sb1 hss
  rw [hs2] at e2 sb2 hss
  rw [hn1, hn2] at HCMP
  rw [hs1, hs2, hn1, hn2]
  clear HV1 HV2 hr1 hr2 hc1 hc2 hl1 hz1 hz2 HR1 HR2 hs1 hs2 hn1 hn2 hcm hzz heq
  have q1 : (s1 == 0) = false := by simpa using e1
  have q2 : (s2 == 0) = false := by simpa using e2
  have q3 : (s1 == s2) = false := by simpa using hss
  clear e1 e2 hss
  go_enter Tryz.func150, Tryz.ntmps150
  go_upto_region 1 with (fail)
  obtain ⟨w3, hw3⟩ : ∃ w3, ((w.alloc (.cells #[.int .i64 s1, .slice a1 n1 c1] 63)).alloc (.cells #[.int .i64 s2, .slice a2 n2 c2] 63)).alloc (.cells #[.int .i64 0, .slice none 0 0] 63) = w3 := ⟨_, rfl⟩
  rw [hw3]
  have K0 : Hid (Blk w3 w.heap.size #[.int .i64 s1, .slice a1 n1 c1]) := by subst hw3; exact zH (((Blk.new _ _ _).alloc _).alloc _)
  have K1 : Hid (Blk w3 (w.heap.size + 1) #[.int .i64 s2, .slice a2 n2 c2]) := by subst hw3; exact zH ((Blk.newAt _ _ _ (by simp)).alloc _)
  have K2 : Hid (Blk w3 (w.heap.size + 2) #[.int .i64 0, .slice none 0 0]) := by subst hw3; exact zH (Blk.newAt _ _ _ (by simp))
  have HB : Hid (Below w.heap.size w w3) := by subst hw3; exact zH (bAlloc (bAlloc (bAlloc (bSelf w) _) _) _)
  clear hw3
  obtain ⟨h0, k0, f0⟩ := K0.out
  obtain ⟨h1, k1, f1⟩ := K1.out
  go_wp2_with fail
  refine (HCMP.out _ HB.out).mono ?_
  rintro e wc ⟨rfl, hb⟩
  replace K2 := zH (K2.out.to hb)
  replace HB := zH (bThen HB.out hb)
  clear hb k0 f0 k1 f1 h0 h1
  obtain ⟨h2, k2, f2⟩ := K2.out
  go_wp2_with fail
  clear k2 f2
  have F := ((K2.out.set 0 (.int .i64 0)).set 1 (.slice none 0 0)).2.1
  have F0 := F 0; have F1 := F 1
  clear F
  have hF := (HB.out.setCell (p := ⟨w.heap.size + 2, 0, none⟩) (by dsimp only; omega) (.int .i64 0)).setCell (p := ⟨w.heap.size + 2, 1, none⟩) (by dsimp only; omega) (.slice none 0 0)
  refine bodyPost_ret (v := .agg #[.int .i64 0, .slice none 0 0]) ?_ rfl (HP.out _ _ hF rfl)
  simp [results, Tryz.results150, go_sem, F0, F1]

theorem WideAdd_any (z1 z2 : Int) (a1 a2 : Option Addr) (v1 v2 : Value) (w : World) (h1 : RW w a1 v1 z1) (h2 : RW w a2 v2 z2) (hl1 : (dg z1).length ≤ 400) (hl2 : (dg z2).length ≤ 400) :
    Calls Tryz.prog 150 #[v1, v2] w fun e w1 => WPost [(a1, z1), (a2, z2)] (z1 + z2) w e w1 := by
  by_cases hz1 : z1 = 0
  · exact WideAdd_1 z1 z2 a1 a2 v1 v2 w h1 h2 hz1
  · by_cases hz2 : z2 = 0
    · exact WideAdd_2 z1 z2 a1 a2 v1 v2 w h1 h2 hz1 hz2
    · by_cases hss : z1.sign = z2.sign
      · exact WideAdd_3 z1 z2 a1 a2 v1 v2 w h1 h2 hz1 hz2 hl1 hl2 hss
      · rcases Nat.lt_trichotomy z1.natAbs z2.natAbs with h | h | h
        · exact WideAdd_5 z1 z2 a1 a2 v1 v2 w h1 h2 hz1 hz2 hl1 hl2 hss h
        · exact WideAdd_6 z1 z2 a1 a2 v1 v2 w h1 h2 hz1 hz2 hl1 hss h
        · exact WideAdd_4 z1 z2 a1 a2 v1 v2 w h1 h2 hz1 hz2 hl1 hss h
end
end Go.Proofs.YtbpcapcgbnbknaaGreat
