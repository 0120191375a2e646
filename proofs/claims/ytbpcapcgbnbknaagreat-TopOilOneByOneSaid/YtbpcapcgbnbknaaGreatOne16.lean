/-
  Texts of this claim, in their build order: Y1.
-/
import Derived.Test.YtbpcapcgbnbknaaGreatOne15
import Derived.Test.YtbpcapcgbnbknaaGreatOne5
import Derived.Test.YtbpcapcgbnbknaaGreatOne7
import Derived.Test.YtbpcapcgbnbknaaGreatOne0

namespace Go.Proofs.YtbpcapcgbnbknaaGreat
section
open Go.RowKit

theorem RW.ex {W : World} {a : Option Addr} {v : Value} {z : Int} (h : RW W a v z) : ∃ s n c, v = .agg #[.int .i64 s, .slice a n c] := by
  obtain ⟨c, h1, -, -⟩ := h
  exact ⟨_, _, c, h1⟩
theorem dg_abs (z : Int) : dg (z.natAbs : Int) = dg z := by unfold dg; rw [Int.natAbs_natCast]
theorem Loc.abs {P : Nat → Prop} {a : Option Addr} {z : Int} (h : Loc P a z) : Loc P a (z.natAbs : Int) := fun hn => h (by rw [← dg_abs]; exact hn)
theorem Loc.imp {P Q : Nat → Prop} {a : Option Addr} {z : Int} (h : Loc P a z) (hi : ∀ b, P b → Q b) : Loc Q a z := fun hn p hp => hi _ (h hn p hp)
/-- Where a number's digits may lie: where those of two others do, or in memory from S on. -/
def LocI (S : Nat) (a1 : Option Addr) (z1 : Int) (a2 : Option Addr) (z2 : Int) (a : Option Addr) (z : Int) : Prop := ∀ P : Nat → Prop, (∀ b, S ≤ b → P b) → Loc P a1 z1 → Loc P a2 z2 → Loc P a z
theorem dg_le {x y : Int} (h : x.natAbs ≤ y.natAbs) {n : Nat} (hn : (dg y).length ≤ n) : (dg x).length ≤ n := Nat.le_trans (digs_mono h) hn

theorem mod_facts {x y : Int} (hx : 0 ≤ x) (hy : 0 < y) : 0 ≤ x / y ∧ x / y ≤ x ∧ 0 ≤ x / y * y ∧ x / y * y ≤ x ∧ 0 ≤ x - x / y * y ∧ x - x / y * y < y ∧ Int.gcd y (x - x / y * y) = Int.gcd x y := by
  have h1 : x - x / y * y = x % y := by rw [Int.emod_def, Int.mul_comm]
  have h2 := Int.emod_nonneg x (by omega : y ≠ 0)
  have h3 := Int.emod_lt_of_pos x hy
  have h4 := Int.ediv_nonneg hx (by omega : 0 ≤ y)
  have h5 := Int.ediv_le_self y hx
  have h6 := Int.mul_nonneg h4 (by omega : 0 ≤ y)
  refine ⟨h4, h5, h6, by omega, by omega, by omega, ?_⟩
  rw [h1, ← Int.tmod_eq_emod_of_nonneg hx]
  exact gcd_step

set_option maxHeartbeats 4000000 in
set_option maxRecDepth 100000 in
theorem wideGcd_any (z1 z2 : Int) (a1 a2 : Option Addr) (v1 v2 : Value) (w : World) (h1 : RW w a1 v1 z1) (h2 : RW w a2 v2 z2) (hl1 : (dg z1).length ≤ 100) (hl2 : (dg z2).length ≤ 100) :
    Calls Tryz.prog 169 #[v1, v2] w fun e w1 => WPost [(a1, z1), (a2, z2)] (Int.gcd z1 z2 : Nat) w e w1 := by
  have HS1 := zH (fun W (hb : Below w.heap.size w W) => wideSize_any z1 a1 v1 W (h1.to hb))
  have HS2 := zH (fun W (hb : Below w.heap.size w W) => wideSize_any z2 a2 v2 W (h2.to hb))
  have HL1 := zH h1.loc
  have HL2 := zH h2.loc
  obtain ⟨s1, n1, c1, rfl⟩ := h1.ex
  obtain ⟨s2, n2, c2, rfl⟩ := h2.ex
  go_enter Tryz.func169, Tryz.ntmps169
  go_upto_region 1 with (fail)
  obtain ⟨w3, hw3⟩ : ∃ w3, ((w.alloc (.cells #[.int .i64 s1, .slice a1 n1 c1] 63)).alloc (.cells #[.int .i64 s2, .slice a2 n2 c2] 63)).alloc (.cells #[.int .i64 0, .slice none 0 0] 63) = w3 := ⟨_, rfl⟩
  rw [hw3]
  have K0 : Hid (Blk w3 w.heap.size #[.int .i64 s1, .slice a1 n1 c1]) := by subst hw3; exact zH (((Blk.new _ _ _).alloc _).alloc _)
  have K1 : Hid (Blk w3 (w.heap.size + 1) #[.int .i64 s2, .slice a2 n2 c2]) := by subst hw3; exact zH ((Blk.newAt _ _ _ (by simp)).alloc _)
  have K2 : Hid (Blk w3 (w.heap.size + 2) #[.int .i64 0, .slice none 0 0]) := by subst hw3; exact zH (Blk.newAt _ _ _ (by simp))
  have HB : Hid (Below w.heap.size w w3) := by subst hw3; exact zH (bAlloc (bAlloc (bAlloc (bSelf w) _) _) _)
  clear hw3 h1 h2
  have hsz3 : w.heap.size + 2 < w3.heap.size := K2.out.1
  refine wp_region_treeT 4 (by kernel_rfl) (by kernel_rfl) (fun wd hwd => ?_)
  have T := zH hwd
  clear hwd
  refine WE_yes 0 rfl (by kernel_rfl) (fun _ _ _ _ _ h => h) (by rfl) ?_; apply Exists.intro; refine ⟨fun w1 hb1 => ?_, ?_⟩; (focus (((obtain ⟨-, k0, -⟩ := K0.out.to (T.out.trans hb1); obtain ⟨-, k1, -⟩ := K1.out.to (T.out.trans hb1)); have hb1 := zH hb1; go_simp); (try (go_bits; try go_simp)); (try (rw [if_pos (by omega)]; try go_simp)); (first | done | (with_reducible rfl) | exact rfl)))
  simp only [Act.put, zzT, zzO, zzS]
  refine WE_yes 2 rfl (by kernel_rfl) (fun _ _ _ _ _ h => h) (by rfl) ?_; apply Exists.intro; refine ⟨fun w1 hb1 => ?_, ?_⟩; (focus (((obtain ⟨-, k0, -⟩ := K0.out.to (T.out.trans hb1); obtain ⟨-, k1, -⟩ := K1.out.to (T.out.trans hb1)); have hb1 := zH hb1; go_simp); (try (go_bits; try go_simp)); (try (rw [if_pos (by omega)]; try go_simp)); (first | done | (with_reducible rfl) | exact rfl)))
  simp only [Act.put, zzT, zzO, zzS]
  refine WE_one 1 rfl (by decide) (by kernel_rfl) ?_
  unfold stepE
  go_wp2_with fail
  refine (HS1.out _ (bThen HB.out T.out)).mono ?_
  rintro e w4 ⟨v4, rfl, hv4, hb⟩
  have HV4 := zH hv4
  have hbd := zH (hb.mono T.out.size)
  replace T := zH (T.out.trans hbd.out)
  clear hb
  obtain ⟨s4, n4, c4, rfl⟩ := hv4.ex
  clear hv4
  go_wp2_with fail
  refine ⟨hbd.out, ?_⟩
  clear hbd
  refine WE_one 3 rfl (by decide) (by kernel_rfl) ?_
  unfold stepE
  go_wp2_with fail
  refine (HS2.out _ (bThen HB.out T.out)).mono ?_
  rintro e w5 ⟨v5, rfl, hv5, hb⟩
  have HV5 := zH hv5
  replace HV4 := zH (HV4.out.to hb)
  have hbd := zH (hb.mono T.out.size)
  replace T := zH (T.out.trans hbd.out)
  clear hb
  obtain ⟨s5, n5, c5, rfl⟩ := hv5.ex
  clear hv5
  go_wp2_with fail
  refine ⟨hbd.out, ?_⟩
  clear hbd
  replace K0 := zH (K0.out.to T.out)
  replace K1 := zH (K1.out.to T.out)
  replace K2 := zH (K2.out.to T.out)
  replace HB := zH (bThen HB.out T.out)
  clear T hsz3
  obtain ⟨S, hS⟩ : ∃ S, w.heap.size = S := ⟨_, rfl⟩
  rw [hS] at K0 K1 K2 HB HL1 HL2 ⊢
  refine WE_tail rfl (by kernel_rfl) ?_
  simp only [List.drop_succ_cons, List.drop_zero]
  obtain ⟨hk0, k0, f0⟩ := K0.out
  obtain ⟨hk1, k1, f1⟩ := K1.out
  go_wp2_with fail
  clear k0 f0 k1 f1 hk0 hk1
  obtain ⟨w6, hw6⟩ : ∃ w6, (((w5.setCell ⟨S, 0, none⟩ (.int .i64 s4)).setCell ⟨S, 1, none⟩ (.slice a1 n4 c4)).setCell ⟨S + 1, 0, none⟩ (.int .i64 s5)).setCell ⟨S + 1, 1, none⟩ (.slice a2 n5 c5) = w6 := ⟨_, rfl⟩
  rw [hw6]
  have J0 : Hid (Blk w6 S #[.int .i64 s4, .slice a1 n4 c4]) := by subst hw6; exact zH ((((K0.out.set 0 (.int .i64 s4)).set 1 (.slice a1 n4 c4)).other (p := ⟨S + 1, 0, none⟩) (by dsimp only; omega) _).other (p := ⟨S + 1, 1, none⟩) (by dsimp only; omega) _)
  have J1 : Hid (Blk w6 (S + 1) #[.int .i64 s5, .slice a2 n5 c5]) := by subst hw6; exact zH (((((K1.out.other (p := ⟨S, 0, none⟩) (by dsimp only; omega) _).other (p := ⟨S, 1, none⟩) (by dsimp only; omega) _)).set 0 (.int .i64 s5)).set 1 (.slice a2 n5 c5))
  have J2 : Hid (Blk w6 (S + 2) #[.int .i64 0, .slice none 0 0]) := by subst hw6; exact zH ((((K2.out.other (p := ⟨S, 0, none⟩) (by dsimp only; omega) _).other (p := ⟨S, 1, none⟩) (by dsimp only; omega) _).other (p := ⟨S + 1, 0, none⟩) (by dsimp only; omega) _).other (p := ⟨S + 1, 1, none⟩) (by dsimp only; omega) _)
  have JB : Hid (Below S w w6) := by subst hw6; exact zH ((((HB.out.setCell (p := ⟨S, 0, none⟩) (by dsimp only; omega) _).setCell (p := ⟨S, 1, none⟩) (by dsimp only; omega) _).setCell (p := ⟨S + 1, 0, none⟩) (by dsimp only; omega) _).setCell (p := ⟨S + 1, 1, none⟩) (by dsimp only; omega) _)
  have HX : Hid (RW w6 a1 (.agg #[.int .i64 s4, .slice a1 n4 c4]) (z1.natAbs : Int)) := by subst hw6; exact zH ((HV4.out.set2' (HL1.out.abs.imp (fun b hb => by omega)) _ _).set2' (HL1.out.abs.imp (fun b hb => by omega)) _ _)
  have HY : Hid (RW w6 a2 (.agg #[.int .i64 s5, .slice a2 n5 c5]) (z2.natAbs : Int)) := by subst hw6; exact zH ((HV5.out.set2' (HL2.out.abs.imp (fun b hb => by omega)) _ _).set2' (HL2.out.abs.imp (fun b hb => by omega)) _ _)
  clear hw6 K0 K1 K2 HB HV4 HV5 HS1 HS2
  go_loopg [] z2.natAbs (fun gn wr => ∃ (x y : Int) (ax ay : Option Addr) (sx sy : Int) (nx ny cx cy : Nat), Hid (Blk wr S #[.int .i64 sx, .slice ax nx cx]) ∧ Hid (Blk wr (S + 1) #[.int .i64 sy, .slice ay ny cy]) ∧ Hid (Blk wr (S + 2) #[.int .i64 0, .slice none 0 0]) ∧ Hid (Below S w wr) ∧
    Hid (RW wr ax (.agg #[.int .i64 sx, .slice ax nx cx]) x) ∧ Hid (RW wr ay (.agg #[.int .i64 sy, .slice ay ny cy]) y) ∧ Hid (LocI (S + 3) a1 z1 a2 z2 ax x) ∧ Hid (LocI (S + 3) a1 z1 a2 z2 ay y) ∧ Hid (0 ≤ x ∧ 0 ≤ y ∧ Int.gcd x y = Int.gcd z1 z2 ∧ (dg x).length ≤ 100 ∧ (dg y).length ≤ 100 ∧ y.natAbs = gn))
  case atStart => exact ⟨_, _, a1, a2, s4, s5, n4, n5, c4, c5, J0, J1, J2, JB, HX, HY, zH (fun P _ h _ => h.abs), zH (fun P _ _ h => h.abs), zH ⟨by omega, by omega, by simp [Int.gcd], by rw [dg_abs]; exact hl1, by rw [dg_abs]; exact hl2, by omega⟩⟩
  case round =>
    clear J0 J1 J2 JB HX HY
    obtain ⟨x, y, ax, ay, sx, sy, nx, ny, cx, cy, J0, J1, J2, JB, HX, HY, LX, LY, HH⟩ := hrel
    have hs2w : S + 2 < wr.heap.size := J2.out.1
    have HSG := zH (WideSign_any y ay _ wr HY.out)
    obtain ⟨-, k1, -⟩ := J1.out
    by_cases hy0 : y = 0
    · have hsg : y.sign = 0 := by rw [hy0]; rfl
      rw [hsg] at HSG
      have HY0 := zH hy0
      clear hsg hy0
      go_wp2_with fail
      refine HSG.out.mono ?_
      rintro e w7 ⟨rfl, hb⟩
      replace J0 := zH (J0.out.to hb)
      replace J2 := zH (J2.out.to hb)
      replace JB := zH (JB.out.trans (hb.mono (by omega)))
      replace HX := zH (HX.out.to hb)
      clear hb k1
      obtain ⟨-, k0, -⟩ := J0.out
      obtain ⟨h2', k2, f2⟩ := J2.out
      go_wp2_with fail
      clear k0 k2 f2
      have HP : Hid (∀ (w' : World) (e : Ending), w' = (w7.setCell ⟨S + 2, 0, none⟩ (.int .i64 sx)).setCell ⟨S + 2, 1, none⟩ (.slice ax nx cx) → e = .returned (.agg #[.int .i64 sx, .slice ax nx cx]) → WPost [(a1, z1), (a2, z2)] (Int.gcd z1 z2 : Nat) w e w') := zH (fun w' e hw he => by
        subst hw
        obtain ⟨hx, -, hg, -, -, -⟩ := HH.out
        have e1 : ((Int.gcd z1 z2 : Nat) : Int) = x := by rw [← hg, HY0.out, Int.gcd_zero_right]; omega
        rw [e1]
        refine ⟨ax, _, he, HX.out.set2' (LX.out _ (fun b hb => by omega) (HL1.out.imp (fun b hb => by omega)) (HL2.out.imp (fun b hb => by omega))) _ _, ?_, fun P hf hi => LX.out P (fun b hb => hf b (by omega)) (hi (a1, z1) (by simp)) (hi (a2, z2) (by simp))⟩
        rw [hS]
        exact (JB.out.setCell (p := ⟨S + 2, 0, none⟩) (by dsimp only; omega) _).setCell (p := ⟨S + 2, 1, none⟩) (by dsimp only; omega) _)
      have F := ((J2.out.set 0 (.int .i64 sx)).set 1 (.slice ax nx cx)).2.1
      have F0 := F 0; have F1 := F 1
      clear F
      refine bodyPost_ret (v := .agg #[.int .i64 sx, .slice ax nx cx]) ?_ rfl (HP.out _ _ rfl rfl)
      simp [results, Tryz.results169, go_sem, F0, F1]
    · have hsn : y.sign ≠ 0 := fun h => hy0 (Int.sign_eq_zero_iff_zero.1 h)
      obtain ⟨sg, hsg⟩ : ∃ s, y.sign = s := ⟨_, rfl⟩
      rw [hsg] at HSG hsn
      have hsn' : (sg != 0) = true := by simpa using hsn
      have HY0 := zH hy0
      clear hsg hy0
      go_wp2_with fail
      refine HSG.out.mono ?_
      rintro e w7 ⟨rfl, hb⟩
      replace J0 := zH (J0.out.to hb)
      replace J1 := zH (J1.out.to hb)
      replace J2 := zH (J2.out.to hb)
      replace JB := zH (JB.out.trans (hb.mono (by omega)))
      replace HX := zH (HX.out.to hb)
      replace HY := zH (HY.out.to hb)
      have hs27 : S + 2 < w7.heap.size := J2.out.1
      clear hb k1 hs2w
      obtain ⟨q, hq⟩ : ∃ q, x / y = q := ⟨_, rfl⟩
      obtain ⟨m, hm⟩ : ∃ m, x / y * y = m := ⟨_, rfl⟩
      obtain ⟨r, hr⟩ : ∃ r, x - x / y * y = r := ⟨_, rfl⟩
      have HM : Hid (0 ≤ x ∧ 0 < y ∧ 0 ≤ q ∧ q ≤ x ∧ 0 ≤ m ∧ m ≤ x ∧ 0 ≤ r ∧ r < y ∧ Int.gcd y r = Int.gcd x y) := zH (by
        have h0 := HY0.out
        obtain ⟨hx, hy, -⟩ := HH.out
        have h := mod_facts hx (by omega : 0 < y)
        rw [hr, hm, hq] at h
        exact ⟨hx, by omega, h⟩)
      have HFL : Hid (∀ W, Below w7.heap.size w7 W → Calls Tryz.prog 170 #[.agg #[.int .i64 sx, .slice ax nx cx], .agg #[.int .i64 sy, .slice ay ny cy]] W fun e w1 => WPost [] q W e w1) := zH (fun W hb => by
        obtain ⟨hx, hy, hg, e1, e2, -⟩ := HH.out
        have := WideFloor_any x y ax ay _ _ W (HX.out.to hb) (HY.out.to hb) (by omega) (by omega) HM.out.2.1
        rw [hq] at this
        exact this)
      have HMU : Hid (∀ W aF vF, Below w7.heap.size w7 W → RW W aF vF q → Calls Tryz.prog 86 #[vF, .agg #[.int .i64 sy, .slice ay ny cy]] W fun e w1 => WPost [] m W e w1) := zH (fun W aF vF hb hv => by
        obtain ⟨hx, hy, hg, e1, e2, -⟩ := HH.out
        obtain ⟨-, -, q0, q1, -⟩ := HM.out
        have := WideMul_any q y aF ay _ _ W hv (HY.out.to hb) (Nat.le_trans (dg_le (by omega) e1) (by decide)) (by omega)
        rw [← hq, hm] at this
        exact this)
      have HSB : Hid (∀ W aM vM, Below w7.heap.size w7 W → RW W aM vM m → Calls Tryz.prog 126 #[.agg #[.int .i64 sx, .slice ax nx cx], vM] W fun e w1 => WPost [(ax, x), (aM, m)] r W e w1) := zH (fun W aM vM hb hv => by
        obtain ⟨hx, hy, hg, e1, e2, -⟩ := HH.out
        obtain ⟨-, -, -, -, m0, m1, -⟩ := HM.out
        have := WideSub_any x m ax aM _ _ W (HX.out.to hb) hv (by omega) (Nat.le_trans (dg_le (by omega) e1) (by decide))
        rw [← hm, hr] at this
        rw [← hm]
        exact this)
      clear hq hm hr
      go_upto_region 3 with (fail)
      go_cut [5] (fun s5 wc => ∃ (B : Nat) (s : Int) (a : Option Addr) (n c : Nat), s5 = .pointer (some ⟨B, 0, none⟩) ∧ Hid (Blk wc B #[.int .i64 s, .slice a n c]) ∧ Hid (RW wc a (.agg #[.int .i64 s, .slice a n c]) r) ∧ Hid (LocI (S + 3) a1 z1 a2 z2 a r) ∧ Hid (Below w7.heap.size w7 wc) ∧ Hid (w7.heap.size ≤ B))
      case first =>
        refine wp_region_tree (by kernel_rfl) (fun wd hwd => ?_)
        have T := zH hwd
        clear hwd
        refine WTq 0 ?_; apply Exists.intro; refine ⟨fun w1 hb1 => ?_, ?_⟩; (focus (((obtain ⟨-, k0, -⟩ := J0.out.to (T.out.trans hb1); obtain ⟨-, k1, -⟩ := J1.out.to (T.out.trans hb1)); have hb1 := zH hb1; go_simp); (try (go_bits; try go_simp)); (try (rw [if_pos (by omega)]; try go_simp)); (first | done | (with_reducible rfl) | exact rfl)))
        simp only [Act.put, zzT, zzO, zzS]
        refine WTq 1 ?_; apply Exists.intro; refine ⟨fun w1 hb1 => ?_, ?_⟩; (focus (((obtain ⟨-, k0, -⟩ := J0.out.to (T.out.trans hb1); obtain ⟨-, k1, -⟩ := J1.out.to (T.out.trans hb1)); have hb1 := zH hb1; go_simp); (try (go_bits; try go_simp)); (try (rw [if_pos (by omega)]; try go_simp)); (first | done | (with_reducible rfl) | exact rfl)))
        simp only [Act.put, zzT, zzO, zzS]
        refine WTq 2 ?_; apply Exists.intro; refine ⟨fun w1 hb1 => ?_, ?_⟩; (focus (((obtain ⟨-, k0, -⟩ := J0.out.to (T.out.trans hb1); obtain ⟨-, k1, -⟩ := J1.out.to (T.out.trans hb1)); have hb1 := zH hb1; go_simp); (try (go_bits; try go_simp)); (try (rw [if_pos (by omega)]; try go_simp)); (first | done | (with_reducible rfl) | exact rfl)))
        simp only [Act.put, zzT, zzO, zzS]
        refine WTq 4 ?_; apply Exists.intro; refine ⟨fun w1 hb1 => ?_, ?_⟩; (focus (((obtain ⟨-, k0, -⟩ := J0.out.to (T.out.trans hb1); obtain ⟨-, k1, -⟩ := J1.out.to (T.out.trans hb1)); have hb1 := zH hb1; go_simp); (try (go_bits; try go_simp)); (try (rw [if_pos (by omega)]; try go_simp)); (first | done | (with_reducible rfl) | exact rfl)))
        simp only [Act.put, zzT, zzO, zzS]
        refine WT_two 3 7 rfl rfl (by kernel_rfl) ?_ ?_
        · skip
          unfold stepT
          go_wp2_with fail
          refine (HFL.out _ T.out).mono ?_
          rintro e wF ⟨aF, vF, rfl, hvF, hb, -⟩
          have HVF := zH hvF
          clear hvF
          have hbd := zH (hb.mono T.out.size)
          replace T := zH (T.out.trans hbd.out)
          clear hb
          go_wp2_with fail
          refine ⟨hbd.out, ?_⟩
          clear hbd
          refine WT_two 5 7 rfl rfl (by kernel_rfl) ?_ ?_
          · skip
            unfold stepT
            go_wp2_with fail
            refine (HMU.out _ aF vF T.out HVF.out).mono ?_
            rintro e wM ⟨aM, vM, rfl, hvM, hb, hlM⟩
            have HVM := zH hvM
            have HLM := zH (fun (P : Nat → Prop) (h : ∀ b, S + 3 ≤ b → P b) => hlM P (fun b hb => h b (by have : w7.heap.size ≤ wF.heap.size := T.out.size; omega)) (fun i hi => by cases hi))
            have HLMB := zH hvM.loc
            clear hvM hlM
            have hbd := zH (hb.mono T.out.size)
            replace T := zH (T.out.trans hbd.out)
            clear hb
            go_wp2_with fail
            refine ⟨hbd.out, ?_⟩
            clear hbd
            refine WT_two 6 7 rfl rfl (by kernel_rfl) ?_ ?_
            · skip
              unfold stepT
              go_wp2_with fail
              refine (HSB.out _ aM vM T.out HVM.out).mono ?_
              rintro e wS ⟨aS, vS, rfl, hvS, hb, hlS⟩
              have HVS := zH hvS
              have HLS : Hid (LocI (S + 3) a1 z1 a2 z2 aS r) := zH (fun P h p1 p2 => hlS P (fun b hb => h b (by have : w7.heap.size ≤ wM.heap.size := T.out.size; omega)) (fun i hi => by
                simp only [List.mem_cons, List.not_mem_nil, or_false] at hi
                rcases hi with rfl | rfl
                · exact LX.out P h p1 p2
                · exact HLM.out P h))
              clear hlS
              have hbd := zH (hb.mono T.out.size)
              replace T := zH (T.out.trans hbd.out)
              clear hb
              obtain ⟨sS, nS, cS, rfl⟩ := hvS.ex
              clear hvS
              go_wp2_with fail
              refine ⟨hbd.out, ?_⟩
              clear hbd
              refine WT_one 7 rfl (by kernel_rfl) ?_
              unfold stepT
              go_wp2_with fail
              have hbd : Hid (Below w7.heap.size wS (wS.alloc (.cells #[.int .i64 0, .slice none 0 0] 63))) := zH ((Below.refl _ _).alloc T.out.size _)
              refine ⟨hbd.out, ?_⟩
              have KB := zH (Blk.new wS #[.int .i64 0, .slice none 0 0] 63)
              have hBw : w7.heap.size ≤ wS.heap.size := T.out.size
              replace T := zH (T.out.trans hbd.out)
              have HNB := zH (HVS.out.loc.imp (Q := fun b => b ≠ wS.heap.size) (fun b hb => by omega))
              replace HVS := zH (HVS.out.to (bAlloc (bSelf _) (.cells #[.int .i64 0, .slice none 0 0] 63)))
              clear hbd
              obtain ⟨wA, hwA⟩ : ∃ wA, wS.alloc (.cells #[.int .i64 0, .slice none 0 0] 63) = wA := ⟨_, rfl⟩
              rw [hwA] at T KB HVS ⊢
              obtain ⟨B, hB⟩ : ∃ B, wS.heap.size = B := ⟨_, rfl⟩
              rw [hB] at KB hBw HNB ⊢
              clear hwA hB
              refine WT_one 8 rfl (by kernel_rfl) ?_
              unfold stepT
              obtain ⟨hkb, kb, fb⟩ := KB.out
              go_wp2_with fail
              clear kb fb
              refine ⟨((Below.refl _ _).setCell (p := ⟨B, 0, none⟩) (by dsimp only; omega) _).setCell (p := ⟨B, 1, none⟩) (by dsimp only; omega) _, ?_⟩
              refine WT_done (by kernel_rfl) ?_
              go_wp2_with fail
              go_meet
              case rel => exact ⟨B, sS, aS, nS, cS, rfl, zH ((KB.out.set 0 (.int .i64 sS)).set 1 (.slice aS nS cS)), zH (HVS.out.set2' HNB.out _ _), HLS, zH ((T.out.setCell (p := ⟨B, 0, none⟩) (by dsimp only; omega) _).setCell (p := ⟨B, 1, none⟩) (by dsimp only; omega) _), zH hBw⟩
            · skip
              unfold stepT
              go_wp2_with fail
              have hbd : Hid (Below w7.heap.size wM (wM.alloc (.cells #[.int .i64 0, .slice none 0 0] 63))) := zH ((Below.refl _ _).alloc T.out.size _)
              refine ⟨hbd.out, ?_⟩
              have KB := zH (Blk.new wM #[.int .i64 0, .slice none 0 0] 63)
              have hBw : w7.heap.size ≤ wM.heap.size := T.out.size
              replace T := zH (T.out.trans hbd.out)
              replace HVM := zH (HVM.out.to (bAlloc (bSelf _) (.cells #[.int .i64 0, .slice none 0 0] 63)))
              replace HLMB := zH (HLMB.out.imp (Q := fun b => b ≠ wM.heap.size) (fun b hb => by omega))
              clear hbd
              obtain ⟨wA, hwA⟩ : ∃ wA, wM.alloc (.cells #[.int .i64 0, .slice none 0 0] 63) = wA := ⟨_, rfl⟩
              rw [hwA] at T KB HVM ⊢
              obtain ⟨B, hB⟩ : ∃ B, wM.heap.size = B := ⟨_, rfl⟩
              rw [hB] at KB hBw HLMB ⊢
              clear hwA hB
              refine WT_one 6 rfl (by kernel_rfl) ?_
              unfold stepT
              go_wp2_with fail
              refine (HSB.out _ aM vM T.out HVM.out).mono ?_
              rintro e wS ⟨aS, vS, rfl, hvS, hb, hlS⟩
              have HVS := zH hvS
              have HLS : Hid (LocI (S + 3) a1 z1 a2 z2 aS r) := zH (fun P h p1 p2 => hlS P (fun b hb => h b (by have : w7.heap.size ≤ wA.heap.size := T.out.size; omega)) (fun i hi => by
                simp only [List.mem_cons, List.not_mem_nil, or_false] at hi
                rcases hi with rfl | rfl
                · exact LX.out P h p1 p2
                · exact HLM.out P h))
              have HNB : Hid (Loc (fun b => b ≠ B) aS r) := zH (hlS (fun b => b ≠ B) (fun b hb => by have : B < wA.heap.size := KB.out.1; omega) (fun i hi => by
                simp only [List.mem_cons, List.not_mem_nil, or_false] at hi
                rcases hi with rfl | rfl
                · exact HX.out.loc.imp (fun b hb => by omega)
                · exact HLMB.out))
              clear hlS
              have hbd := zH (hb.mono T.out.size)
              replace KB := zH (KB.out.to hb)
              replace T := zH (T.out.trans hbd.out)
              clear hb
              obtain ⟨sS, nS, cS, rfl⟩ := hvS.ex
              clear hvS
              go_wp2_with fail
              refine ⟨hbd.out, ?_⟩
              clear hbd
              refine WT_one 8 rfl (by kernel_rfl) ?_
              unfold stepT
              obtain ⟨hkb, kb, fb⟩ := KB.out
              go_wp2_with fail
              clear kb fb
              refine ⟨((Below.refl _ _).setCell (p := ⟨B, 0, none⟩) (by dsimp only; omega) _).setCell (p := ⟨B, 1, none⟩) (by dsimp only; omega) _, ?_⟩
              refine WT_done (by kernel_rfl) ?_
              go_wp2_with fail
              go_meet
              case rel => exact ⟨B, sS, aS, nS, cS, rfl, zH ((KB.out.set 0 (.int .i64 sS)).set 1 (.slice aS nS cS)), zH (HVS.out.set2' HNB.out _ _), HLS, zH ((T.out.setCell (p := ⟨B, 0, none⟩) (by dsimp only; omega) _).setCell (p := ⟨B, 1, none⟩) (by dsimp only; omega) _), zH hBw⟩
          · skip
            unfold stepT
            go_wp2_with fail
            have hbd : Hid (Below w7.heap.size wF (wF.alloc (.cells #[.int .i64 0, .slice none 0 0] 63))) := zH ((Below.refl _ _).alloc T.out.size _)
            refine ⟨hbd.out, ?_⟩
            have KB := zH (Blk.new wF #[.int .i64 0, .slice none 0 0] 63)
            have hBw : w7.heap.size ≤ wF.heap.size := T.out.size
            replace T := zH (T.out.trans hbd.out)
            replace HVF := zH (HVF.out.to (bAlloc (bSelf _) (.cells #[.int .i64 0, .slice none 0 0] 63)))
            clear hbd
            obtain ⟨wA, hwA⟩ : ∃ wA, wF.alloc (.cells #[.int .i64 0, .slice none 0 0] 63) = wA := ⟨_, rfl⟩
            rw [hwA] at T KB HVF ⊢
            obtain ⟨B, hB⟩ : ∃ B, wF.heap.size = B := ⟨_, rfl⟩
            rw [hB] at KB hBw ⊢
            clear hwA hB
            refine WT_one 5 rfl (by kernel_rfl) ?_
            unfold stepT
            go_wp2_with fail
            refine (HMU.out _ aF vF T.out HVF.out).mono ?_
            rintro e wM ⟨aM, vM, rfl, hvM, hb, hlM⟩
            have HVM := zH hvM
            have HLM := zH (fun (P : Nat → Prop) (h : ∀ b, S + 3 ≤ b → P b) => hlM P (fun b hb => h b (by have : w7.heap.size ≤ wA.heap.size := T.out.size; omega)) (fun i hi => by cases hi))
            have HLMB := zH (hlM (fun b => b ≠ B) (fun b hb => by have : B < wA.heap.size := KB.out.1; omega) (fun i hi => by cases hi))
            clear hvM hlM
            have hbd := zH (hb.mono T.out.size)
            replace KB := zH (KB.out.to hb)
            replace T := zH (T.out.trans hbd.out)
            clear hb
            go_wp2_with fail
            refine ⟨hbd.out, ?_⟩
            clear hbd
            refine WT_one 6 rfl (by kernel_rfl) ?_
            unfold stepT
            go_wp2_with fail
            refine (HSB.out _ aM vM T.out HVM.out).mono ?_
            rintro e wS ⟨aS, vS, rfl, hvS, hb, hlS⟩
            have HVS := zH hvS
            have HLS : Hid (LocI (S + 3) a1 z1 a2 z2 aS r) := zH (fun P h p1 p2 => hlS P (fun b hb => h b (by have : w7.heap.size ≤ wM.heap.size := T.out.size; omega)) (fun i hi => by
              simp only [List.mem_cons, List.not_mem_nil, or_false] at hi
              rcases hi with rfl | rfl
              · exact LX.out P h p1 p2
              · exact HLM.out P h))
            have HNB : Hid (Loc (fun b => b ≠ B) aS r) := zH (hlS (fun b => b ≠ B) (fun b hb => by have : B < wM.heap.size := KB.out.1; omega) (fun i hi => by
              simp only [List.mem_cons, List.not_mem_nil, or_false] at hi
              rcases hi with rfl | rfl
              · exact HX.out.loc.imp (fun b hb => by omega)
              · exact HLMB.out))
            clear hlS
            have hbd := zH (hb.mono T.out.size)
            replace KB := zH (KB.out.to hb)
            replace T := zH (T.out.trans hbd.out)
            clear hb
            obtain ⟨sS, nS, cS, rfl⟩ := hvS.ex
            clear hvS
            go_wp2_with fail
            refine ⟨hbd.out, ?_⟩
            clear hbd
            refine WT_one 8 rfl (by kernel_rfl) ?_
            unfold stepT
            obtain ⟨hkb, kb, fb⟩ := KB.out
            go_wp2_with fail
            clear kb fb
            refine ⟨((Below.refl _ _).setCell (p := ⟨B, 0, none⟩) (by dsimp only; omega) _).setCell (p := ⟨B, 1, none⟩) (by dsimp only; omega) _, ?_⟩
            refine WT_done (by kernel_rfl) ?_
            go_wp2_with fail
            go_meet
            case rel => exact ⟨B, sS, aS, nS, cS, rfl, zH ((KB.out.set 0 (.int .i64 sS)).set 1 (.slice aS nS cS)), zH (HVS.out.set2' HNB.out _ _), HLS, zH ((T.out.setCell (p := ⟨B, 0, none⟩) (by dsimp only; omega) _).setCell (p := ⟨B, 1, none⟩) (by dsimp only; omega) _), zH hBw⟩
        · skip
          unfold stepT
          go_wp2_with fail
          have hbd : Hid (Below w7.heap.size wd (wd.alloc (.cells #[.int .i64 0, .slice none 0 0] 63))) := zH ((Below.refl _ _).alloc T.out.size _)
          refine ⟨hbd.out, ?_⟩
          have KB := zH (Blk.new wd #[.int .i64 0, .slice none 0 0] 63)
          have hBw : w7.heap.size ≤ wd.heap.size := T.out.size
          replace T := zH (T.out.trans hbd.out)
          clear hbd
          obtain ⟨wA, hwA⟩ : ∃ wA, wd.alloc (.cells #[.int .i64 0, .slice none 0 0] 63) = wA := ⟨_, rfl⟩
          rw [hwA] at T KB ⊢
          obtain ⟨B, hB⟩ : ∃ B, wd.heap.size = B := ⟨_, rfl⟩
          rw [hB] at KB hBw ⊢
          clear hwA hB
          refine WT_one 3 rfl (by kernel_rfl) ?_
          unfold stepT
          go_wp2_with fail
          refine (HFL.out _ T.out).mono ?_
          rintro e wF ⟨aF, vF, rfl, hvF, hb, -⟩
          have HVF := zH hvF
          clear hvF
          have hbd := zH (hb.mono T.out.size)
          replace KB := zH (KB.out.to hb)
          replace T := zH (T.out.trans hbd.out)
          clear hb
          go_wp2_with fail
          refine ⟨hbd.out, ?_⟩
          clear hbd
          refine WT_one 5 rfl (by kernel_rfl) ?_
          unfold stepT
          go_wp2_with fail
          refine (HMU.out _ aF vF T.out HVF.out).mono ?_
          rintro e wM ⟨aM, vM, rfl, hvM, hb, hlM⟩
          have HVM := zH hvM
          have HLM := zH (fun (P : Nat → Prop) (h : ∀ b, S + 3 ≤ b → P b) => hlM P (fun b hb => h b (by have : w7.heap.size ≤ wF.heap.size := T.out.size; omega)) (fun i hi => by cases hi))
          have HLMB := zH (hlM (fun b => b ≠ B) (fun b hb => by have : B < wF.heap.size := KB.out.1; omega) (fun i hi => by cases hi))
          clear hvM hlM
          have hbd := zH (hb.mono T.out.size)
          replace KB := zH (KB.out.to hb)
          replace T := zH (T.out.trans hbd.out)
          clear hb
          go_wp2_with fail
          refine ⟨hbd.out, ?_⟩
          clear hbd
          refine WT_one 6 rfl (by kernel_rfl) ?_
          unfold stepT
          go_wp2_with fail
          refine (HSB.out _ aM vM T.out HVM.out).mono ?_
          rintro e wS ⟨aS, vS, rfl, hvS, hb, hlS⟩
          have HVS := zH hvS
          have HLS : Hid (LocI (S + 3) a1 z1 a2 z2 aS r) := zH (fun P h p1 p2 => hlS P (fun b hb => h b (by have : w7.heap.size ≤ wM.heap.size := T.out.size; omega)) (fun i hi => by
            simp only [List.mem_cons, List.not_mem_nil, or_false] at hi
            rcases hi with rfl | rfl
            · exact LX.out P h p1 p2
            · exact HLM.out P h))
          have HNB : Hid (Loc (fun b => b ≠ B) aS r) := zH (hlS (fun b => b ≠ B) (fun b hb => by have : B < wM.heap.size := KB.out.1; omega) (fun i hi => by
            simp only [List.mem_cons, List.not_mem_nil, or_false] at hi
            rcases hi with rfl | rfl
            · exact HX.out.loc.imp (fun b hb => by omega)
            · exact HLMB.out))
          clear hlS
          have hbd := zH (hb.mono T.out.size)
          replace KB := zH (KB.out.to hb)
          replace T := zH (T.out.trans hbd.out)
          clear hb
          obtain ⟨sS, nS, cS, rfl⟩ := hvS.ex
          clear hvS
          go_wp2_with fail
          refine ⟨hbd.out, ?_⟩
          clear hbd
          refine WT_one 8 rfl (by kernel_rfl) ?_
          unfold stepT
          obtain ⟨hkb, kb, fb⟩ := KB.out
          go_wp2_with fail
          clear kb fb
          refine ⟨((Below.refl _ _).setCell (p := ⟨B, 0, none⟩) (by dsimp only; omega) _).setCell (p := ⟨B, 1, none⟩) (by dsimp only; omega) _, ?_⟩
          refine WT_done (by kernel_rfl) ?_
          go_wp2_with fail
          go_meet
          case rel => exact ⟨B, sS, aS, nS, cS, rfl, zH ((KB.out.set 0 (.int .i64 sS)).set 1 (.slice aS nS cS)), zH (HVS.out.set2' HNB.out _ _), HLS, zH ((T.out.setCell (p := ⟨B, 0, none⟩) (by dsimp only; omega) _).setCell (p := ⟨B, 1, none⟩) (by dsimp only; omega) _), zH hBw⟩
      case rest =>
        obtain ⟨B, s, a, n, c, rfl, KB, HR, LR, HC, hBw⟩ := hcut
        obtain ⟨wo, hwo⟩ : ∃ wo, wo = wc := ⟨_, rfl⟩
        subst hwo
        replace J0 := zH (J0.out.to HC.out)
        replace J1 := zH (J1.out.to HC.out)
        replace J2 := zH (J2.out.to HC.out)
        replace JB := zH (JB.out.trans (HC.out.mono (by omega)))
        replace HY := zH (HY.out.to HC.out)
        have hBB := hBw.out
        clear HC hBw HX HFL HMU HSB
        have hswo : S + 2 < wo.heap.size := J2.out.1
        go_upto_region 4 with (fail)
        refine wp_region_treeN S (by kernel_rfl) (fun wd hwd => ?_)
        replace J0 := zH (J0.out.to (hwd.mono (Nat.le_refl _)))
        replace J1 := zH (J1.out.to hwd)
        replace J2 := zH (J2.out.to hwd)
        replace KB := zH (KB.out.to hwd)
        replace HY := zH (HY.out.to hwd)
        replace HR := zH (HR.out.to hwd)
        replace JB := zH (JB.out.trans (hwd.mono (by omega)))
        clear hwd
        have HEND : Hid (∀ w6, w6 = (((wd.setCell ⟨S, 0, none⟩ (.int .i64 sy)).setCell ⟨S, 1, none⟩ (.slice ay ny cy)).setCell ⟨S + 1, 0, none⟩ (.int .i64 s)).setCell ⟨S + 1, 1, none⟩ (.slice a n c) →
            r.natAbs < gk ∧ ∃ (x y : Int) (ax ay : Option Addr) (sx sy : Int) (nx ny cx cy : Nat), Hid (Blk w6 S #[.int .i64 sx, .slice ax nx cx]) ∧ Hid (Blk w6 (S + 1) #[.int .i64 sy, .slice ay ny cy]) ∧ Hid (Blk w6 (S + 2) #[.int .i64 0, .slice none 0 0]) ∧ Hid (Below S w w6) ∧
    Hid (RW w6 ax (.agg #[.int .i64 sx, .slice ax nx cx]) x) ∧ Hid (RW w6 ay (.agg #[.int .i64 sy, .slice ay ny cy]) y) ∧ Hid (LocI (S + 3) a1 z1 a2 z2 ax x) ∧ Hid (LocI (S + 3) a1 z1 a2 z2 ay y) ∧ Hid (0 ≤ x ∧ 0 ≤ y ∧ Int.gcd x y = Int.gcd z1 z2 ∧ (dg x).length ≤ 100 ∧ (dg y).length ≤ 100 ∧ y.natAbs = r.natAbs)) := zH (fun w6 hw6 => by
          subst hw6
          obtain ⟨hx, hy, hg, e1, e2, e3⟩ := HH.out
          obtain ⟨-, y0, -, -, -, -, r0, r1, hg2⟩ := HM.out
          refine ⟨by omega, y, r, ay, a, sy, s, ny, n, cy, c, zH ?_, zH ?_, zH ?_, zH ?_, zH ?_, zH ?_, LY, LR, zH ⟨hy, r0, hg2.trans hg, e2, dg_le (by omega) e2, rfl⟩⟩
          · exact (((J0.out.set 0 (.int .i64 sy)).set 1 (.slice ay ny cy)).other (p := ⟨S + 1, 0, none⟩) (by dsimp only; omega) _).other (p := ⟨S + 1, 1, none⟩) (by dsimp only; omega) _
          · exact (((J1.out.other (p := ⟨S, 0, none⟩) (by dsimp only; omega) _).other (p := ⟨S, 1, none⟩) (by dsimp only; omega) _).set 0 (.int .i64 s)).set 1 (.slice a n c)
          · exact (((J2.out.other (p := ⟨S, 0, none⟩) (by dsimp only; omega) _).other (p := ⟨S, 1, none⟩) (by dsimp only; omega) _).other (p := ⟨S + 1, 0, none⟩) (by dsimp only; omega) _).other (p := ⟨S + 1, 1, none⟩) (by dsimp only; omega) _
          · exact (((JB.out.setCell (p := ⟨S, 0, none⟩) (by dsimp only; omega) _).setCell (p := ⟨S, 1, none⟩) (by dsimp only; omega) _).setCell (p := ⟨S + 1, 0, none⟩) (by dsimp only; omega) _).setCell (p := ⟨S + 1, 1, none⟩) (by dsimp only; omega) _
          · have h := LY.out (fun b => b < S ∨ S + 3 ≤ b) (fun b hb => .inr hb) (HL1.out.imp (fun b hb => .inl hb)) (HL2.out.imp (fun b hb => .inl hb))
            exact (HY.out.set2' (h.imp (fun b hb => by omega)) _ _).set2' (h.imp (fun b hb => by omega)) _ _
          · have h := LR.out (fun b => b < S ∨ S + 3 ≤ b) (fun b hb => .inr hb) (HL1.out.imp (fun b hb => .inl hb)) (HL2.out.imp (fun b hb => .inl hb))
            exact (HR.out.set2' (h.imp (fun b hb => by omega)) _ _).set2' (h.imp (fun b hb => by omega)) _ _)
        obtain ⟨hq0, k0, f0⟩ := J0.out
        obtain ⟨hq1, k1, f1⟩ := J1.out
        obtain ⟨-, kb, -⟩ := KB.out
        have hbs : Below S wd ((wd.setCell ⟨S, 0, none⟩ (.int .i64 sy)).setCell ⟨S, 1, none⟩ (.slice ay ny cy)) := ((Below.refl _ _).setCell (p := ⟨S, 0, none⟩) (by dsimp only; omega) _).setCell (p := ⟨S, 1, none⟩) (by dsimp only; omega) _
        obtain ⟨wE, hwE⟩ : ∃ wE, (wd.setCell ⟨S, 0, none⟩ (.int .i64 sy)).setCell ⟨S, 1, none⟩ (.slice ay ny cy) = wE := ⟨_, rfl⟩
        have hE1 : Hid (Blk wE (S + 1) #[.int .i64 sy, .slice ay ny cy]) := by subst hwE; exact zH ((J1.out.other (p := ⟨S, 0, none⟩) (by dsimp only; omega) _).other (p := ⟨S, 1, none⟩) (by dsimp only; omega) _)
        have hEB : Hid (Blk wE B #[.int .i64 s, .slice a n c]) := by subst hwE; exact zH ((KB.out.other (p := ⟨S, 0, none⟩) (by dsimp only; omega) _).other (p := ⟨S, 1, none⟩) (by dsimp only; omega) _)
        rw [hwE] at hbs
        have HBS := zH hbs
        have HWE := zH hwE
        clear hbs hwE
        have hbt : Hid (Below S wE ((wE.setCell ⟨S + 1, 0, none⟩ (.int .i64 s)).setCell ⟨S + 1, 1, none⟩ (.slice a n c))) := zH (((Below.refl _ _).setCell (p := ⟨S + 1, 0, none⟩) (by dsimp only; omega) _).setCell (p := ⟨S + 1, 1, none⟩) (by dsimp only; omega) _)
        refine WT_two 0 1 rfl rfl (by kernel_rfl) ?_ ?_
        · skip
          unfold stepT
          go_wp2_with fail
          refine ⟨Below.refl _ _, ?_⟩
          refine WT_two 1 2 rfl rfl (by kernel_rfl) ?_ ?_
          · skip
            unfold stepT
            go_wp2_with fail
            refine ⟨Below.refl _ _, ?_⟩
            refine WT_one 2 rfl (by kernel_rfl) ?_
            unfold stepT
            go_wp2_with fail
            clear k0 f0 k1 f1 kb
            rw [HWE.out]
            refine ⟨HBS.out, ?_⟩
            refine WT_one 3 rfl (by kernel_rfl) ?_
            unfold stepT
            obtain ⟨hq1, k1, f1⟩ := hE1.out
            go_wp2_with fail
            clear k1 f1
            refine ⟨hbt.out, ?_⟩
            refine WT_done (by kernel_rfl) ?_
            rw [← HWE.out]
            have HG := zH (HEND.out _ rfl)
            go_wp2_with fail
            go_roundg r.natAbs
            case measure => exact HG.out.1
            case rel => exact HG.out.2
          · skip
            unfold stepT
            go_wp2_with fail
            clear k0 f0 k1 f1 kb
            rw [HWE.out]
            refine ⟨HBS.out, ?_⟩
            refine WT_one 1 rfl (by kernel_rfl) ?_
            unfold stepT
            obtain ⟨-, kb, -⟩ := hEB.out
            go_wp2_with fail
            refine ⟨Below.refl _ _, ?_⟩
            refine WT_one 3 rfl (by kernel_rfl) ?_
            unfold stepT
            obtain ⟨hq1, k1, f1⟩ := hE1.out
            go_wp2_with fail
            clear k1 f1
            refine ⟨hbt.out, ?_⟩
            refine WT_done (by kernel_rfl) ?_
            rw [← HWE.out]
            have HG := zH (HEND.out _ rfl)
            go_wp2_with fail
            go_roundg r.natAbs
            case measure => exact HG.out.1
            case rel => exact HG.out.2
        · skip
          unfold stepT
          go_wp2_with fail
          refine ⟨Below.refl _ _, ?_⟩
          refine WT_one 0 rfl (by kernel_rfl) ?_
          unfold stepT
          go_wp2_with fail
          refine ⟨Below.refl _ _, ?_⟩
          refine WT_one 2 rfl (by kernel_rfl) ?_
          unfold stepT
          go_wp2_with fail
          clear k0 f0 k1 f1 kb
          rw [HWE.out]
          refine ⟨HBS.out, ?_⟩
          refine WT_one 3 rfl (by kernel_rfl) ?_
          unfold stepT
          obtain ⟨hq1, k1, f1⟩ := hE1.out
          go_wp2_with fail
          clear k1 f1
          refine ⟨hbt.out, ?_⟩
          refine WT_done (by kernel_rfl) ?_
          rw [← HWE.out]
          have HG := zH (HEND.out _ rfl)
          go_wp2_with fail
          go_roundg r.natAbs
          case measure => exact HG.out.1
          case rel => exact HG.out.2
end
end Go.Proofs.YtbpcapcgbnbknaaGreat
